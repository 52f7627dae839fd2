/- From what an argument reads as to what is known of its value. -/
import Derived.Test.YtabfnclbehkcnaaAlArith
import Derived.Deep.Slices
import Derived.OpenShut
import Derived.Below
import Derived.ProofKit
namespace Go.AL
open Go.RowKit Go.ChangeShapes Go.WideShapes Go.Deep

/-- all that lay in the world when the call began stays -/
def σW (W : World) : Sg := { w0 := W, n0 := W.heap.size, ρ := fun _ => none, z := fun _ => 0, c := fun b i => W.cell? ⟨b, i, none⟩ }
theorem models_W (W : World) : Models (σW W) (fun _ => none) W where
  base := Below.refl _ _
  n0 := Nat.le_refl _
  imm b i v h := h
  res n id r h := by cases h
  sep n m x y b _ h := by cases h
  used n x h := by cases h
  fin := ⟨0, fun _ _ _ => rfl⟩

/-- **a function that answers true at what it is handed** -/
theorem law_calls {P : Program} {f : FuncId} {pre : List Pred} (h : FnP P f pre (eqP (.bool true))) {W : World} {args : Array Value} (hs : args.size = pre.length) (ha : ∀ (i : Nat) (p : Pred), pre[i]? = some p → p.h (σW W) (args.getD i undef)) :
    Calls P f args W fun e W' => e = .returned (.bool true) ∧ Below W.heap.size W W' := by
  have := h (σW W) W (fun _ => none) args (fun _ => (0, 0)) 0 (models_W W) (by simp) (fun _ _ _ => rfl) (by intro j hj; omega) (by intro i j hi; omega) hs ha
  refine this.mono ?_
  rintro e W' ⟨v, σ', rfl, hle, _, hmod, hpost⟩
  have hb := hmod.base
  rw [hle.w0, hle.n0] at hb
  exact ⟨by rw [show v = .bool true from hpost], hb⟩

section
variable {H : Type} (enc : TypeId × Value → H) (P : Program) (W : World) (base : Nat) (spare : Nat → Bool) (held : Bool)
/-- whatever reads at the type is a thing of α -/
def Rd (t : TypeId) {α : Type} (f : α → List Pred) (ok : α → Prop) : Prop :=
  ∀ fuel cs x, DataW.trod enc P W base spare held fuel t cs = some x → ∃ a, ok a ∧ Vs (σW W) (f a) cs

variable {enc P W base spare held}
theorem Rd.map {t : TypeId} {α β : Type} {f : α → List Pred} {ok : α → Prop} {f' : β → List Pred} {ok' : β → Prop} (h : Rd enc P W base spare held t f ok) (g : α → β) (hf : ∀ a, f a = f' (g a)) (hok : ∀ a, ok a → ok' (g a)) : Rd enc P W base spare held t f' ok' := by
  intro fuel cs x hx
  obtain ⟨a, ha, hv⟩ := h fuel cs x hx
  exact ⟨g a, hok a ha, hf a ▸ hv⟩
theorem rd_int {t : TypeId} {k : IntKind} (ht : P.underlying t = some (.int k)) : Rd enc P W base spare held t (fun x : Int => [eqP (.int k x)]) (fun x => k.min ≤ x ∧ x ≤ k.max) := by
  intro fuel cs x hx
  obtain ⟨n, rfl, _, hw⟩ := DataW.trod_int ht hx
  refine ⟨n, by simpa [Lit.wf] using hw, rfl, fun j p u hp hu => ?_⟩
  cases j with
  | zero => simp at hp hu; subst hp; subst hu; exact ⟨rfl, rfl⟩
  | succ j => simp at hp
theorem rd_bool {t : TypeId} (ht : P.underlying t = some .bool) : Rd enc P W base spare held t (fun b : Bool => [eqP (.bool b)]) (fun _ => True) := by
  intro fuel cs x hx
  obtain ⟨n, rfl, _⟩ := DataW.trod_bool ht hx
  refine ⟨n, trivial, rfl, fun j p u hp hu => ?_⟩
  cases j with
  | zero => simp at hp hu; subst hp; subst hu; exact ⟨rfl, rfl⟩
  | succ j => simp at hp
theorem rd_string {t : TypeId} (ht : P.underlying t = some .string) : Rd enc P W base spare held t (fun b : ByteArray => [eqP (.string b)]) (fun b => b.size ≤ maxLen) := by
  intro fuel cs x hx
  obtain ⟨n, rfl, _, hs⟩ := DataW.trod_string ht hx
  refine ⟨n, hs, rfl, fun j p u hp hu => ?_⟩
  cases j with
  | zero => simp at hp hu; subst hp; subst hu; exact ⟨rfl, rfl⟩
  | succ j => simp at hp

theorem choose_list {α : Type} {Q : Nat → α → Prop} : ∀ (n : Nat), (∀ i, i < n → ∃ a, Q i a) → ∃ xs : List α, xs.length = n ∧ ∀ (i : Nat) (x : α), xs[i]? = some x → Q i x
  | 0, _ => ⟨[], rfl, fun i x h => by simp at h⟩
  | n + 1, h => by
    obtain ⟨xs, hl, hx⟩ := choose_list n fun i hi => h i (by omega)
    obtain ⟨a, ha⟩ := h n (by omega)
    refine ⟨xs ++ [a], by simp [hl], fun i x hi => ?_⟩
    rcases Nat.lt_or_ge i n with h1 | h1
    · rw [List.getElem?_append_left (by omega)] at hi
      exact hx i x hi
    · rw [List.getElem?_append_right (by omega), hl] at hi
      rcases Nat.eq_or_lt_of_le h1 with h2 | h2
      · subst h2; simp at hi; subst hi; exact ha
      · rw [List.getElem?_eq_none (by simp; omega)] at hi; cases hi

theorem rd_slice {t e : TypeId} {k : Nat} {α : Type} {f : α → List Pred} {ok : α → Prop} (ht : P.underlying t = some (.slice e)) (he : Rd enc P W base spare held e f ok) (hk : P.cellsOf e = k) (hk0 : 0 < k) :
    Rd enc P W base spare held t (fun xs : List α => [slP f k xs]) (fun xs => ∀ x ∈ xs, ok x) := by
  intro fuel cs x hx
  have one : ∀ {xs : List α} {v : Value}, (slP f k xs).h (σW W) v → Vs (σW W) [slP f k xs] [v] := fun {xs v} hv => ⟨rfl, fun j p u hp hu => by
    cases j with
    | zero => simp at hp hu; subst hp; subst hu; exact ⟨hv, One.sl f k xs _ _ hv⟩
    | succ j => simp at hp⟩
  rcases open_slice ht hx with ⟨rfl, _⟩ | ⟨a, len, cap, m, n, D, Pl, rfl, hb, hl, hm, hmm, _, hi⟩
  · exact ⟨[], by simp, one ⟨none, 0, rfl, Nat.le_refl _, by simp [maxLen], fun h => by simp at h⟩⟩
  · have hlm : len ≤ m := by rw [hmm]; split <;> omega
    obtain ⟨xs, hxl, hxs⟩ := choose_list (Q := fun i (x : α) => ok x ∧ ∃ cs', W.cells? base (a.add (i * k)) k = some cs' ∧ Vs (σW W) (f x) cs') len fun i hil => by
      obtain ⟨cs', hc, ht'⟩ := hi i (by omega)
      obtain ⟨x, hok, hv⟩ := he _ _ _ ht'
      rw [hk] at hc
      exact ⟨x, hok, cs', hc, hv⟩
    subst hxl
    refine ⟨xs, fun x hx => ?_, one ⟨some a, cap, rfl, hl, hm, fun hp => ?_⟩⟩
    · obtain ⟨i, hi'⟩ := List.mem_iff_getElem?.1 hx
      exact (hxs i x hi').1
    · obtain ⟨b, off, spot⟩ := a
      have hspot : spot = none := by
        obtain ⟨_, cs', hc, hv⟩ := hxs 0 xs[0] (List.getElem?_eq_getElem hp)
        obtain ⟨_, hcl, hat⟩ := World.cells?_some hc
        have h0 := hat 0 hk0
        rw [List.getElem?_eq_getElem (show 0 < cs'.length by omega)] at h0
        simpa [Addr.add] using World.cell?_spot h0
      subst hspot
      refine ⟨b, off, rfl, fun i x hx j p hpj => ?_⟩
      obtain ⟨_, cs', hc, hv⟩ := hxs i x hx
      obtain ⟨_, hcl, hat⟩ := World.cells?_some hc
      have hj : j < cs'.length := by rw [hv.1]; exact (List.getElem?_eq_some_iff.1 hpj).1
      have h0 := hat j (by omega)
      rw [List.getElem?_eq_getElem hj] at h0
      refine ⟨cs'[j], ?_, hv.2 j p _ hpj (List.getElem?_eq_getElem hj)⟩
      simp only [addr_add] at h0
      show W.cell? ⟨b, off + i * k + j, none⟩ = some cs'[j]
      exact h0

/-! ### structs -/
def structB (P : Program) (t : TypeId) : Option (List (Nat × TypeId × Nat)) := match P.underlying t with | some (.struct fs) => some (fs.toList.map fun f => (f.offset, f.type, P.cellsOf f.type)) | _ => none
def RdFs (enc : TypeId × Value → H) (P : Program) (W : World) (base : Nat) (spare : Nat → Bool) (held : Bool) (m n0 : Nat) (fs : List (Nat × TypeId × Nat)) {α : Type} (f : α → List Pred) (ok : α → Prop) : Prop :=
  ∀ n (cs : List Value), cs.length = m → (∀ x ∈ fs, ∃ y, DataW.trod enc P W base spare held n x.2.1 ((cs.drop x.1).take x.2.2) = some y) → ∃ a, ok a ∧ Vs (σW W) (f a) (cs.drop n0)
theorem rdf_nil {m : Nat} : RdFs enc P W base spare held m m [] (fun _ : Unit => []) (fun _ => True) := fun n cs hl _ => ⟨(), trivial, by rw [List.drop_eq_nil_of_le (by omega)]; exact ⟨rfl, by simp⟩⟩
theorem rdf_cons {m n0 k : Nat} {t : TypeId} {fs : List (Nat × TypeId × Nat)} {α β : Type} {f : α → List Pred} {ok : α → Prop} {f' : β → List Pred} {ok' : β → Prop} (h : Rd enc P W base spare held t f ok) (hl : RdFs enc P W base spare held m (n0 + k) fs f' ok') :
    RdFs enc P W base spare held m n0 ((n0, t, k) :: fs) (fun x : α × β => f x.1 ++ f' x.2) (fun x => ok x.1 ∧ ok' x.2) := by
  intro n cs hcs hx
  obtain ⟨y, hy⟩ := hx (n0, t, k) (List.mem_cons_self ..)
  obtain ⟨a, ha, hv⟩ := h _ _ _ hy
  obtain ⟨b, hb, hw⟩ := hl n cs hcs fun x hx' => hx x (List.mem_cons_of_mem _ hx')
  refine ⟨(a, b), ⟨ha, hb⟩, ?_⟩
  have := hv.append hw
  rwa [← List.drop_drop, List.take_append_drop] at this
theorem rd_struct {t : TypeId} {fs : List (Nat × TypeId × Nat)} {m : Nat} {α : Type} {f : α → List Pred} {ok : α → Prop} (ht : structB P t = some fs) (hm : P.cellsOf t = m) (h : RdFs enc P W base spare held m 0 fs f ok) : Rd enc P W base spare held t f ok := by
  intro fuel cs x hx
  unfold structB at ht
  split at ht
  · rename_i fs' hu
    simp only [Option.some.injEq] at ht
    subst ht
    obtain ⟨xs, n, _, _, hl, hlen, hg⟩ := DataW.trod_struct hu hx
    have := h n cs (hl.trans hm) fun x hx => by
      obtain ⟨fd, hfd, rfl⟩ := List.mem_map.1 hx
      obtain ⟨i, hi⟩ := List.mem_iff_getElem?.1 hfd
      have hi' : fs'[i]? = some fd := by simpa using hi
      have hlt : i < xs.length := by rw [hlen]; exact (Array.getElem?_eq_some_iff.1 hi').1
      exact ⟨xs[i], by rw [hg i fd hi', List.getElem?_eq_getElem hlt]⟩
    simpa using this
  · cases ht

/-! ### arguments -/
theorem rd_one {t : TypeId} {α : Type} {p : α → Pred} {ok : α → Prop} {v : Value} {d : DataW H} {ps : List MemPlace} (h : Rd enc P W base spare held t (fun a => [p a]) ok) (h1 : v.cells = #[v]) (hd : DataW.Trod enc P W base spare held t v d ps) : ∃ a, ok a ∧ (p a).h (σW W) v := by
  obtain ⟨fuel, hf⟩ := hd
  rw [h1] at hf
  obtain ⟨a, ha, hv⟩ := h _ _ _ hf
  exact ⟨a, ha, (hv.2 0 _ v rfl rfl).1⟩
theorem rd_agg {t : TypeId} {α : Type} {f : α → List Pred} {ok : α → Prop} {v : Value} {d : DataW H} {ps : List MemPlace} {r : Reach} {b0 : Nat} (h : Rd enc P W base spare held t f ok) (hs : (structB P t).isSome = true) (hv : Value.okWide P W r b0 t v) (hd : DataW.Trod enc P W base spare held t v d ps) :
    ∃ a, ok a ∧ (aggP (f a)).h (σW W) v := by
  unfold structB at hs
  split at hs
  · rename_i fs hu
    obtain ⟨cs, rfl, _⟩ := okWide_struct hu hv
    obtain ⟨fuel, hf⟩ := hd
    obtain ⟨a, ha, hw⟩ := h _ _ _ hf
    exact ⟨a, ha, cs.toList, by simp, hw⟩
  · cases hs
theorem cells_int {k : IntKind} {t : TypeId} {v : Value} {r : Reach} {b0 : Nat} (ht : P.underlying t = some (.int k)) (hv : Value.okWide P W r b0 t v) : v.cells = #[v] := by
  obtain ⟨n, rfl⟩ := okWide_int ht hv; rfl
theorem cells_bool {t : TypeId} {v : Value} {r : Reach} {b0 : Nat} (ht : P.underlying t = some .bool) (hv : Value.okWide P W r b0 t v) : v.cells = #[v] := by
  obtain ⟨n, rfl⟩ := okWide_bool ht hv; rfl
theorem cells_slice {t e : TypeId} {v : Value} {r : Reach} {b0 : Nat} (ht : P.underlying t = some (.slice e)) (hv : Value.okWide P W r b0 t v) : v.cells = #[v] := by
  obtain ⟨a, l, c, rfl⟩ := okWide_slice ht hv; rfl
theorem cells_string {t : TypeId} {v : Value} {r : Reach} {b0 : Nat} (ht : P.underlying t = some .string) (hv : Value.okWide P W r b0 t v) : v.cells = #[v] := by
  obtain ⟨s, rfl⟩ := okWide_string ht hv; rfl
end
end Go.AL
namespace Go.AL
open Go.RowKit Go.ChangeShapes Go.WideShapes Go.Deep
def ArgsH (σ : Sg) : List Pred → List Value → Prop
  | [], [] => True
  | p :: ps, v :: vs => p.h σ v ∧ ArgsH σ ps vs
  | _, _ => False
theorem ArgsH.at_ {σ : Sg} : ∀ {ps : List Pred} {vs : List Value}, ArgsH σ ps vs → vs.length = ps.length ∧ ∀ (i : Nat) (p : Pred), ps[i]? = some p → p.h σ (vs.getD i undef)
  | [], [], _ => ⟨rfl, fun i p h => by simp at h⟩
  | p :: ps, v :: vs, h => by
    obtain ⟨h1, h2⟩ := h
    obtain ⟨g1, g2⟩ := ArgsH.at_ h2
    refine ⟨by simp [g1], fun i q hq => ?_⟩
    cases i with
    | zero => simp at hq; subst hq; simpa using h1
    | succ i => simpa using g2 i q (by simpa using hq)
  | [], _ :: _, h => h.elim
  | _ :: _, [], h => h.elim
theorem law_at {P : Program} {f : FuncId} {pre : List Pred} (h : FnP P f pre (eqP (.bool true))) {W : World} {vs : List Value} (ha : ArgsH (σW W) pre vs) :
    Calls P f vs.toArray W fun e W' => e = .returned (.bool true) ∧ Below W.heap.size W W' :=
  law_calls h (by simpa using ha.at_.1) fun i p hp => by
    have := ha.at_.2 i p hp
    simpa [Array.getD_eq_getD_getElem?, List.getD_eq_getElem?_getD] using this
end Go.AL
