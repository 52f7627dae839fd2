/- Quotients and remainders. -/
import Derived.Test.YtabfnclbehkcnaaAlSym
namespace Go.AL
open Go.RowKit
section
variable {P : Program} {n N : Nat} {F : Fr} {R : Toks} {d : Option Nat} {T t t' : TypeId} {pos : String} {after : Array Edge} {x y : Operand} {k : IntKind} {u v : Int}
theorem op_rem (hx : opd F x = some (eqP (.int k u))) (hy : opd F y = some (eqP (.int k v))) (h : decide (v = 0) = false) :
    OpJ P n N F R ⟨d, .binOp .rem t x y t', T, pos, after, none⟩ ⟨rdo x (eqP (.int k u)) ++ rdo y (eqP (.int k v)), [], [], [], [], eqP (.int k (u.tmod v))⟩ :=
  op_bin_raw hx hy fun W => by
    have h : ¬ v = 0 := by simpa using h
    simp [binOp, eqGuard, Op.intDiv, h]
theorem op_quo (hx : opd F x = some (eqP (.int k u))) (hy : opd F y = some (eqP (.int k v))) (h : decide (v = 0) = false) :
    OpJ P n N F R ⟨d, .binOp .quo t x y t', T, pos, after, none⟩ ⟨rdo x (eqP (.int k u)) ++ rdo y (eqP (.int k v)), [], [], [], [], eqP (.int k (k.wrap (u.tdiv v)))⟩ :=
  op_bin_raw hx hy fun W => by
    have h : ¬ v = 0 := by simpa using h
    simp [binOp, eqGuard, Op.intDiv, h]
/-- a value said otherwise -/
theorem OpJ.val {o : Oper} {rd : List (Nat × Pred)} {use : List (Nat × Id × Res)} {φ ψ : Pred} (h : OpJ P n N F R o ⟨rd, use, [], [], [], φ⟩) (e : φ = ψ) : OpJ P n N F R o ⟨rd, use, [], [], [], ψ⟩ := e ▸ h
end
end Go.AL
