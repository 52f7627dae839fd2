/- Arrays whose cells are said as a list. -/
import Derived.Test.YtagjjeofdcgcmaaAlGrow
namespace Go.AL
open Go.RowKit
section
variable {P : Program} {n N : Nat} {F : Fr} {R : Toks} {d : Option Nat} {T Ty : TypeId} {pos : String} {after : Array Edge}
/-- an array of zeros -/
theorem op_build_arr {s e : TypeId} {k m : Nat} {z : Value} {zs : List Pred} (hz : zeroB P s = some (some z)) (hzs : z.cells.toList.map eqP = zs) (h1 : z.cells.toList.all Value.oneCell' = true) (ha : arrB P s = some (m, e)) (hs : sizeB P e = some k) :
    OpJ P n N F R ⟨d, .build s #[], T, pos, after, none⟩ ⟨[], [], [], [], [], aggP zs⟩ :=
  opj_pure (fun y hy => by cases hy) fun σ W a _ => by
    refine ⟨.agg z.cells, ?_, z.cells.toList, rfl, by rw [← hzs]; exact Vs.eqs h1⟩
    simp [execOp, Instr.build, run_zero hz, run_underlying (arr_of ha), run_sizeOf' hs, Instr.fill]
/-- a store into the whole of a list's cells -/
theorem op_tstore_all {α : Type} {f : α → List Pred} {xs xs' : List α} {x y : Operand} {id : Id} {m κ k : Nat} {B : TypeId} {p : Pred} (hx : opd F x = some (ptrP id 0)) (hy : opd F y = some p) (hR : R m = some (id, blkX κ B (xs.flatMap f)))
    (hv : Val p (xs'.flatMap f)) (hk : ∀ z, (f z).length = k) (hl : xs'.length = xs.length) (hs : sizeB P Ty = some (xs'.length * k)) :
    OpJ P n N F R ⟨none, .store Ty x y, T, pos, after, none⟩ ⟨rdo x (ptrP id 0) ++ rdo y p, [], [(m, id, blkX κ B (xs.flatMap f))], [(m, id, blkX κ B (xs'.flatMap f))], [], eqP undef⟩ :=
  op_store_all hx hy hR hv (by rw [hs, flatMap_len hk]) (by rw [flatMap_len hk, flatMap_len hk, hl]; simp)
end
end Go.AL
