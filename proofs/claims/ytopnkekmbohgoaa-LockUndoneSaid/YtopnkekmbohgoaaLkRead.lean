/- What the arguments of the statements about layer 18 read as. -/
import Derived.Test.YtopnkekmbohgoaaAlRead
import Derived.Test.YtopnkekmbohgoaaLkTypes
import Derived.Test.YtopnkekmbohgoaaChecked
namespace Go.Proofs.Ytopnkekmbohgoaa
open Go.AL Go.Lk Go.RowKit
section
variable {H : Type} {enc : TypeId × Value → H} {W : World} {base : Nat} {spare : Nat → Bool} {held : Bool}
theorem rd_sy : Rd enc Try.prog W base spare held 24 Sy.ps (fun _ => True) :=
  (rd_struct (fs := [(0, 3, 1), (1, 3, 1), (2, 3, 1), (3, 3, 1), (4, 22, 1), (5, 3, 1)]) (m := 6) (by kernel_rfl) (by kernel_rfl)
    (rdf_cons (rd_int Try.underlying3) (rdf_cons (rd_int Try.underlying3) (rdf_cons (rd_int Try.underlying3) (rdf_cons (rd_int Try.underlying3) (rdf_cons (rd_slice Try.underlying22 (rd_int Try.underlying3) (by kernel_rfl) (by decide)) (rdf_cons (rd_int Try.underlying3) rdf_nil))))))).map
    (fun x => ⟨x.1, x.2.1, x.2.2.1, x.2.2.2.1, x.2.2.2.2.1, x.2.2.2.2.2.1⟩) (fun _ => rfl) (fun _ _ => trivial)
theorem rd_ad : Rd enc Try.prog W base spare held 26 (fun x : Int × Int × Int × Unit => [eqP (.int .i64 x.1), eqP (.int .i64 x.2.1), eqP (.int .i64 x.2.2.1)]) (fun _ => True) :=
  (rd_struct (fs := [(0, 3, 1), (1, 3, 1), (2, 3, 1)]) (m := 3) (by kernel_rfl) (by kernel_rfl)
    (rdf_cons (rd_int Try.underlying3) (rdf_cons (rd_int Try.underlying3) (rdf_cons (rd_int Try.underlying3) rdf_nil)))).map (fun x => x) (fun _ => rfl) (fun _ _ => trivial)
end
end Go.Proofs.Ytopnkekmbohgoaa
