/- What the arguments of the statements about layer 18 read as. -/
import Derived.Test.YtopnkekmbohgoaaAlRead
import Derived.Test.YtopnkekmbohgoaaLkPlain2
import Derived.Test.YtopnkekmbohgoaaChecked
namespace Go.Proofs.Ytopnkekmbohgoaa
open Go.AL Go.Lk Go.RowKit
section
variable {H : Type} {enc : TypeId × Value → H} {W : World} {base : Nat} {spare : Nat → Bool} {held : Bool}
theorem rd_sy : Rd enc Try.prog W base spare held 24 Sy.ps (fun _ => True) :=
  (rd_struct (fs := [(0, 3, 1), (1, 3, 1), (2, 3, 1), (3, 3, 1), (4, 22, 1), (5, 3, 1)]) (m := 6) (by kernel_rfl) (by kernel_rfl)
    (rdf_cons (rd_int Try.underlying3) (rdf_cons (rd_int Try.underlying3) (rdf_cons (rd_int Try.underlying3) (rdf_cons (rd_int Try.underlying3) (rdf_cons (rd_slice Try.underlying22 (rd_int Try.underlying3) (by kernel_rfl) (by decide)) (rdf_cons (rd_int Try.underlying3) rdf_nil))))))).map
    (fun x => ⟨x.1, x.2.1, x.2.2.1, x.2.2.2.1, x.2.2.2.2.1, x.2.2.2.2.2.1⟩) (fun _ => rfl) (fun _ _ => trivial)
theorem rd_ad : Rd enc Try.prog W base spare held 26 (fun x : Int × Int × Int × Unit => [eqP (.int .i64 x.1), eqP (.int .i64 x.2.1), eqP (.int .i64 x.2.2.1)]) (fun _ => True) :=
  (rd_struct (fs := [(0, 3, 1), (1, 3, 1), (2, 3, 1)]) (m := 3) (by kernel_rfl) (by kernel_rfl)
    (rdf_cons (rd_int Try.underlying3) (rdf_cons (rd_int Try.underlying3) (rdf_cons (rd_int Try.underlying3) rdf_nil)))).map (fun x => x) (fun _ => rfl) (fun _ _ => trivial)
theorem rd_acts : Rd enc Try.prog W base spare held 39 (fun l : List (Int × Int) => [slP ap 2 l]) (fun l => ∀ x ∈ l, 0 ≤ x.1 ∧ 0 ≤ x.2) :=
  rd_slice Try.underlying39 ((rd_struct (fs := [(0, 5, 1), (1, 5, 1)]) (m := 2) (by kernel_rfl) (by kernel_rfl) (rdf_cons (rd_int Try.underlying5) (rdf_cons (rd_int Try.underlying5) rdf_nil))).map (fun x => (x.1, x.2.1)) (fun _ => rfl) (fun _ h => ⟨h.1.1, h.2.1.1⟩)) (by kernel_rfl) (by decide)
end
end Go.Proofs.Ytopnkekmbohgoaa
