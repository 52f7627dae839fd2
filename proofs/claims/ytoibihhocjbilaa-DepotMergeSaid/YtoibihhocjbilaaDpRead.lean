/- What the arguments of the statements about layer 21 read as. -/
import Derived.Test.YtoibihhocjbilaaAlRead
import Derived.Test.YtoibihhocjbilaaDpTypes
import Derived.Test.YtoibihhocjbilaaChecked
namespace Go.Proofs.Ytoibihhocjbilaa
open Go.AL Go.Dp Go.RowKit
section
variable {H : Type} {enc : TypeId × Value → H} {W : World} {base : Nat} {spare : Nat → Bool} {held : Bool}
theorem rd_site : Rd enc Try.prog W base spare held 29 sp (fun _ => True) :=
  (rd_struct (fs := [(0, 3, 1), (1, 3, 1)]) (m := 2) (by kernel_rfl) (by kernel_rfl) (rdf_cons (rd_int Try.underlying3) (rdf_cons (rd_int Try.underlying3) rdf_nil))).map (fun x => ⟨x.1, x.2.1⟩) (fun _ => rfl) (fun _ _ => trivial)
theorem rd_sites : Rd enc Try.prog W base spare held 22 (fun l => [slP sp 2 l]) (fun _ => True) :=
  (rd_slice Try.underlying22 rd_site (by kernel_rfl) (by decide)).map (fun x => x) (fun _ => rfl) (fun _ _ => trivial)
theorem rd_dep : Rd enc Try.prog W base spare held 25 Dep.ps (fun _ => True) :=
  (rd_struct (fs := [(0, 22, 1), (1, 23, 1)]) (m := 2) (by kernel_rfl) (by kernel_rfl) (rdf_cons rd_sites (rdf_cons (rd_slice Try.underlying23 (rd_int Try.underlying3) (by kernel_rfl) (by decide)) rdf_nil))).map
    (fun x => ⟨x.1, x.2.1⟩) (fun _ => rfl) (fun _ _ => trivial)
end
end Go.Proofs.Ytoibihhocjbilaa
