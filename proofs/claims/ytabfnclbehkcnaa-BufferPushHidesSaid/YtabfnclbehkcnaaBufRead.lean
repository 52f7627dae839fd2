/- What the arguments of the statements about layer 27 read as. -/
import Derived.Test.YtabfnclbehkcnaaAlRead
import Derived.Test.YtabfnclbehkcnaaBufPlain
import Derived.Test.YtabfnclbehkcnaaChecked
namespace Go.Proofs.Ytabfnclbehkcnaa
open Go.AL Go.Buf Go.RowKit
section
variable {H : Type} {enc : TypeId × Value → H} {W : World} {base : Nat} {spare : Nat → Bool} {held : Bool}
theorem rd_value : Rd enc Try.prog W base spare held 24 vp (fun _ => True) :=
  (rd_struct (fs := [(0, 3, 1), (1, 3, 1), (2, 3, 1)]) (m := 3) (by kernel_rfl) (by kernel_rfl) (rdf_cons (rd_int Try.underlying3) (rdf_cons (rd_int Try.underlying3) (rdf_cons (rd_int Try.underlying3) rdf_nil)))).map
    (fun x => ⟨x.1, x.2.1, x.2.2.1⟩) (fun _ => rfl) (fun _ _ => trivial)
theorem rd_write : Rd enc Try.prog W base spare held 26 wp (fun _ => True) :=
  (rd_struct (fs := [(0, 3, 1), (1, 3, 1), (2, 24, 3)]) (m := 5) (by kernel_rfl) (by kernel_rfl) (rdf_cons (rd_int Try.underlying3) (rdf_cons (rd_int Try.underlying3) (rdf_cons rd_value rdf_nil)))).map
    (fun x => ⟨x.1, x.2.1, x.2.2.1⟩) (fun _ => rfl) (fun _ _ => trivial)
theorem rd_loc : Rd enc Try.prog W base spare held 40 Locn.ps (fun _ => True) :=
  (rd_struct (fs := [(0, 3, 1), (1, 3, 1)]) (m := 2) (by kernel_rfl) (by kernel_rfl) (rdf_cons (rd_int Try.underlying3) (rdf_cons (rd_int Try.underlying3) rdf_nil))).map
    (fun x => ⟨x.1, x.2.1⟩) (fun _ => rfl) (fun _ _ => trivial)
theorem rd_writes : Rd enc Try.prog W base spare held 22 (fun l => [slP wp 5 l]) (fun _ => True) :=
  (rd_slice Try.underlying22 rd_write (by kernel_rfl) (by decide)).map (fun x => x) (fun _ => rfl) (fun _ _ => trivial)
theorem rd_bools : Rd enc Try.prog W base spare held 36 (fun l => [slP bp 1 l]) (fun _ => True) :=
  (rd_slice Try.underlying36 (rd_bool Try.underlying4) (by kernel_rfl) (by decide)).map (fun x => x) (fun _ => rfl) (fun _ _ => trivial)
end
end Go.Proofs.Ytabfnclbehkcnaa
