/- What the arguments of the statements about layer 17 read as. -/
import Derived.Test.YtagjjeofdcgcmaaAlRead
import Derived.Test.YtagjjeofdcgcmaaChTypes
import Derived.Test.YtagjjeofdcgcmaaChecked
namespace Go.Proofs.Ytagjjeofdcgcmaa
open Go.AL Go.Ch Go.RowKit
section
variable {H : Type} {enc : TypeId × Value → H} {W : World} {base : Nat} {spare : Nat → Bool} {held : Bool}
theorem rd_value : Rd enc Try.prog W base spare held 23 vp (fun _ => True) :=
  (rd_struct (fs := [(0, 3, 1), (1, 3, 1), (2, 3, 1)]) (m := 3) (by kernel_rfl) (by kernel_rfl) (rdf_cons (rd_int Try.underlying3) (rdf_cons (rd_int Try.underlying3) (rdf_cons (rd_int Try.underlying3) rdf_nil)))).map
    (fun x => ⟨x.1, x.2.1, x.2.2.1⟩) (fun _ => rfl) (fun _ _ => trivial)
theorem rd_waiter : Rd enc Try.prog W base spare held 33 wp (fun _ => True) :=
  (rd_struct (fs := [(0, 3, 1), (1, 3, 1), (2, 23, 3)]) (m := 5) (by kernel_rfl) (by kernel_rfl) (rdf_cons (rd_int Try.underlying3) (rdf_cons (rd_int Try.underlying3) (rdf_cons rd_value rdf_nil)))).map
    (fun x => ⟨x.1, x.2.1, x.2.2.1⟩) (fun _ => rfl) (fun _ _ => trivial)
theorem rd_values : Rd enc Try.prog W base spare held 25 (fun l => [slP vp 3 l]) (fun _ => True) :=
  (rd_slice Try.underlying25 rd_value (by kernel_rfl) (by decide)).map (fun x => x) (fun _ => rfl) (fun _ _ => trivial)
theorem rd_waiters : Rd enc Try.prog W base spare held 26 (fun l => [slP wp 5 l]) (fun _ => True) :=
  (rd_slice Try.underlying26 rd_waiter (by kernel_rfl) (by decide)).map (fun x => x) (fun _ => rfl) (fun _ _ => trivial)
theorem rd_object : Rd enc Try.prog W base spare held 28 Ob.ps (fun _ => True) :=
  (rd_struct (fs := [(0, 3, 1), (1, 25, 1), (2, 4, 1), (3, 3, 1), (4, 25, 1), (5, 4, 1), (6, 3, 1), (7, 3, 1), (8, 26, 1), (9, 26, 1)]) (m := 10) (by kernel_rfl) (by kernel_rfl)
    (rdf_cons (rd_int Try.underlying3) (rdf_cons rd_values (rdf_cons (rd_bool Try.underlying4) (rdf_cons (rd_int Try.underlying3) (rdf_cons rd_values (rdf_cons (rd_bool Try.underlying4) (rdf_cons (rd_int Try.underlying3) (rdf_cons (rd_int Try.underlying3)
      (rdf_cons rd_waiters (rdf_cons rd_waiters rdf_nil))))))))))).map
    (fun x => ⟨x.1, x.2.1, x.2.2.1, x.2.2.2.1, x.2.2.2.2.1, x.2.2.2.2.2.1, x.2.2.2.2.2.2.1, x.2.2.2.2.2.2.2.1, x.2.2.2.2.2.2.2.2.1, x.2.2.2.2.2.2.2.2.2.1⟩) (fun _ => rfl) (fun _ _ => trivial)
end
end Go.Proofs.Ytagjjeofdcgcmaa
