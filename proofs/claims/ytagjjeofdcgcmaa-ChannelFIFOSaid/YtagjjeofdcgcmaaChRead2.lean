/- What the lists of operations of layer 17 read as. -/
import Derived.Test.YtagjjeofdcgcmaaChRead
import Derived.Test.YtagjjeofdcgcmaaChFifo
namespace Go.Proofs.Ytagjjeofdcgcmaa
open Go.AL Go.Ch Go.RowKit
section
variable {H : Type} {enc : TypeId × Value → H} {W : World} {base : Nat} {spare : Nat → Bool} {held : Bool}
theorem rd_act : Rd enc Try.prog W base spare held 70 actp Byt :=
  (rd_struct (fs := [(0, 5, 1), (1, 5, 1), (2, 3, 1)]) (m := 3) (by kernel_rfl) (by kernel_rfl) (rdf_cons (rd_int Try.underlying5) (rdf_cons (rd_int Try.underlying5) (rdf_cons (rd_int Try.underlying3) rdf_nil)))).map
    (fun x => ⟨x.1, x.2.1, x.2.2.1⟩) (fun _ => rfl) (fun _ h => ⟨h.1, h.2.1⟩)
theorem rd_acts : Rd enc Try.prog W base spare held 47 (fun l => [slP actp 3 l]) (fun l => ∀ a ∈ l, Byt a) :=
  (rd_slice Try.underlying47 rd_act (by kernel_rfl) (by decide)).map (fun x => x) (fun _ => rfl) (fun _ h => h)
end
end Go.Proofs.Ytagjjeofdcgcmaa
