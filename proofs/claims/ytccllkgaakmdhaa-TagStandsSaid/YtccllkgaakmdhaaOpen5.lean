/- Arguments that are opened: a tag by value. -/
import Derived.Test.YtccllkgaakmdhaaOpen2
import Derived.Test.YtccllkgaakmdhaaTagP
namespace Go.Proofs.Ytccllkgaakmdhaa
open Go.ChangeShapes Go.WideShapes Go.ChangeAt Go.RowKit Go.Deep Go.Joins

section
variable {H : Type} {enc : TypeId × Value → H} {W : World} {spare : Nat → Bool} {held : Bool} {base : Nat}
set_option maxRecDepth 100000 in
theorem open_tag {r : Reach} {b0 : Nat} {v : Value} {d : DataW H} {p : List MemPlace} (hv : Value.okWide Try.prog W r b0 69 v) (h : DataW.Trod enc Try.prog W base spare held 69 v d p) : ∃ g : TagV, v = .agg g.cells := by
  obtain ⟨v0, v1, v2, y0, y1, y2, n, rfl, _, _, h0, h1, h2⟩ := open_agg3 Try.underlying69 (by kernel_rfl) (by kernel_rfl) hv h
  obtain ⟨n0, e0, _, w0⟩ := DataW.trod_int Try.underlying36 h0
  obtain ⟨u, e1, _⟩ := DataW.trod_bool Try.underlying4 h1
  obtain ⟨o, e2, _, _⟩ := DataW.trod_int Try.underlying3 h2
  obtain ⟨s, rfl⟩ := u64_some w0
  simp only [List.cons.injEq, and_true] at e0 e1 e2
  subst e0 e1 e2
  exact ⟨⟨s, u, o⟩, rfl⟩
end
end Go.Proofs.Ytccllkgaakmdhaa
