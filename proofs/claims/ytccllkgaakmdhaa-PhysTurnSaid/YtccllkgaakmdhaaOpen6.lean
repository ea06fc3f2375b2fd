/- Arguments opened: pieces, and the document's blocks. -/
import Derived.Test.YtccllkgaakmdhaaOpen2
import Derived.Test.YtccllkgaakmdhaaLayR
import Derived.Test.YtccllkgaakmdhaaPhysB
namespace Go.Proofs.Ytccllkgaakmdhaa
open Go.ChangeShapes Go.WideShapes Go.ChangeAt Go.RowKit Go.Deep Go.Joins

section
variable {H : Type} {enc : TypeId × Value → H} {W : World} {spare : Nat → Bool} {held : Bool} {base : Nat}
set_option maxRecDepth 100000 in
theorem dec_piece (fuel : Nat) (cs : List Value) (x : DataW H × List MemPlace) (h : DataW.trod enc Try.prog W base spare held fuel 164 cs = some x) : ∃ a : PieceV, cs = kPc.enc a := by
  have hC : Try.prog.cellsOf 164 = 3 := by kernel_rfl
  have h8 : Try.prog.cellsOf 5 = 1 := by kernel_rfl
  have h16 : Try.prog.cellsOf 162 = 1 := by kernel_rfl
  obtain ⟨y0, y1, y2, n, _, hl, h0, h1, h2⟩ := trod_struct3 Try.underlying164 h
  rw [hC] at hl
  match cs, hl with
  | [c0, c1, c2], _ =>
    obtain ⟨n0, e0, _, w0⟩ := DataW.trod_int Try.underlying5 h0
    obtain ⟨n1, e1, _, w1⟩ := DataW.trod_int Try.underlying5 h1
    obtain ⟨n2, e2, _, w2⟩ := DataW.trod_int Try.underlying162 h2
    obtain ⟨z0, rfl⟩ := u8_some w0
    obtain ⟨z1, rfl⟩ := u8_some w1
    obtain ⟨z2, rfl⟩ := u16_some w2
    have q0 : c0 = .int .u8 (z0.toNat : Int) := by simpa [h8] using e0
    have q1 : c1 = .int .u8 (z1.toNat : Int) := by simpa [h8] using e1
    have q2 : c2 = .int .u16 (z2.toNat : Int) := by simpa [h16] using e2
    exact ⟨(z0, z1, z2), by rw [q0, q1, q2]⟩
set_option maxRecDepth 100000 in
theorem dec_rblock (fuel : Nat) (cs : List Value) (x : DataW H × List MemPlace) (h : DataW.trod enc Try.prog W base spare held fuel 108 cs = some x) : ∃ a : BlockV, cs = kRB.enc a := by
  have hC : Try.prog.cellsOf 108 = 5 := by kernel_rfl
  have hT : Try.prog.cellsOf 69 = 3 := by kernel_rfl
  have hu : Try.prog.cellsOf 36 = 1 := by kernel_rfl
  have hb : Try.prog.cellsOf 4 = 1 := by kernel_rfl
  have hi : Try.prog.cellsOf 3 = 1 := by kernel_rfl
  obtain ⟨y0, y1, y2, n, _, hl, h0, h1, h2⟩ := trod_struct3 Try.underlying108 h
  rw [hC] at hl
  match cs, hl with
  | [c0, c1, c2, c3, c4], _ =>
    obtain ⟨z0, z1, z2, m, _, _, g0, g1, g2⟩ := trod_struct3 Try.underlying69 h1
    obtain ⟨n0, e0, _, w0⟩ := DataW.trod_int Try.underlying36 h0
    obtain ⟨n1, e1, _, w1⟩ := DataW.trod_int Try.underlying36 g0
    obtain ⟨u, e2, _⟩ := DataW.trod_bool Try.underlying4 g1
    obtain ⟨o, e3, _, _⟩ := DataW.trod_int Try.underlying3 g2
    obtain ⟨n4, e4, _, w4⟩ := DataW.trod_int Try.underlying36 h2
    obtain ⟨v0, rfl⟩ := u64_some w0
    obtain ⟨v1, rfl⟩ := u64_some w1
    obtain ⟨v4, rfl⟩ := u64_some w4
    have q0 : c0 = .int .u64 (v0.toNat : Int) := by simpa [hu] using e0
    have q1 : c1 = .int .u64 (v1.toNat : Int) := by simpa [hu, hT] using e1
    have q2 : c2 = .bool u := by simpa [hb, hT] using e2
    have q3 : c3 = .int .i64 o := by simpa [hi, hT] using e3
    have q4 : c4 = .int .u64 (v4.toNat : Int) := by simpa [hu] using e4
    exact ⟨⟨v0, ⟨v1, u, o⟩, v4⟩, by rw [q0, q1, q2, q3, q4]; rfl⟩
end
end Go.Proofs.Ytccllkgaakmdhaa
