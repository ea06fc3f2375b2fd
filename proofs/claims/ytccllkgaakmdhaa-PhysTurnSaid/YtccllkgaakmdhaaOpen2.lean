/- Arguments that are opened: arrays and structs by value, small whole numbers. -/
import Derived.Test.YtccllkgaakmdhaaOpen
namespace Go.Proofs.Ytccllkgaakmdhaa
open Go.ChangeShapes Go.WideShapes Go.ChangeAt Go.RowKit Go.Deep Go.Joins

theorem u8_some {n : Int} (h : (Lit.int .u8 n).wf = true) : ∃ x : UInt8, n = (x.toNat : Int) := by
  have h' : IntKind.u8.min ≤ n ∧ n ≤ IntKind.u8.max := by simpa [Lit.wf] using h
  have e1 : IntKind.u8.min = 0 := by rfl
  have e2 : IntKind.u8.max = 255 := by rfl
  rw [e1, e2] at h'
  refine ⟨UInt8.ofNat n.toNat, ?_⟩
  rw [UInt8.toNat_ofNat']
  omega
theorem u16_some {n : Int} (h : (Lit.int .u16 n).wf = true) : ∃ x : UInt16, n = (x.toNat : Int) := by
  have h' : IntKind.u16.min ≤ n ∧ n ≤ IntKind.u16.max := by simpa [Lit.wf] using h
  have e1 : IntKind.u16.min = 0 := by rfl
  have e2 : IntKind.u16.max = 65535 := by rfl
  rw [e1, e2] at h'
  refine ⟨UInt16.ofNat n.toNat, ?_⟩
  rw [UInt16.toNat_ofNat']
  omega

section
variable {H : Type} {enc : TypeId × Value → H} {P : Program} {W : World} {spare : Nat → Bool} {held : Bool} {base : Nat}
/-- a value of several cells, by its cells' reading -/
theorem open_enc {α : Type} {t : TypeId} {v : Value} {d : DataW H} {p : List MemPlace} {f : α → List Value} (hv : ∃ cs, v = .agg cs)
    (hdec : ∀ fuel cs x, DataW.trod enc P W base spare held fuel t cs = some x → ∃ a, cs = f a) (h : DataW.Trod enc P W base spare held t v d p) : ∃ a, v = .agg (f a).toArray := by
  obtain ⟨cs, rfl⟩ := hv
  obtain ⟨fuel, hf⟩ := h
  obtain ⟨a, ha⟩ := hdec fuel _ _ hf
  have ha' : cs.toList = f a := ha
  exact ⟨a, by rw [← ha']⟩
theorem okWide_arr {r : Reach} {b0 n : Nat} {t e : TypeId} {v : Value} (hu : P.underlying t = some (.array n e)) (h : Value.okWide P W r b0 t v) : ∃ cs, v = .agg cs := by
  unfold Value.okWide at h
  simp only [hu] at h
  obtain ⟨cs, h, _⟩ := h
  exact ⟨cs, h⟩
end

section
variable {H : Type} {enc : TypeId × Value → H} {W : World} {spare : Nat → Bool} {held : Bool} {base : Nat}
set_option maxRecDepth 100000 in
theorem dec_u64x2 (fuel : Nat) (cs : List Value) (x : DataW H × List MemPlace) (h : DataW.trod enc Try.prog W base spare held fuel 64 cs = some x) : ∃ a : UInt64 × UInt64, cs = [.int .u64 (a.1.toNat : Int), .int .u64 (a.2.toNat : Int)] := by
  have hC : Try.prog.cellsOf 64 = 2 := by kernel_rfl
  have hu : Try.prog.cellsOf 36 = 1 := by kernel_rfl
  obtain ⟨xs, m, _, _, hl, hxl, hi⟩ := DataW.trod_array Try.underlying64 h
  rw [hC] at hl
  match cs, hl, xs, hxl with
  | [c0, c1], _, [y0, y1], _ =>
    have h0 := hi 0 (by omega)
    have h1 := hi 1 (by omega)
    rw [hu] at h0 h1
    obtain ⟨n0, e0, _, w0⟩ := DataW.trod_int Try.underlying36 (show DataW.trod enc Try.prog W base spare held m 36 [c0] = some y0 from h0)
    obtain ⟨n1, e1, _, w1⟩ := DataW.trod_int Try.underlying36 (show DataW.trod enc Try.prog W base spare held m 36 [c1] = some y1 from h1)
    obtain ⟨z0, rfl⟩ := u64_some w0
    obtain ⟨z1, rfl⟩ := u64_some w1
    exact ⟨(z0, z1), by simp_all⟩
end
end Go.Proofs.Ytccllkgaakmdhaa
