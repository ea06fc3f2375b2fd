/- Arguments opened: lists of bytes. -/
import Derived.Test.YtefpbljekfkefaaGreatM17
namespace Go.Proofs.YtefpbljekfkefaaGreat
open Go.ChangeShapes Go.WideShapes Go.ChangeAt Go.RowKit Go.Deep Go.Joins

abbrev kY : Kind UInt8 := { slice := 81, elem := 5, size := 1, bytes := 1, zero := .int .u8 0, enc := fun x => [.int .u8 ↑x.toNat], len := fun _ => rfl, one := fun _ u hu => by simp at hu; subst hu; rfl, und := Tryz.underlying81, info := by kernel_rfl, zcells := rfl, pos := by decide, small := by decide }
section
variable {H : Type} {enc : TypeId × Value → H} {W : World} {spare : Nat → Bool} {held : Bool} {base : Nat}
set_option maxRecDepth 100000 in
theorem dec_u8s (fuel : Nat) (cs : List Value) (x : DataW H × List MemPlace) (h : DataW.trod enc Tryz.prog W base spare held fuel 5 cs = some x) : ∃ a : UInt8, cs = kY.enc a := by
  obtain ⟨n, rfl, _, hw⟩ := DataW.trod_int Tryz.underlying5 h
  obtain ⟨y, rfl⟩ := u8_some hw
  exact ⟨y, rfl⟩
end
end Go.Proofs.YtefpbljekfkefaaGreat
