/- What a formatted segment tells. -/
import Derived.Test.YtccllkgaakmdhaaRef4C
namespace Go.Proofs.Ytccllkgaakmdhaa
open Go.RowKit

/-- what a formatted segment tells -/
theorem fmt_tells {n : Nat} {size : UInt64} (h : fitsN size (8 * n) = true) :
    loadV (fmtW n size) 0 = magicU ∧ loadV (fmtW n size) 8 = 1 ∧ loadV (fmtW n size) 16 = size ∧ loadV (fmtW n size) 24 = 0 ∧ loadV (fmtW n size) 32 = 3776 ∧ loadV (fmtW n size) 40 = sumU size := by
  obtain ⟨h1, h2, h3⟩ := fits_spec h
  have hn : 478 ≤ n := by omega
  have hl := fmtR_length n size
  have hm : 472 < size.toNat / 8 - 1 := by omega
  rw [fmt_same h]
  rw [loadV_at (off := 0) (i := 0) (by decide) (by omega), loadV_at (off := 8) (i := 1) (by decide) (by omega), loadV_at (off := 16) (i := 2) (by decide) (by omega), loadV_at (off := 24) (i := 3) (by decide) (by omega),
    loadV_at (off := 32) (i := 4) (by decide) (by omega), loadV_at (off := 40) (i := 5) (by decide) (by omega)]
  unfold fmtR
  refine ⟨?_, ?_, ?_, ?_, ?_, ?_⟩
  all_goals
    simp only [List.getElem?_set, List.length_set, List.length_replicate, List.getElem?_replicate]
    have z0 : ¬ size.toNat / 8 - 1 = 0 := by omega
    have z1 : ¬ size.toNat / 8 - 1 = 1 := by omega
    have z2 : ¬ size.toNat / 8 - 1 = 2 := by omega
    have z3 : ¬ size.toNat / 8 - 1 = 3 := by omega
    have z4 : ¬ size.toNat / 8 - 1 = 4 := by omega
    have z5 : ¬ size.toNat / 8 - 1 = 5 := by omega
    simp [z0, z1, z2, z3, z4, z5, show 0 < n by omega, show 1 < n by omega, show 2 < n by omega, show 3 < n by omega, show 4 < n by omega, show 5 < n by omega]
theorem fmt_chk {n : Nat} {size : UInt64} (h : fitsN size (8 * n) = true) : chkB (8 * n) (loadV (fmtW n size)) = true := by
  obtain ⟨h0, h1, h2, h3, h4, h5⟩ := fmt_tells h
  simp [chkB, h0, h1, h2, h5, h]

end Go.Proofs.Ytccllkgaakmdhaa
