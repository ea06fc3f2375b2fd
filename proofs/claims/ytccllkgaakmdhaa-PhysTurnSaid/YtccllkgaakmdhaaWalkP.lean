/- All blocks of a heap, as a function of what its words tell. -/
import Derived.Test.YtccllkgaakmdhaaPhysAll
namespace Go.Proofs.Ytccllkgaakmdhaa
open Go.RowKit

def scanF (f : UInt64 → UInt64) : Nat → UInt64 → Option (List BlockV)
  | 0, _ => some []
  | n + 1, off => if off.toNat < (f 16).toNat then (if oneB f off then (scanF f n (off + (oneT f off).tag.size)).map (oneT f off :: ·) else none) else some []
theorem scan_step {f : UInt64 → UInt64} {n : Nat} {off : UInt64} (h1 : off.toNat < (f 16).toNat) (h2 : oneB f off = true) : scanF f (n + 1) off = (scanF f n (off + (oneT f off).tag.size)).map (oneT f off :: ·) := by
  rw [scanF, if_pos h1, if_pos h2]
theorem scan_end {f : UInt64 → UInt64} {n : Nat} {off : UInt64} (h1 : ¬ off.toNat < (f 16).toNat) : scanF f n off = some [] := by
  cases n with
  | zero => rfl
  | succ n => rw [scanF, if_neg h1]
theorem scan_bad {f : UInt64 → UInt64} {n : Nat} {off : UInt64} (h1 : off.toNat < (f 16).toNat) (h2 : oneB f off = false) : scanF f (n + 1) off = none := by
  rw [scanF, if_pos h1, if_neg (by rw [h2]; decide)]
theorem AtB.scan {f : UInt64 → UInt64} {xs : List Item} {off : UInt64} (h : AtB f xs off) : ∀ n, scanF f (n + xs.length) 3776 = (scanF f n off).map (xs.map (·.1) ++ ·) := by
  induction h with
  | start => intro n; simp
  | @step xs off h1 h2 h3 ih =>
    intro n
    have := ih (n + 1)
    rw [scan_step h2 h3] at this
    rw [List.length_append, List.length_singleton, show n + (xs.length + 1) = n + 1 + xs.length by omega, this, Option.map_map]
    congr 1
    funext l
    simp
theorem AtB.good {f : UInt64 → UInt64} {xs : List Item} {off : UInt64} (h : AtB f xs off) : (∀ x ∈ xs, x.2 = true) ∧ (off.toNat ≤ (f 16).toNat ∨ xs = []) := by
  induction h with
  | start => exact ⟨by simp, .inr rfl⟩
  | step h1 h2 h3 ih =>
    refine ⟨fun x hx => ?_, .inl ?_⟩
    · rcases List.mem_append.1 hx with hx | hx
      · exact ih.1 x hx
      · rw [List.mem_singleton.1 hx]
    · obtain ⟨e1, e2⟩ := one_next h3
      omega
/-- enough rounds for a heap of 2^20 bytes -/
def rounds : Nat := 21846
def walkF (f : UInt64 → UInt64) : Option (List BlockV) := scanF f rounds 3776
theorem walk_all {f : UInt64 → UInt64} {xs : List Item} (hsm : (f 16).toNat ≤ 1048576) (h : AllB f xs) : (∀ x ∈ xs, x.2 = true) ∧ walkF f = some (xs.map (·.1)) ∨ (∃ ys b, xs = ys ++ [(b, false)]) ∧ walkF f = none := by
  rcases h with ⟨off, ha, he⟩ | ⟨ys, off, b, rfl, ha, hl, hb⟩
  · left
    have hle := ha.le
    obtain ⟨hg, hx⟩ := ha.good
    refine ⟨hg, ?_⟩
    have hlen : xs.length ≤ rounds := by
      rcases hx with hx | hx
      · unfold rounds; omega
      · rw [hx]; exact Nat.zero_le _
    have := ha.scan (rounds - xs.length)
    rw [scan_end he, Nat.sub_add_cancel hlen] at this
    unfold walkF
    rw [this]; simp
  · right
    have hle := ha.le
    refine ⟨⟨ys, b, rfl⟩, ?_⟩
    have := ha.scan (rounds - ys.length)
    have e : rounds - ys.length = (rounds - ys.length - 1) + 1 := by unfold rounds; omega
    rw [e, scan_bad hl hb, ← e, Nat.sub_add_cancel (by unfold rounds; omega)] at this
    unfold walkF
    rw [this]; rfl
end Go.Proofs.Ytccllkgaakmdhaa
