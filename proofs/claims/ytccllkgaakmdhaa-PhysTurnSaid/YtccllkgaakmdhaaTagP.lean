/- Tags: whether one may be, its word, the tag of a word; plain laws. -/
import Derived.Test.YtccllkgaakmdhaaLive
namespace Go.Proofs.Ytccllkgaakmdhaa
open Go.RowKit

structure TagV where
  size : UInt64
  used : Bool
  owner : Int
deriving DecidableEq
def TagV.zero : TagV := ⟨0, false, 0⟩
/-- a tag's cells -/
def TagV.cells (g : TagV) : Array Value := #[.int .u64 (g.size.toNat : Int), .bool g.used, .int .i64 g.owner]
def bitOf (b : Bool) : Nat := if b then 1 else 0

def mayT (g : TagV) : Bool := decide (g.size.toNat % 16 = 0 ∧ 48 ≤ g.size.toNat ∧ g.size.toNat ≤ 1048576 ∧ 0 ≤ g.owner ∧ g.owner ≤ 8 ∧ (g.used = true ∨ g.owner = 0))
theorem may_spec {g : TagV} (h : mayT g = true) : g.size.toNat % 16 = 0 ∧ 48 ≤ g.size.toNat ∧ g.size.toNat ≤ 1048576 ∧ 0 ≤ g.owner ∧ g.owner ≤ 8 ∧ (g.used = true ∨ g.owner = 0) := of_decide_eq_true h
/-- a tag's word -/
def packN (g : TagV) : Nat := g.size.toNat + g.owner.toNat * 4294967296 + bitOf g.used
def packU (g : TagV) : UInt64 := if mayT g then UInt64.ofNat (packN g) else 0
theorem pack_lt {g : TagV} (h : mayT g = true) : packN g < 18446744073709551616 := by
  obtain ⟨h1, h2, h3, h4, h5, h6⟩ := may_spec h
  unfold packN bitOf
  split <;> omega
theorem pack_toNat {g : TagV} (h : mayT g = true) : (packU g).toNat = packN g := by
  unfold packU
  rw [if_pos h, UInt64.toNat_ofNat']
  exact Nat.mod_eq_of_lt (pack_lt h)
theorem pack_no {g : TagV} (h : mayT g = false) : packU g = 0 := if_neg (by rw [h]; decide)
/-- what a word might say -/
def candT (w : UInt64) : TagV := ⟨UInt64.ofNat (w.toNat % 4294967296 - w.toNat % 2), decide (w.toNat % 2 = 1), ((w.toNat / 4294967296 : Nat) : Int)⟩
theorem cand_size (w : UInt64) : (candT w).size.toNat = w.toNat % 4294967296 - w.toNat % 2 := by
  unfold candT
  rw [UInt64.toNat_ofNat']
  omega
def isTag (w : UInt64) : Bool := mayT (candT w) && packU (candT w) == w
def unpackT (w : UInt64) : TagV := if isTag w then candT w else TagV.zero
theorem isTag_spec {w : UInt64} (h : isTag w = true) : mayT (candT w) = true ∧ packU (candT w) = w := by simpa [isTag] using h
theorem isTag_no {w : UInt64} (h : isTag w = false) : mayT (candT w) = false ∨ (mayT (candT w) = true ∧ packU (candT w) ≠ w) := by
  cases hm : mayT (candT w) with
  | false => exact .inl rfl
  | true => right; simp [isTag, hm] at h; exact ⟨rfl, h⟩
/-- the tag of a tag's word -/
theorem cand_pack {g : TagV} (h : mayT g = true) : candT (packU g) = g := by
  obtain ⟨h1, h2, h3, h4, h5, h6⟩ := may_spec h
  have hp := pack_toNat h
  have hb : bitOf g.used ≤ 1 := by unfold bitOf; split <;> omega
  have e1 : packN g % 4294967296 = g.size.toNat + bitOf g.used := by unfold packN; omega
  have e2 : packN g % 2 = bitOf g.used := by unfold packN; omega
  have e3 : packN g / 4294967296 = g.owner.toNat := by unfold packN; omega
  obtain ⟨s, u, o⟩ := g
  unfold candT
  rw [hp, e1, e2, e3]
  have a1 : UInt64.ofNat (s.toNat + bitOf u - bitOf u) = s := by rw [Nat.add_sub_cancel]; simp
  have a2 : decide (bitOf u = 1) = u := by cases u <;> rfl
  have a3 : ((Int.toNat o : Nat) : Int) = o := Int.toNat_of_nonneg h4
  simp only [a1, a2, a3]
theorem isTag_pack {g : TagV} (h : mayT g = true) : isTag (packU g) = true := by
  unfold isTag
  rw [cand_pack h, h]
  simp
theorem unpack_pack {g : TagV} (h : mayT g = true) : unpackT (packU g) = g := by
  unfold unpackT
  rw [if_pos (isTag_pack h), cand_pack h]
theorem pack_unpack {w : UInt64} (h : isTag w = true) : packU (unpackT w) = w := by
  unfold unpackT
  rw [if_pos h]
  exact (isTag_spec h).2
theorem may_unpack {w : UInt64} (h : isTag w = true) : mayT (unpackT w) = true := by
  unfold unpackT
  rw [if_pos h]
  exact (isTag_spec h).1
theorem pack_inj {g h : TagV} (hg : mayT g = true) (hh : mayT h = true) (e : packU g = packU h) : g = h := by
  rw [← cand_pack hg, ← cand_pack hh, e]
/-- the candidate of the document: an owner below 16 -/
def candR (w : UInt64) : TagV := ⟨UInt64.ofNat (w.toNat % 4294967296 - w.toNat % 2), decide (w.toNat % 2 = 1), ((w.toNat / 4294967296 % 16 : Nat) : Int)⟩
theorem isTag_R (w : UInt64) : (mayT (candR w) && packU (candR w) == w) = isTag w := by
  rw [Bool.eq_iff_iff]
  constructor
  · intro h
    have h' : mayT (candR w) = true ∧ packU (candR w) = w := by simpa using h
    have e : candT w = candR w := by rw [← h'.2, cand_pack h'.1, h'.2]
    simp [isTag, e, h'.1, h'.2]
  · intro h
    obtain ⟨h1, h2⟩ := isTag_spec h
    obtain ⟨_, _, _, _, g5, _⟩ := may_spec h1
    have e : candR w = candT w := by
      unfold candR candT at *
      simp only at g5
      have : w.toNat / 4294967296 % 16 = w.toNat / 4294967296 := by omega
      rw [this]
    rw [e, h1, h2]
    simp
theorem unpack_R (w : UInt64) (h : (mayT (candR w) && packU (candR w) == w) = true) : candR w = unpackT w := by
  have h' : mayT (candR w) = true ∧ packU (candR w) = w := by simpa using h
  have e : candT w = candR w := by rw [← h'.2, cand_pack h'.1, h'.2]
  unfold unpackT
  rw [← isTag_R, if_pos h, e]
theorem isTag_zero : isTag 0 = false := by decide
theorem unpack_no {w : UInt64} (h : isTag w = false) : unpackT w = TagV.zero := if_neg (by rw [h]; decide)

/-- may a block of so many bytes stand at an offset, where the heap ends at 'stop' -/
def inT (stop off size : UInt64) : Bool := decide (off.toNat % 16 = 0 ∧ 3776 ≤ off.toNat ∧ off.toNat < stop.toNat ∧ size.toNat ≤ stop.toNat - off.toNat)
theorem inT_spec {stop off size : UInt64} (h : inT stop off size = true) : off.toNat % 16 = 0 ∧ 3776 ≤ off.toNat ∧ off.toNat < stop.toNat ∧ size.toNat ≤ stop.toNat - off.toNat := of_decide_eq_true h
/-- what is read at an offset -/
def readB (f : UInt64 → UInt64) (off : UInt64) : Bool := isTag (f off) && inT (f 16) off (unpackT (f off)).size && f (off + (unpackT (f off)).size - 8) == f off
def readT (f : UInt64 → UInt64) (off : UInt64) : TagV := if readB f off then unpackT (f off) else TagV.zero
def writeB (f : UInt64 → UInt64) (off : UInt64) (g : TagV) : Bool := mayT g && inT (f 16) off g.size
end Go.Proofs.Ytccllkgaakmdhaa
