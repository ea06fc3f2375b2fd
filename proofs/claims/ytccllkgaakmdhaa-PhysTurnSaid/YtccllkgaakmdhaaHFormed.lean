/- A formatted segment of 4800 bytes, or one that couldn't be formatted; what is applied is told. -/
import Derived.Test.YtccllkgaakmdhaaHFmt
namespace Go.Proofs.Ytccllkgaakmdhaa
open Go.RowKit

theorem mayB_4800 : mayB 4800 = true := by decide
theorem txLoad_store {ws : List UInt64} {l : List Put} {off v o : UInt64} (hin : inB ws off = true) : txLoad ws (txStore ws l off v) o = if o = off then v else txLoad ws l o := by
  unfold txLoad txStore
  rw [if_pos hin, loadP_store]
  by_cases e : o = off
  · simp [e]
  · simp [e]
theorem txLoad_nil (ws : List UInt64) (o : UInt64) : txLoad ws [] o = loadV ws o := rfl

/-- the words behind Format, of a new segment of 4800 bytes -/
def formW (size : UInt64) : List UInt64 := if fitsN size 4800 then fmtW 600 size else List.replicate 600 0
def formE (size : UInt64) : Int := if fitsN size 4800 then 0 else 2
theorem formW_length (size : UInt64) : (formW size).length = 600 := by
  unfold formW; split
  · exact fmtW_length _ _
  · rw [List.length_replicate]
theorem formW_no {size : UInt64} (h : fitsN size 4800 = false) : formW size = List.replicate 600 0 := if_neg (by rw [h]; decide)
theorem formW_yes {size : UInt64} (h : fitsN size 4800 = true) : formW size = fmtW 600 size := if_pos h
theorem formE_yes {size : UInt64} (h : fitsN size 4800 = true) : formE size = 0 := if_pos h
theorem formE_no {size : UInt64} (h : fitsN size 4800 = false) : formE size = 2 := if_neg (by rw [h]; decide)

theorem Format_form {w : World} {p q : Nat} (h : SegAt w p q (List.replicate 600 0)) (size : UInt64) (x : Int) (hx : x = (size.toNat : Int)) :
    Calls Try.prog 39 #[.pointer (some ⟨p, 0, none⟩), .int .u64 x] w fun e w' => e = .returned (.int .i64 (formE size)) ∧ SegAt w' p q (formW size) ∧ Keeps (fun k => k = q) w w' := by
  cases hf : fitsN size 4800 with
  | true => exact (Format_yes h size x hx (by rw [List.length_replicate]; exact hf)).mono fun e w' ⟨h1, h2, h3⟩ => ⟨by rw [h1, formE_yes hf], by rw [List.length_replicate] at h2; rw [formW_yes hf]; exact h2, h3⟩
  | false => exact (Format_no h size x hx (by rw [List.length_replicate]; exact hf)).mono fun e w' ⟨h1, h2⟩ => ⟨by rw [h1, formE_no hf], by rw [formW_no hf]; exact h.keeps h2 (fun e => e) (fun e => e), h2.of_nil⟩

/-- a new segment of 4800 bytes -/
theorem New_4800 (w : World) : Calls Try.prog 38 #[.int .u64 4800] w fun e w' => ∃ p q, e = .returned (.pointer (some ⟨p, 0, none⟩)) ∧ SegAt w' p q (List.replicate 600 0) ∧ Keeps Nil w w' ∧ w.heap.size ≤ p ∧ w.heap.size ≤ q := by
  refine (New_yes w 4800 mayB_4800 _ (by rfl)).mono ?_
  rintro e w2 ⟨rfl, hs, k2, hsz⟩
  exact ⟨_, _, rfl, hs, k2, by omega, Nat.le_refl _⟩

theorem loadV_out {ws : List UInt64} {off : UInt64} (h : inB ws off = false) : loadV ws off = 0 := by simp [loadV, h]
/-- what is applied is what was thought of -/
theorem load_applied {ws : List UInt64} {l : List Put} (hs : ws.length ≤ 131072) (h : GoodP ws l) (off : UInt64) : loadV (applyW ws l) off = txLoad ws l off := by
  have hb : inB (applyW ws l) off = inB ws off := inB_len (by rw [applyW_length]) off
  cases hin : inB ws off with
  | true =>
    obtain ⟨h1, h2⟩ := inB_iff.1 hin
    have hg := applyW_get h.1 h.2 (off.toNat / 8) off (by omega) (by omega)
    unfold txLoad loadV
    rw [hb, hin, if_pos rfl, if_pos rfl, hg]
    cases loadP l off with
    | none => simp
    | some u => simp
  | false =>
    rw [loadV_out (hb.trans hin)]
    unfold txLoad
    have : loadP l off = none := by
      rw [loadP_none]
      intro hm
      obtain ⟨x, hx, rfl⟩ := List.mem_map.1 hm
      rw [h.2 x hx] at hin
      cases hin
    rw [this, loadV_out hin]; rfl
end Go.Proofs.Ytccllkgaakmdhaa
