/- The narrower form of a row ('Upto'): an argument of small bulk is short. -/
import Derived.Test.YtccllkgaakmdhaaOpen
namespace Go.Proofs.Ytccllkgaakmdhaa
open Go.ChangeShapes Go.WideShapes Go.ChangeAt Go.RowKit Go.Deep Go.Joins

section
variable {H : Type} {enc : TypeId × Value → H} {W : World} {spare : Nat → Bool} {held : Bool} {base : Nat}
theorem bulk_pos (d : DataW H) : 0 < Rows.uptoBulk d := by
  unfold Rows.uptoBulk
  split <;> omega
theorem bulk_len : ∀ l : List (DataW H), l.length ≤ Rows.uptoBulkAll l
  | [] => Nat.zero_le _
  | d :: l => by
    have h1 := bulk_pos d
    have h2 := bulk_len l
    unfold Rows.uptoBulkAll
    simp only [List.length_cons]
    omega
theorem look_len {α : Type} {K : Kind α} {P : Program} {t e : TypeId} {v : Value} {d : DataW H} {p : List MemPlace} {l : List α} (ht : P.underlying t = some (.slice e))
    (h : DataW.Trod enc P W base spare held t v d p) (hv : v.cells.toList = [v]) (hk : Look K W v l) : l.length ≤ Rows.uptoBulk d := by
  obtain ⟨fuel, hf⟩ := h
  rw [hv] at hf
  obtain ⟨a', c', he, _⟩ := hk.val
  rcases open_slice ht hf with ⟨h0, hx⟩ | ⟨a, len, cap, m, n, D, Pl, hcs, hb, hl, hm, hmm, hx, hi⟩
  · simp only [List.cons.injEq, and_true] at h0
    rw [h0] at he
    simp only [Value.slice.injEq] at he
    omega
  · simp only [List.cons.injEq, and_true] at hcs
    rw [hcs] at he
    simp only [Value.slice.injEq] at he
    simp only [Prod.mk.injEq] at hx
    have h1 := bulk_len (List.map D (List.range len))
    rw [hx.1]
    unfold Rows.uptoBulk
    simp only [List.length_map, List.length_range] at h1
    omega
end
end Go.Proofs.Ytccllkgaakmdhaa
