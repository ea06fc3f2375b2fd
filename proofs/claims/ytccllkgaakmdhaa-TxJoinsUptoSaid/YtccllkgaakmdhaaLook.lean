/- A slice that came in, and is read only: as 'View', or empty at any place. -/
import Derived.Test.YtccllkgaakmdhaaRows2
namespace Go.Proofs.Ytccllkgaakmdhaa
open Go.RowKit

def Look {α : Type} (K : Kind α) (w : World) (v : Value) (l : List α) : Prop := View K Nil w v l ∨ ((∃ a cap, v = .slice a 0 cap) ∧ l = [])
section
variable {α : Type} {K : Kind α} {w w' : World} {v : Value} {l : List α}
theorem View.look {S : Nat → Prop} (h : View K S w v l) : Look K w v l := .inl (h.shut (fun _ _ e => e.elim))
theorem Look.nil : Look K w (.slice none 0 0) [] := .inl (.inl ⟨rfl, rfl⟩)
theorem Look.keeps_nil (h : Look K w v l) (k : Keeps Nil w w') : Look K w' v l := h.imp (fun h => h.keeps_nil k) id
theorem Look.val (h : Look K w v l) : ∃ a cap, v = .slice a l.length cap ∧ l.length ≤ maxLen := by
  rcases h with h | ⟨⟨a, cap, rfl⟩, rfl⟩
  · exact h.val
  · exact ⟨a, cap, rfl, Nat.zero_le _⟩
theorem Look.view (h : Look K w v l) (hp : 0 < l.length) : View K Nil w v l := by
  rcases h with h | ⟨_, rfl⟩
  · exact h
  · simp at hp
theorem Look.pos (h : Look K w v l) (hp : 0 < l.length) : ∃ b off cap, v = .slice (some ⟨b, off, none⟩) l.length cap ∧ l.length ≤ cap ∧ cap ≤ maxLen ∧ b < w.heap.size ∧ ¬ Nil b ∧ ∀ i j, j < K.size → i < l.length → w.cell? ⟨b, off + (i * K.size + j), none⟩ = (l[i]?).bind (fun x => (K.enc x)[j]?) := (h.view hp).pos hp
end
end Go.Proofs.Ytccllkgaakmdhaa
