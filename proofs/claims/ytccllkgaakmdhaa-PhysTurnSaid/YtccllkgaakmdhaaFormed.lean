/- A Tx over a new segment, with what is read beside it; the document's formatted words. -/
import Derived.Test.YtccllkgaakmdhaaHFormed
import Derived.Test.YtccllkgaakmdhaaTagW
namespace Go.Proofs.Ytccllkgaakmdhaa
open Go.RowKit

theorem SegAt.liveR {w0 w : World} {p q : Nat} {ws : List UInt64} (hs : SegAt w p q ws) (hK : Keeps Nil w0 w) (hp : w0.heap.size ≤ p) (hq : w0.heap.size ≤ q) {R : World → (Nat → Prop) → Prop} (hR : Stable R) (h0 : R w (fun k => k = p ∨ k = q)) :
    Calls Try.prog 42 #[.pointer (some ⟨p, 0, none⟩)] w fun e w' => ∃ t, e = .returned (.pointer (some ⟨t, 0, none⟩)) ∧ Live w0 w' p t [] ws R := by
  refine (Mem.new hs).mono ?_
  rintro e w' ⟨t, S', rfl, h1, h2, h3, h4⟩
  have := hK.size
  exact ⟨t, rfl, S', h1, fun k hk => by rcases h3 k hk with rfl | rfl | e <;> omega, hK.trans' h2, hR _ S' w w' ⟨h2.of_nil, fun k hk => by rcases h3 k hk with rfl | rfl | e; exact .inl (.inl rfl); exact .inl (.inr rfl); exact .inr e⟩ h0⟩
theorem rFormat_4800 (w : World) (size : UInt64) (y : Int) (hy : y = (size.toNat : Int)) :
    Calls Try.prog 40 #[.int .u64 4800, .int .u64 y] w fun e w' => ∃ v, e = .returned (.tuple #[v, .int .i64 (formE size)]) ∧ Own kU w' w.heap.size v (formW size) ∧ Keeps Nil w w' := by
  cases hf : fitsN size 4800 with
  | true =>
    refine (rFormat_yes w 4800 size mayB_4800 hf 4800 y (by rfl) hy).mono ?_
    rintro e w' ⟨v, rfl, ho, k⟩
    have ho' : Own kU w' w.heap.size v (fmtR 600 size) := ho
    exact ⟨v, by rw [formE_yes hf], by rw [formW_yes hf, fmt_same (n := 600) hf]; exact ho', k⟩
  | false =>
    refine (rFormat_odd w 4800 size mayB_4800 hf 4800 y (by rfl) hy).mono ?_
    rintro e w' ⟨v, rfl, ho, k⟩
    exact ⟨v, by rw [formE_no hf], by rw [formW_no hf]; exact ho, k⟩
theorem take_cap {α : Type} (l : List α) (k c : Nat) (hk : k ≤ l.length) (hc : k ≤ c) (h : ¬ (k < l.length ∧ k < c)) : l.take k = l.take c := by
  by_cases e : k = c
  · rw [e]
  · have : k = l.length := by omega
    rw [List.take_of_length_le (by omega), List.take_of_length_le (by omega)]
end Go.Proofs.Ytccllkgaakmdhaa
