/- What is read of a Tx: nobody's, or one over a segment. -/
import Derived.Test.YtccllkgaakmdhaaLive
namespace Go.Proofs.Ytccllkgaakmdhaa
open Go.RowKit

/-- T is a Tx that tells f, over n bytes. -/
structure Reads (T : Value) (f : UInt64 → UInt64) (n : Nat) (w : World) : Prop where
  load : ∀ w', Keeps Nil w w' → ∀ (off : UInt64) (x : Int), x = (off.toNat : Int) → Calls Try.prog 36 #[T, .int .u64 x] w' fun e w'' => e = .returned (.int .u64 ↑(f off).toNat) ∧ Keeps Nil w' w''
  size : ∀ w', Keeps Nil w w' → Calls Try.prog 46 #[T] w' fun e w'' => e = .returned (.int .u64 (n : Int)) ∧ w' = w''
theorem Reads.keeps {T : Value} {f : UInt64 → UInt64} {n : Nat} {w w' : World} (h : Reads T f n w) (k : Keeps Nil w w') : Reads T f n w' :=
  ⟨fun w'' k' => h.load w'' (k.trans' k'), fun w'' k' => h.size w'' (k.trans' k')⟩
theorem Reads.nil (w : World) : Reads (.pointer none) (fun _ => 0) 0 w :=
  ⟨fun w' _ off x _ => (TxLoad_nil w' x).mono fun e w'' ⟨h, k⟩ => ⟨h, by subst k; exact Keeps.refl _ _⟩, fun w' _ => TxSize_nil w'⟩
theorem Mem.reads {w : World} {s t : Nat} {l : List Put} {ws : List UInt64} {S : Nat → Prop} (h : Mem w s t l ws S) : Reads (.pointer (some ⟨t, 0, none⟩)) (txLoad ws l) (8 * ws.length) w :=
  ⟨fun _ k off x hx => (h.keeps_nil k).load off x hx, fun _ k => (h.keeps_nil k).size⟩
theorem Live.tells {w0 w : World} {s t : Nat} {l : List Put} {ws : List UInt64} {R : World → (Nat → Prop) → Prop} (h : Live w0 w s t l ws R) : Reads (.pointer (some ⟨t, 0, none⟩)) (txLoad ws l) (8 * ws.length) w := by
  obtain ⟨S, h1, _⟩ := h
  exact h1.reads
end Go.Proofs.Ytccllkgaakmdhaa
