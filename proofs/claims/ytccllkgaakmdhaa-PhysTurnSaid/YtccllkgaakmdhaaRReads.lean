/- What is read of the document's Tx; blocks of a call's own. -/
import Derived.Test.YtccllkgaakmdhaaReads
namespace Go.Proofs.Ytccllkgaakmdhaa
open Go.RowKit

/-- X is the document's Tx, that tells f. -/
structure RReads (X : Value) (f : UInt64 → UInt64) (w : World) : Prop where
  load : ∀ w', Keeps Nil w w' → ∀ (off : UInt64) (x : Int), x = (off.toNat : Int) → Calls Try.prog 35 #[X, .int .u64 x] w' fun e w'' => e = .returned (.int .u64 ↑(f off).toNat) ∧ Keeps Nil w' w''
theorem RReads.keeps {X : Value} {f : UInt64 → UInt64} {w w' : World} (h : RReads X f w) (k : Keeps Nil w w') : RReads X f w' := ⟨fun w'' k' => h.load w'' (k.trans' k')⟩

/-- The document's Tx: its words ws, what is thought of l. -/
def TxV (S : Nat → Prop) (w : World) (A B : Value) (ws : List UInt64) (l : List Put) : Prop :=
  0 < ws.length ∧ ws.length ≤ 131072 ∧ View kU S w A ws ∧ View kP S w B l
section
variable {S S' : Nat → Prop} {w w' : World} {A B : Value} {ws : List UInt64} {l : List Put}
theorem TxV.keeps_nil (h : TxV S w A B ws l) (k : Keeps Nil w w') : TxV S w' A B ws l := ⟨h.1, h.2.1, h.2.2.1.keeps_nil k, h.2.2.2.keeps_nil k⟩
theorem TxV.steps (h : TxV S w A B ws l) (k : Step S S' w w') : TxV S' w' A B ws l := ⟨h.1, h.2.1, h.2.2.1.steps k, h.2.2.2.steps k⟩
theorem Stable.txv (A B : Value) (ws : List UInt64) (l : List Put) : Stable (fun w S => TxV S w A B ws l) := fun _ _ _ _ k r => r.steps k
theorem TxV.val (h : TxV S w A B ws l) : ∃ b o c a2 c2, A = .slice (some ⟨b, o, none⟩) ws.length c ∧ B = .slice a2 l.length c2 := by
  obtain ⟨b, o, c, rfl, _⟩ := h.2.2.1.pos h.1
  obtain ⟨a2, c2, rfl, _⟩ := h.2.2.2.val
  exact ⟨b, o, c, a2, c2, rfl, rfl⟩
theorem TxV.rreads (h : TxV S w A B ws l) : RReads (.agg #[A, B]) (txLoad ws l) w := by
  obtain ⟨h1, _, h2, h3⟩ := h
  obtain ⟨b, o, c, rfl, _⟩ := h2.pos h1
  exact ⟨fun w' k off x hx => rTxLoad_any (h2.keeps_nil k) (h3.keeps_nil k) off x hx⟩
theorem TxV.store (h : TxV S w A B ws l) (hS : ∀ k, S k → k < w.heap.size) (hsm : l.length < 4294967296) (off v : UInt64) (x y : Int) (hx : x = (off.toNat : Int)) (hy : y = (v.toNat : Int)) :
    Calls Try.prog 87 #[.agg #[A, B], .int .u64 x, .int .u64 y] w fun e w' => ∃ B', e = .returned (.agg #[A, B']) ∧ TxV S w' A B' ws (txStore ws l off v) ∧ Keeps Nil w w' := by
  obtain ⟨h1, h1', h2, h3⟩ := h
  obtain ⟨b, o, c, rfl, _⟩ := h2.pos h1
  refine (rTxStore_any h2 h3 hS hsm off v x y hx hy).mono ?_
  rintro e w' ⟨vP', rfl, hv, k⟩
  exact ⟨vP', rfl, ⟨h1, h1', h2.keeps_nil k, hv⟩, k⟩
end

/-- a block of two, or three, cells behind steps that turn nothing -/
theorem frz {w : World} {m : Nat} {c : Array Value} {T : TypeId} (h : w.heap[m]? = some (.cells c T (0, 0))) (o : Nat) : w.frozen? ⟨m, o, none⟩ = false := by simp [World.frozen?, h]
theorem setRow3 {w : World} {m : Nat} {a b c x y z : Value} {T : TypeId} (h : w.heap[m]? = some (.cells #[a, b, c] T (0, 0))) :
    (((w.setCell ⟨m, 0, none⟩ x).setCell ⟨m, 1, none⟩ y).setCell ⟨m, 2, none⟩ z).heap[m]? = some (.cells #[x, y, z] T (0, 0)) := by
  have := heap_setCell_eq (heap_setCell_eq (heap_setCell_eq h 0 x) 1 y) 2 z
  simpa using this
theorem setRow2 {w : World} {m : Nat} {a b x y : Value} {T : TypeId} (h : w.heap[m]? = some (.cells #[a, b] T (0, 0))) :
    ((w.setCell ⟨m, 0, none⟩ x).setCell ⟨m, 1, none⟩ y).heap[m]? = some (.cells #[x, y] T (0, 0)) := by
  have := heap_setCell_eq (heap_setCell_eq h 0 x) 1 y
  simpa using this
theorem keepsRow3 {w0 w : World} (k : Keeps Nil w0 w) {m : Nat} (hm : w0.heap.size ≤ m) (x y z : Value) : Keeps Nil w0 (((w.setCell ⟨m, 0, none⟩ x).setCell ⟨m, 1, none⟩ y).setCell ⟨m, 2, none⟩ z) :=
  ((k.setNew (a := ⟨m, 0, none⟩) hm x).setNew (a := ⟨m, 1, none⟩) hm y).setNew (a := ⟨m, 2, none⟩) hm z
theorem keepsRow2 {w0 w : World} (k : Keeps Nil w0 w) {m : Nat} (hm : w0.heap.size ≤ m) (x y : Value) : Keeps Nil w0 ((w.setCell ⟨m, 0, none⟩ x).setCell ⟨m, 1, none⟩ y) :=
  (k.setNew (a := ⟨m, 0, none⟩) hm x).setNew (a := ⟨m, 1, none⟩) hm y
end Go.Proofs.Ytccllkgaakmdhaa
