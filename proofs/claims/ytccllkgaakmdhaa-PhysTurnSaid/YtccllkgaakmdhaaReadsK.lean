/- What is read of a Tx as long as its blocks stand; blocks of the heap as rows. -/
import Derived.Test.YtccllkgaakmdhaaPhysOne
namespace Go.Proofs.Ytccllkgaakmdhaa
open Go.RowKit

/-- T tells f as long as the blocks of R stand. -/
def ReadsK (R : Nat → Prop) (T : Value) (f : UInt64 → UInt64) (n : Nat) (w : World) : Prop := ∀ w', KeptOn R w w' → Reads T f n w'
theorem ReadsK.reads {R : Nat → Prop} {T : Value} {f : UInt64 → UInt64} {n : Nat} {w : World} (h : ReadsK R T f n w) : Reads T f n w := h w (KeptOn.refl _ _)
theorem ReadsK.on {R : Nat → Prop} {T : Value} {f : UInt64 → UInt64} {n : Nat} {w w' : World} (h : ReadsK R T f n w) (k : KeptOn R w w') : ReadsK R T f n w' := fun _ k' => h _ (k.trans k')
theorem ReadsK.keeps {R : Nat → Prop} {T : Value} {f : UInt64 → UInt64} {n : Nat} {w w' : World} (h : ReadsK R T f n w) (hR : ∀ k, R k → k < w.heap.size) (k : Keeps Nil w w') : ReadsK R T f n w' := h.on (k.on (fun i hi => ⟨hR i hi, fun e => e⟩))
theorem ReadsK.nil (R : Nat → Prop) (w : World) : ReadsK R (.pointer none) (fun _ => 0) 0 w := fun _ _ => Reads.nil _
theorem SegAt.on {R : Nat → Prop} {w w' : World} {p q : Nat} {ws : List UInt64} (h : SegAt w p q ws) (k : KeptOn R w w') (hp : R p) (hq : R q) : SegAt w' p q ws := by
  obtain ⟨h1, h2, h3, cap, c, h4, h4', h5, h6, h7⟩ := h
  exact ⟨h1, h2, h3, cap, c, h4, h4', (k p hp).trans h5, (k q hq).trans h6, h7⟩
theorem Mem.readsK {w : World} {s t : Nat} {l : List Put} {ws : List UInt64} {S : Nat → Prop} (h : Mem w s t l ws S) : ReadsK S (.pointer (some ⟨t, 0, none⟩)) (txLoad ws l) (8 * ws.length) w := by
  obtain ⟨q, m, tv, h1, h2, h3, h4, h5⟩ := h
  intro w' k
  exact Mem.reads (S := S) ⟨q, m, tv, h1.on k (fun g hg => (h5 g).2 (.inl hg)), h2.on k ((h5 _).2 (.inr (.inl rfl))) ((h5 _).2 (.inr (.inr rfl))), h3, h4, h5⟩
theorem Live.tellsK {w0 w : World} {s t : Nat} {l : List Put} {ws : List UInt64} {R : World → (Nat → Prop) → Prop} (h : Live w0 w s t l ws R) : ∃ S, (∀ k, S k → k < w.heap.size) ∧ ReadsK S (.pointer (some ⟨t, 0, none⟩)) (txLoad ws l) (8 * ws.length) w := by
  obtain ⟨S, h1, _⟩ := h
  exact ⟨S, fun k hk => h1.lt hk, h1.readsK⟩

theorem block_one (b : BlockV) : ∀ u ∈ b.cells.toList, u.oneCell' = true := fun u hu => by
  simp [BlockV.cells] at hu
  rcases hu with rfl | rfl | rfl | rfl | rfl <;> rfl
/-- blocks as elements of a slice -/
abbrev kB : Kind BlockV := { slice := 93, elem := 103, size := 5, bytes := 40, zero := .agg #[.int .u64 0, .int .u64 0, .bool false, .int .i64 0, .int .u64 0], enc := fun b => b.cells.toList, len := fun _ => rfl, one := block_one, und := Try.underlying93, info := by kernel_rfl, zcells := rfl, pos := by decide, small := by decide }
abbrev kRB : Kind BlockV := { slice := 96, elem := 108, size := 5, bytes := 40, zero := .agg #[.int .u64 0, .int .u64 0, .bool false, .int .i64 0, .int .u64 0], enc := fun b => b.cells.toList, len := fun _ => rfl, one := block_one, und := Try.underlying96, info := by kernel_rfl, zcells := rfl, pos := by decide, small := by decide }
end Go.Proofs.Ytccllkgaakmdhaa
