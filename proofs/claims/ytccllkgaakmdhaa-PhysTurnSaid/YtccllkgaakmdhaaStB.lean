/- Blocks of a call's own, and a Tx, in the form that printed walks use. -/
import Derived.Test.YtccllkgaakmdhaaReadsK
import Derived.Test.YtccllkgaakmdhaaTreeP
namespace Go.Proofs.Ytccllkgaakmdhaa
open Go.RowKit

/-- block B is known whole, and none of S -/
def Bx (w : World) (S : Nat → Prop) (B : Nat) (c : Array Value) (T : TypeId) : Prop := w.heap[B]? = some (.cells c T (0, 0)) ∧ ¬ S B
section
variable {w w' : World} {S S' : Nat → Prop} {B : Nat} {c : Array Value} {T : TypeId}
theorem Bx.steps (h : Bx w S B c T) (k : Step S S' w w') : Bx w' S' B c T := ⟨k.at h.1 h.2, k.out (getElem?_lt h.1) h.2⟩
theorem Bx.nil (h : Bx w S B c T) (k : Keeps Nil w w') : Bx w' S B c T := h.steps (Step.of_nil k)
theorem Bx.new (hS : ∀ k, S k → k < w.heap.size) (c : Array Value) (T : TypeId) (hB : B = w.heap.size) : Bx (w.alloc (.cells c T)) S B c T := by
  subst hB
  exact ⟨heap_new w _, fun e => Nat.lt_irrefl _ (hS _ e)⟩
theorem Bx.cell (h : Bx w S B c T) (o : Nat) (v : Value) (hv : c[o]? = some v) : w.cell? ⟨B, o, none⟩ = some v := by
  have h1 := h.1
  simp [World.cell?, h1, hv]
theorem Bx.frz (h : Bx w S B c T) (o : Nat) : w.frozen? ⟨B, o, none⟩ = false := by
  have h1 := h.1
  simp [World.frozen?, h1]
theorem Bx.lt (h : Bx w S B c T) : B < w.heap.size := getElem?_lt h.1
theorem Bx.set (h : Bx w S B c T) (o : Nat) (v : Value) : Bx (w.setCell ⟨B, o, none⟩ v) S B (c.setIfInBounds o v) T := ⟨heap_setCell_eq h.1 o v, h.2⟩
theorem Bx.other {B' : Nat} (h : Bx w S B c T) (hne : B ≠ B') (o : Nat) (v : Value) : Bx (w.setCell ⟨B', o, none⟩ v) S B c T := ⟨heap_setCell_ne h.1 _ _ hne, h.2⟩
theorem Bx.drew (h : Bx w S B c T) : Bx w.drew S B c T := h
theorem Step.set {S0 : Nat → Prop} {wE : World} (h : Step S0 S wE w) (hB : wE.heap.size ≤ B) (o : Nat) (v : Value) : Step S0 S wE (w.setCell ⟨B, o, none⟩ v) :=
  ⟨h.keeps.trans (keeps_setCell w ⟨B, o, none⟩ v) (fun i hi e => by simp only at e; omega), h.grow⟩
theorem Step.alloc {S0 : Nat → Prop} {wE : World} (h : Step S0 S wE w) (o : Obj) : Step S0 S wE (w.alloc o) := h.nil ((Keeps.refl Nil w).alloc o)
theorem Step.drew {S0 : Nat → Prop} {wE : World} (h : Step S0 S wE w) : Step S0 S wE w.drew := h.nil (keeps_drew w)
theorem alloc_keeps (w : World) (o : Obj) : Keeps Nil w (w.alloc o) := (Keeps.refl Nil w).alloc o
end
theorem Bx.own {α : Type} {K : Kind α} {w w' : World} {B base : Nat} {c : Array Value} {T : TypeId} {v : Value} {l : List α} (h : Bx w Nil B c T) (_ : Own K w base v l) (k : Keeps (fun k => v.ownBlock = some k) w w') (hne : v.ownBlock ≠ some B) : Bx w' Nil B c T := ⟨k.at h.1 hne, fun e => e⟩
theorem Step.own {α : Type} {K : Kind α} {wE w w' : World} {base : Nat} {v : Value} {l : List α} (h : Step Nil Nil wE w) (ho : Own K w base v l) (hb : wE.heap.size ≤ base) (k : Keeps (fun k => v.ownBlock = some k) w w') : Step Nil Nil wE w' :=
  Step.of_nil (h.keeps.trans k (fun i hi e => by have := (ho.block e).1; omega))
theorem own_ne_old {α : Type} {K : Kind α} {w : World} {base B : Nat} {v : Value} {l : List α} (ho : Own K w base v l) (h : B < base) : v.ownBlock ≠ some B := fun e => by have := (ho.block e).1; omega
theorem own_ne_new {v : Value} {B : Nat} (h : ∀ g, v.ownBlock = some g → g < B) : v.ownBlock ≠ some B := fun e => Nat.lt_irrefl _ (h _ e)
theorem Nil.lt {w : World} : ∀ k, Nil k → k < w.heap.size := fun _ e => e.elim

/-- block t is a Tx that tells f, over n bytes; its blocks are S -/
def TxF (w : World) (t : Nat) (f : UInt64 → UInt64) (n : Nat) (S : Nat → Prop) : Prop := ∃ s l ws, Mem w s t l ws S ∧ txLoad ws l = f ∧ 8 * ws.length = n ∧ GoodP ws l
section
variable {w w' : World} {S S' : Nat → Prop} {t n : Nat} {f : UInt64 → UInt64}
theorem TxF.lt (h : TxF w t f n S) : ∀ k, S k → k < w.heap.size := by
  obtain ⟨s, l, ws, m, _⟩ := h
  exact fun k e => m.lt e
theorem TxF.nil (h : TxF w t f n S) (k : Keeps Nil w w') : TxF w' t f n S := by
  obtain ⟨s, l, ws, m, r⟩ := h
  exact ⟨s, l, ws, m.keeps_nil k, r⟩
theorem TxF.set {B : Nat} (h : TxF w t f n S) (hB : ¬ S B) (o : Nat) (v : Value) : TxF (w.setCell ⟨B, o, none⟩ v) t f n S := by
  obtain ⟨s, l, ws, m, r⟩ := h
  exact ⟨s, l, ws, m.keeps (keeps_setCell w _ _) (fun g hg e => hB (by simp only at e; rw [← e]; exact hg)), r⟩
theorem TxF.small (h : TxF w t f n S) : n ≤ 1048576 ∧ 0 < n ∧ n % 8 = 0 := by
  obtain ⟨s, l, ws, m, _, r, _⟩ := h
  have := m.seg
  omega
theorem TxF.reads (h : TxF w t f n S) : Reads (.pointer (some ⟨t, 0, none⟩)) f n w := by
  obtain ⟨s, l, ws, m, rfl, rfl, _⟩ := h
  exact m.reads
theorem TxF.readsK (h : TxF w t f n S) : ReadsK S (.pointer (some ⟨t, 0, none⟩)) f n w := by
  obtain ⟨s, l, ws, m, rfl, rfl, _⟩ := h
  exact m.readsK
theorem txLoad_stF {ws : List UInt64} {l : List Put} (off v : UInt64) : txLoad ws (txStore ws l off v) = PT.stF (8 * ws.length) (txLoad ws l) off v := by
  unfold txStore PT.stF
  by_cases h : inB ws off = true
  · have h' := inB_iff.1 h
    rw [if_pos h, if_pos h']
    funext o
    unfold txLoad PT.upd
    rw [loadP_store]
    by_cases e : o = off
    · rw [if_pos e, if_pos e]; rfl
    · rw [if_neg e, if_neg e]
  · rw [if_neg h, if_neg (fun e => h (inB_iff.2 e))]
theorem TxF.store (h : TxF w t f n S) (off v : UInt64) (x y : Int) (hx : x = (off.toNat : Int)) (hy : y = (v.toNat : Int)) :
    Calls Try.prog 43 #[.pointer (some ⟨t, 0, none⟩), .int .u64 x, .int .u64 y] w fun e w' => e = .returned (.tuple #[]) ∧ ∃ S', TxF w' t (PT.stF n f off v) n S' ∧ Step S S' w w' := by
  obtain ⟨s, l, ws, m, rfl, rfl, hg⟩ := h
  have hs := m.seg
  have hl := good_length hg
  refine (m.store off v (by omega) x y hx hy).mono ?_
  rintro e w' ⟨rfl, S', m', st⟩
  exact ⟨rfl, S', ⟨s, _, ws, m', txLoad_stF off v, rfl, hg.store off v⟩, st⟩
theorem Live.txF {w0 : World} {s : Nat} {l : List Put} {ws : List UInt64} {R : World → (Nat → Prop) → Prop} (h : Live w0 w s t l ws R) (hg : GoodP ws l) : ∃ S, TxF w t (txLoad ws l) (8 * ws.length) S ∧ Step Nil S w0 w ∧ R w S := by
  obtain ⟨S, h1, h2, h3, h4⟩ := h
  exact ⟨S, ⟨s, l, ws, h1, rfl, rfl, hg⟩, ⟨h3, fun k e => .inr (h2 k e)⟩, h4⟩
end
theorem Reads.loadC {T : Value} {f : UInt64 → UInt64} {n : Nat} {w : World} (h : Reads T f n w) (off : UInt64) (x : Int) (hx : x = (off.toNat : Int)) :
    Calls Try.prog 36 #[T, .int .u64 x] w fun e w' => e = .returned (.int .u64 ↑(f off).toNat) ∧ Keeps Nil w w' := h.load w (Keeps.refl _ _) off x hx
end Go.Proofs.Ytccllkgaakmdhaa
