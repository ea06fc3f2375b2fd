/- A Tx with its segment, as one thing. -/
import Derived.Test.YtccllkgaakmdhaaTxApply
namespace Go.Proofs.Ytccllkgaakmdhaa
open Go.RowKit

/-- Block t is a Tx over the segment of block s: its words ws, what is thought of l; S: all their blocks. -/
def Mem (w : World) (s t : Nat) (l : List Put) (ws : List UInt64) (S : Nat → Prop) : Prop :=
  ∃ q m tv, TxAt w t m tv s l ∧ SegAt w s q ws ∧ ¬ txS t m tv s ∧ ¬ txS t m tv q ∧ ∀ k, S k ↔ (txS t m tv k ∨ k = s ∨ k = q)

/-- A step: blocks of S alone turn; S' is S, and blocks that are new. -/
structure Step (S S' : Nat → Prop) (w w' : World) : Prop where
  keeps : Keeps S w w'
  grow : ∀ k, S' k → S k ∨ w.heap.size ≤ k

theorem Step.refl (S : Nat → Prop) (w : World) : Step S S w w := ⟨Keeps.refl _ _, fun _ h => .inl h⟩
theorem Step.of_nil {S : Nat → Prop} {w w' : World} (h : Keeps Nil w w') : Step S S w w' := ⟨h.of_nil, fun _ h => .inl h⟩
theorem Step.of_keeps {S : Nat → Prop} {w w' : World} (h : Keeps S w w') : Step S S w w' := ⟨h, fun _ h => .inl h⟩
theorem Step.trans {A B C : Nat → Prop} {a b c : World} (h : Step A B a b) (k : Step B C b c) : Step A C a c :=
  ⟨h.keeps.trans k.keeps (fun i hi e => (h.grow i e).elim id (fun e => by omega)),
   fun i e => (k.grow i e).elim (h.grow i) (fun e => .inr (Nat.le_trans h.keeps.size e))⟩
theorem Step.nil {A B : Nat → Prop} {a b c : World} (h : Step A B a b) (k : Keeps Nil b c) : Step A B a c := h.trans (Step.of_nil k)
theorem View.steps {α : Type} {K : Kind α} {S S' : Nat → Prop} {w w' : World} {v : Value} {l : List α} (h : View K S w v l) (k : Step S S' w w') : View K S' w' v l := h.step k.keeps k.grow
theorem Step.cell {A B : Nat → Prop} {a b : World} (h : Step A B a b) {k : Nat} (hk : k < a.heap.size) (hA : ¬ A k) (o : Nat) : b.cell? ⟨k, o, none⟩ = a.cell? ⟨k, o, none⟩ := h.keeps.cell hk hA o
theorem Step.at {A B : Nat → Prop} {a b : World} (h : Step A B a b) {k : Nat} {o : Obj} (hk : a.heap[k]? = some o) (hA : ¬ A k) : b.heap[k]? = some o := h.keeps.at hk hA
theorem Step.out {A B : Nat → Prop} {a b : World} (h : Step A B a b) {k : Nat} (hk : k < a.heap.size) (hA : ¬ A k) : ¬ B k := fun e => (h.grow k e).elim hA (fun e => by omega)

/-- A view stands while a block of other cells is written. -/
theorem View.box {α : Type} {K : Kind α} {S : Nat → Prop} {w w' : World} {v : Value} {l : List α} {m : Nat} {c : Array Value} {T : TypeId} {f : Nat × Nat} (h : View K S w v l) (hm : w.heap[m]? = some (.cells c T f))
    (hno : ∀ (i : Nat) (u : Value) (x : α), c[i]? = some u → (K.enc x)[0]? ≠ some u) (k : Keeps (fun i => i = m) w w') : View K S w' v l := by
  rcases h with h | ⟨b, off, cap, hv, hc, hx, hb, hn, hcell⟩
  · exact .inl h
  · refine .inr ⟨b, off, cap, hv, hc, hx, Nat.lt_of_lt_of_le hb k.size, hn, fun i j hj hi => ?_⟩
    have hne : b ≠ m := fun e => by
      subst e
      have h0 := hcell i 0 K.pos hi
      rw [List.getElem?_eq_getElem hi] at h0
      have h1 : (K.enc l[i])[0]? = some ((K.enc l[i])[0]'(by rw [K.len]; exact K.pos)) := List.getElem?_eq_getElem _
      simp only [Option.bind_some] at h0
      rw [h1] at h0
      simp only [World.cell?, hm] at h0
      exact hno _ _ l[i] (by simpa using h0) h1
    exact (k.cell hb hne _).trans (hcell i j hj hi)
theorem noU (A B : Option Addr) (n n' c c' : Nat) : ∀ (i : Nat) (u : Value) (x : UInt64), (#[Value.slice A n c, Value.slice B n' c'] : Array Value)[i]? = some u → (kU.enc x)[0]? ≠ some u := by
  intro i u x hu e
  simp at e; subst e
  rcases i with _ | _ | i <;> simp at hu
theorem noP (A B : Option Addr) (n n' c c' : Nat) : ∀ (i : Nat) (u : Value) (x : Put), (#[Value.slice A n c, Value.slice B n' c'] : Array Value)[i]? = some u → (kP.enc x)[0]? ≠ some u := by
  intro i u x hu e
  simp at e; subst e
  rcases i with _ | _ | i <;> simp at hu

section
variable {w w' : World} {s t : Nat} {l : List Put} {ws : List UInt64} {S : Nat → Prop}
theorem Mem.lt (h : Mem w s t l ws S) {k : Nat} (hk : S k) : k < w.heap.size := by
  obtain ⟨q, m, tv, h1, h2, h3, h4, h5⟩ := h
  rcases (h5 k).1 hk with e | rfl | rfl
  · exact h1.lt e
  · exact h2.lt.1
  · exact h2.lt.2
theorem Mem.keeps_nil (h : Mem w s t l ws S) (k : Keeps Nil w w') : Mem w' s t l ws S := by
  obtain ⟨q, m, tv, h1, h2, h3, h4, h5⟩ := h
  exact ⟨q, m, tv, h1.keeps_nil k, h2.keeps k (fun e => e) (fun e => e), h3, h4, h5⟩
theorem Mem.keeps {S2 : Nat → Prop} (h : Mem w s t l ws S) (k : Keeps S2 w w') (hS : ∀ g, S g → ¬ S2 g) : Mem w' s t l ws S := by
  obtain ⟨q, m, tv, h1, h2, h3, h4, h5⟩ := h
  exact ⟨q, m, tv, h1.keeps k (fun g hg => hS g ((h5 g).2 (.inl hg))), h2.keeps k (hS _ ((h5 _).2 (.inr (.inl rfl)))) (hS _ ((h5 _).2 (.inr (.inr rfl)))), h3, h4, h5⟩
theorem Mem.seg (h : Mem w s t l ws S) : ws.length ≤ 131072 ∧ 0 < ws.length := by
  obtain ⟨q, m, tv, h1, h2, h3, h4, h5⟩ := h
  exact ⟨h2.2.1, h2.2.2.1⟩

theorem Mem.load (h : Mem w s t l ws S) (off : UInt64) (x : Int) (hx : x = (off.toNat : Int)) :
    Calls Try.prog 36 #[.pointer (some ⟨t, 0, none⟩), .int .u64 x] w fun e w' => e = .returned (.int .u64 ↑(txLoad ws l off).toNat) ∧ Keeps Nil w w' := by
  obtain ⟨q, m, tv, h1, h2, h3, h4, h5⟩ := h
  exact TxLoad_some h1 h2 off x hx
theorem Mem.old (h : Mem w s t l ws S) (off : UInt64) (x : Int) (hx : x = (off.toNat : Int)) :
    Calls Try.prog 45 #[.pointer (some ⟨t, 0, none⟩), .int .u64 x] w fun e w' => e = .returned (.int .u64 ↑(loadV ws off).toNat) ∧ Keeps Nil w w' := by
  obtain ⟨q, m, tv, h1, h2, h3, h4, h5⟩ := h
  exact TxOld_some h1 h2 off x hx
theorem Mem.size (h : Mem w s t l ws S) :
    Calls Try.prog 46 #[.pointer (some ⟨t, 0, none⟩)] w fun e w' => e = .returned (.int .u64 ((8 * ws.length : Nat) : Int)) ∧ w = w' := by
  obtain ⟨q, m, tv, h1, h2, h3, h4, h5⟩ := h
  exact TxSize_some h1 h2
theorem Mem.store (h : Mem w s t l ws S) (off v : UInt64) (hlen : l.length < 4294967296) (x y : Int) (hx : x = (off.toNat : Int)) (hy : y = (v.toNat : Int)) :
    Calls Try.prog 43 #[.pointer (some ⟨t, 0, none⟩), .int .u64 x, .int .u64 y] w fun e w' => e = .returned (.tuple #[]) ∧ ∃ S', Mem w' s t (txStore ws l off v) ws S' ∧ Step S S' w w' := by
  obtain ⟨q, m, tv, h1, h2, h3, h4, h5⟩ := h
  refine (TxStore_any h1 h2 off v hlen x y hx hy).mono ?_
  rintro e w' ⟨rfl, tv', g1, g2, g3⟩
  have hs := h2.lt
  refine ⟨rfl, fun k => txS t m tv' k ∨ k = s ∨ k = q, ⟨q, m, tv', g1, h2.keeps g2 h3 h4, fun e => (g3 _ e).elim h3 (fun e => by omega), fun e => (g3 _ e).elim h4 (fun e => by omega), fun k => Iff.rfl⟩, g2.mono (fun i _ e => (h5 i).2 (.inl e)), fun k hk => ?_⟩
  rcases hk with hk | hk
  · exact (g3 k hk).imp (fun e => (h5 k).2 (.inl e)) id
  · exact .inl ((h5 k).2 (.inr hk))
theorem Mem.puts (h : Mem w s t l ws S) (hlen : l.length < 4294967296) :
    Calls Try.prog 33 #[.pointer (some ⟨t, 0, none⟩)] w fun e w' => ∃ v, e = .returned v ∧ Own kP w' w.heap.size v (told l) ∧ Keeps Nil w w' := by
  obtain ⟨q, m, tv, h1, h2, h3, h4, h5⟩ := h
  exact Puts_some h1 hlen
theorem Mem.apply (h : Mem w s t l ws S) (hlen : l.length < 4294967296) :
    Calls Try.prog 28 #[.pointer (some ⟨t, 0, none⟩)] w fun e w' => e = .returned (.tuple #[]) ∧ Mem w' s t l (applyW ws (told l)) S ∧ Keeps S w w' := by
  obtain ⟨q, m, tv, h1, h2, h3, h4, h5⟩ := h
  refine (Apply_some h1 h2 h4 hlen).mono ?_
  rintro e w' ⟨rfl, g1, g2⟩
  exact ⟨rfl, ⟨q, m, tv, h1.keeps g2 (fun g hg e => h4 (by subst e; exact hg)), g1, h3, h4, h5⟩, g2.mono (fun i _ e => (h5 i).2 (.inr (.inr e)))⟩
theorem Mem.segLoad (h : Mem w s t l ws S) (off : UInt64) (x : Int) (hx : x = (off.toNat : Int)) :
    Calls Try.prog 86 #[.pointer (some ⟨s, 0, none⟩), .int .u64 x] w fun e w' => e = .returned (.tuple #[.int .u64 ↑(loadV ws off).toNat, .int .i64 (errV ws off)]) ∧ Keeps Nil w w' := by
  obtain ⟨q, m, tv, h1, h2, h3, h4, h5⟩ := h
  exact Load_any h2 off x hx
theorem Mem.segStore (h : Mem w s t l ws S) (off v : UInt64) (x y : Int) (hx : x = (off.toNat : Int)) (hy : y = (v.toNat : Int)) :
    Calls Try.prog 34 #[.pointer (some ⟨s, 0, none⟩), .int .u64 x, .int .u64 y] w fun e w' => e = .returned (.int .i64 (errV ws off)) ∧ Mem w' s t l (putW ws off v) S ∧ Keeps S w w' := by
  obtain ⟨q, m, tv, h1, h2, h3, h4, h5⟩ := h
  refine (Store_any h2 off v x y hx hy).mono ?_
  rintro e w' ⟨rfl, g1, g2⟩
  exact ⟨rfl, ⟨q, m, tv, h1.keeps g2 (fun g hg e => h4 (by subst e; exact hg)), g1, h3, h4, h5⟩, g2.mono (fun i _ e => (h5 i).2 (.inr (.inr e)))⟩
end

/-- a new Tx over a segment -/
theorem Mem.new {w : World} {p q : Nat} {ws : List UInt64} (hs : SegAt w p q ws) :
    Calls Try.prog 42 #[.pointer (some ⟨p, 0, none⟩)] w fun e w' => ∃ t S', e = .returned (.pointer (some ⟨t, 0, none⟩)) ∧ Mem w' p t [] ws S' ∧ Keeps Nil w w' ∧ (∀ k, S' k → k = p ∨ k = q ∨ w.heap.size ≤ k) ∧ w.heap.size ≤ t := by
  refine (TxNew_some w p).mono ?_
  rintro e w' ⟨rfl, h1, h2, h3⟩
  have hl := hs.lt
  have hS : ∀ k, txS (w.heap.size + 1) w.heap.size (.slice none 0 0) k → w.heap.size ≤ k := fun k hk => by
    rcases hk with rfl | rfl | hk
    · omega
    · omega
    · cases hk
  refine ⟨w.heap.size + 1, fun k => txS (w.heap.size + 1) w.heap.size (.slice none 0 0) k ∨ k = p ∨ k = q, rfl, ⟨q, _, _, h1, hs.keeps h2 (fun e => e) (fun e => e), fun e => by have := hS _ e; omega, fun e => by have := hS _ e; omega, fun k => Iff.rfl⟩, h2, fun k hk => ?_, by omega⟩
  rcases hk with hk | rfl | rfl
  · exact .inr (.inr (hS k hk))
  · exact .inl rfl
  · exact .inr (.inl rfl)

end Go.Proofs.Ytccllkgaakmdhaa
