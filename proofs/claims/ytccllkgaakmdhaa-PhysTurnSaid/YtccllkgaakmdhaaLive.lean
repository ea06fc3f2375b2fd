/- What a law holds while it works: one Tx over one segment that turn, all else as it was; and what is only read. -/
import Derived.Test.YtccllkgaakmdhaaGlue
namespace Go.Proofs.Ytccllkgaakmdhaa
open Go.RowKit

/-- What is read only: it stands while blocks of S alone turn. -/
def Stable (R : World → (Nat → Prop) → Prop) : Prop := ∀ S S' w w', Step S S' w w' → R w S → R w' S'
def Top : World → (Nat → Prop) → Prop := fun _ _ => True
theorem Stable.top : Stable Top := fun _ _ _ _ _ _ => trivial
theorem Stable.and {R R' : World → (Nat → Prop) → Prop} (h : Stable R) (h' : Stable R') : Stable (fun w S => R w S ∧ R' w S) := fun S S' w w' k r => ⟨h S S' w w' k r.1, h' S S' w w' k r.2⟩
theorem Stable.view {α : Type} (K : Kind α) (v : Value) (l : List α) : Stable (fun w S => View K S w v l) := fun _ _ _ _ k r => r.steps k
/-- a block that is known whole, and doesn't turn -/
def Still (n : Nat) (c : Array Value) (T : TypeId) : World → (Nat → Prop) → Prop := fun w S => w.heap[n]? = some (.cells c T (0, 0)) ∧ ¬ S n
theorem Stable.still (n : Nat) (c : Array Value) (T : TypeId) : Stable (Still n c T) := fun _ _ _ _ k r => ⟨k.at r.1 r.2, k.out (getElem?_lt r.1) r.2⟩

/-- Since w0 a Tx (block t) over a segment (block s) has come to be; l is thought of over the words ws; R is read. -/
def Live (w0 w : World) (s t : Nat) (l : List Put) (ws : List UInt64) (R : World → (Nat → Prop) → Prop) : Prop :=
  ∃ S, Mem w s t l ws S ∧ (∀ k, S k → w0.heap.size ≤ k) ∧ Keeps Nil w0 w ∧ R w S

section
variable {w0 w w' : World} {s t : Nat} {l l' : List Put} {ws ws' : List UInt64} {R R' : World → (Nat → Prop) → Prop}
theorem Live.keeps (h : Live w0 w s t l ws R) : Keeps Nil w0 w := by obtain ⟨S, h1, h2, h3, h4⟩ := h; exact h3
theorem Live.quiet (h : Live w0 w s t l ws R) (hR : Stable R) (k : Keeps Nil w w') : Live w0 w' s t l ws R := by
  obtain ⟨S, h1, h2, h3, h4⟩ := h
  exact ⟨S, h1.keeps_nil k, h2, h3.trans' k, hR S S w w' (Step.of_nil k) h4⟩
theorem Live.reads (h : Live w0 w s t l ws R) (hR : ∀ S, Mem w s t l ws S → R w S → R' w S) : Live w0 w s t l ws R' := by
  obtain ⟨S, h1, h2, h3, h4⟩ := h
  exact ⟨S, h1, h2, h3, hR S h1 h4⟩
theorem Live.load (h : Live w0 w s t l ws R) (hR : Stable R) (off : UInt64) (x : Int) (hx : x = (off.toNat : Int)) :
    Calls Try.prog 36 #[.pointer (some ⟨t, 0, none⟩), .int .u64 x] w fun e w' => e = .returned (.int .u64 ↑(txLoad ws l off).toNat) ∧ Live w0 w' s t l ws R ∧ Keeps Nil w w' := by
  have h' := h
  obtain ⟨S, h1, h2, h3, h4⟩ := h
  exact (h1.load off x hx).mono fun e w' ⟨he, k⟩ => ⟨he, h'.quiet hR k, k⟩
theorem Live.size (h : Live w0 w s t l ws R) :
    Calls Try.prog 46 #[.pointer (some ⟨t, 0, none⟩)] w fun e w' => e = .returned (.int .u64 ((8 * ws.length : Nat) : Int)) ∧ w = w' := by
  obtain ⟨S, h1, h2, h3, h4⟩ := h
  exact h1.size
theorem Live.store (h : Live w0 w s t l ws R) (hR : Stable R) (off v : UInt64) (hlen : l.length < 4294967296) (x y : Int) (hx : x = (off.toNat : Int)) (hy : y = (v.toNat : Int)) :
    Calls Try.prog 43 #[.pointer (some ⟨t, 0, none⟩), .int .u64 x, .int .u64 y] w fun e w' => e = .returned (.tuple #[]) ∧ Live w0 w' s t (txStore ws l off v) ws R := by
  obtain ⟨S, h1, h2, h3, h4⟩ := h
  refine (h1.store off v hlen x y hx hy).mono ?_
  rintro e w' ⟨rfl, S', m, st⟩
  exact ⟨rfl, S', m, fun k hk => (st.grow k hk).elim (h2 k) (fun e => Nat.le_trans h3.size e), h3.trans st.keeps (fun i hi e => by have := h2 i e; omega), hR S S' w w' st h4⟩
theorem Live.puts (h : Live w0 w s t l ws R) (hR : Stable R) (hlen : l.length < 4294967296) :
    Calls Try.prog 33 #[.pointer (some ⟨t, 0, none⟩)] w fun e w' => ∃ v, e = .returned v ∧ Own kP w' w.heap.size v (told l) ∧ Live w0 w' s t l ws R ∧ Keeps Nil w w' := by
  have h' := h
  obtain ⟨S, h1, h2, h3, h4⟩ := h
  exact (h1.puts hlen).mono fun e w' ⟨v, he, ho, k⟩ => ⟨v, he, ho, h'.quiet hR k, k⟩
theorem Live.apply (h : Live w0 w s t l ws R) (hR : Stable R) (hlen : l.length < 4294967296) :
    Calls Try.prog 28 #[.pointer (some ⟨t, 0, none⟩)] w fun e w' => e = .returned (.tuple #[]) ∧ Live w0 w' s t l (applyW ws (told l)) R := by
  obtain ⟨S, h1, h2, h3, h4⟩ := h
  refine (h1.apply hlen).mono ?_
  rintro e w' ⟨rfl, m, k⟩
  exact ⟨rfl, S, m, h2, h3.trans k (fun i hi e => by have := h2 i e; omega), hR S S w w' (Step.of_keeps k) h4⟩
theorem Live.seg (h : Live w0 w s t l ws R) : ws.length ≤ 131072 ∧ 0 < ws.length := by
  obtain ⟨S, h1, h2, h3, h4⟩ := h
  exact h1.seg
/-- what is read as long as nothing turns -/
theorem Live.segAt (h : Live w0 w s t l ws R) : ∃ q, SegAt w s q ws := by
  obtain ⟨S, ⟨q, m, tv, h1, h2, h3, h4, h5⟩, _⟩ := h
  exact ⟨q, h2⟩
end

/-- a new Tx over a segment that came to be since w0 -/
theorem SegAt.live {w0 w : World} {p q : Nat} {ws : List UInt64} (hs : SegAt w p q ws) (hK : Keeps Nil w0 w) (hp : w0.heap.size ≤ p) (hq : w0.heap.size ≤ q) :
    Calls Try.prog 42 #[.pointer (some ⟨p, 0, none⟩)] w fun e w' => ∃ t, e = .returned (.pointer (some ⟨t, 0, none⟩)) ∧ Live w0 w' p t [] ws Top ∧ Keeps Nil w w' := by
  refine (Mem.new hs).mono ?_
  rintro e w' ⟨t, S', rfl, h1, h2, h3, h4⟩
  have := hK.size
  exact ⟨t, rfl, ⟨S', h1, fun k hk => by rcases h3 k hk with rfl | rfl | e <;> omega, hK.trans' h2, trivial⟩, h2⟩

end Go.Proofs.Ytccllkgaakmdhaa
