/- Arguments opened: words, Puts, and slices of them. -/
import Derived.Test.YtccllkgaakmdhaaRow
namespace Go.Proofs.Ytccllkgaakmdhaa
open Go.ChangeShapes Go.WideShapes Go.ChangeAt Go.RowKit Go.Deep Go.Joins

theorem u64_some {n : Int} (h : (Lit.int .u64 n).wf = true) : ∃ x : UInt64, n = (x.toNat : Int) := by
  have h' : IntKind.u64.min ≤ n ∧ n ≤ IntKind.u64.max := by simpa [Lit.wf] using h
  have e1 : IntKind.u64.min = 0 := by rfl
  have e2 : IntKind.u64.max = 18446744073709551615 := by rfl
  rw [e1, e2] at h'
  refine ⟨UInt64.ofNat n.toNat, ?_⟩
  rw [UInt64.toNat_ofNat']
  omega

section
variable {H : Type} {enc : TypeId × Value → H} {W : World} {spare : Nat → Bool} {held : Bool} {base : Nat}
theorem open_look {α : Type} {K : Kind α} {P : Program} {t e : TypeId} {v : Value} {d : DataW H} {p : List MemPlace} (ht : P.underlying t = some (.slice e)) (hc : P.cellsOf e = K.size)
    (hdec : ∀ (fuel : Nat) (cs : List Value) (x : DataW H × List MemPlace), DataW.trod enc P W base spare held fuel e cs = some x → ∃ a : α, cs = K.enc a)
    (h : DataW.Trod enc P W base spare held t v d p) (hv : v.cells.toList = [v]) : ∃ l, Look K W v l := by
  obtain ⟨fuel, hf⟩ := h
  rw [hv] at hf
  rcases open_slice ht hf with ⟨h0, _⟩ | ⟨a, len, cap, m, n, D, Pl, hcs, hb, hl, hm, hmm, hx, hi⟩
  · refine ⟨[], ?_⟩
    simp only [List.cons.injEq, and_true] at h0
    rw [h0]; exact Look.nil
  · simp only [List.cons.injEq, and_true] at hcs
    rw [hcs]
    by_cases h0 : len = 0
    · subst h0
      exact ⟨[], .inr ⟨⟨_, _, rfl⟩, rfl⟩⟩
    have hlm : len ≤ m := by rw [hmm]; split <;> omega
    have hex : ∀ i : Fin len, ∃ x : α, W.cells? base (a.add (i.1 * K.size)) K.size = some (K.enc x) := fun i => by
      obtain ⟨cs', h1, h2⟩ := hi i.1 (by omega)
      obtain ⟨x, rfl⟩ := hdec n cs' _ h2
      rw [hc] at h1
      exact ⟨x, h1⟩
    obtain ⟨f, hfs⟩ : ∃ f : Fin len → α, ∀ i : Fin len, W.cells? base (a.add (i.1 * K.size)) K.size = some (K.enc (f i)) := ⟨fun i => (hex i).choose, fun i => (hex i).choose_spec⟩
    clear hex
    have hcell : ∀ (i : Fin len) (j : Nat), j < K.size → W.cell? (a.add (i.1 * K.size + j)) = (K.enc (f i))[j]? := fun i j hj => by
      rw [← Go.Deep.add_add]
      exact (World.cells?_some (hfs i)).2.2 j hj
    obtain ⟨b, off, spot⟩ := a
    obtain ⟨i0, hi0⟩ : ∃ i0 : Fin len, i0.1 = 0 := ⟨⟨0, by omega⟩, rfl⟩
    have h1 := hcell i0 0 K.pos
    rw [hi0] at h1
    simp only [Nat.zero_mul, Nat.add_zero] at h1
    have hlp : 0 < (K.enc (f i0)).length := by rw [K.len]; exact K.pos
    obtain ⟨u, hu⟩ : ∃ u, (K.enc (f i0))[0]? = some u := ⟨_, List.getElem?_eq_getElem hlp⟩
    rw [hu] at h1
    have hspot : spot = none := by simpa [Addr.add] using World.cell?_spot h1
    subst hspot
    have hbl : b < W.heap.size := by
      rcases Nat.lt_or_ge b W.heap.size with h | h
      · exact h
      · simp [World.cell?, Addr.add, h] at h1
    refine ⟨List.ofFn f, .inl (.inr ⟨b, off, cap, ?_, ?_, hm, hbl, fun e => e, ?_⟩)⟩
    · simp
    · simpa using hl
    · intro i j hj hi'
      have hi2 : i < len := by simpa using hi'
      have := hcell ⟨i, hi2⟩ j hj
      rw [add_plain] at this
      rw [this]
      simp [hi2]

set_option maxRecDepth 100000 in
theorem dec_u64 (fuel : Nat) (cs : List Value) (x : DataW H × List MemPlace) (h : DataW.trod enc Try.prog W base spare held fuel 36 cs = some x) : ∃ a : UInt64, cs = kU.enc a := by
  obtain ⟨n, rfl, _, hw⟩ := DataW.trod_int Try.underlying36 h
  obtain ⟨y, rfl⟩ := u64_some hw
  exact ⟨y, rfl⟩
set_option maxRecDepth 100000 in
theorem dec_put (fuel : Nat) (cs : List Value) (x : DataW H × List MemPlace) (h : DataW.trod enc Try.prog W base spare held fuel 38 cs = some x) : ∃ a : Put, cs = kP.enc a := by
  have hC : Try.prog.cellsOf 38 = 2 := by kernel_rfl
  have hu : Try.prog.cellsOf 36 = 1 := by kernel_rfl
  obtain ⟨y0, y1, n, _, hl, h0, h1⟩ := trod_struct2 Try.underlying38 h
  rw [hC] at hl
  match cs, hl with
  | [c0, c1], _ =>
    obtain ⟨n0, e0, _, w0⟩ := DataW.trod_int Try.underlying36 h0
    obtain ⟨n1, e1, _, w1⟩ := DataW.trod_int Try.underlying36 h1
    obtain ⟨z0, rfl⟩ := u64_some w0
    obtain ⟨z1, rfl⟩ := u64_some w1
    have q0 : c0 = .int .u64 (z0.toNat : Int) := by simpa [hu] using e0
    have q1 : c1 = .int .u64 (z1.toNat : Int) := by simpa [hu] using e1
    exact ⟨(z0, z1), by rw [q0, q1]⟩
end
end Go.Proofs.Ytccllkgaakmdhaa
