/- seg.New, seg.Copy. -/
import Derived.Test.YtccllkgaakmdhaaSegLoad
namespace Go.Proofs.Ytccllkgaakmdhaa
open Go.RowKit

theorem info_u8 : (Try.prog.info? 5).map (fun i => (i.zero, i.size, i.bytes)) = some (some (.int .u8 0), 1, 1) := by kernel_rfl

/-- may a segment have so many bytes? -/
def mayB (size : UInt64) : Bool := size.toNat != 0 && size.toNat % 8 == 0 && decide (size.toNat ≤ 1048576)

theorem byteAt_zeros (n i : Nat) : byteAt (List.replicate n 0) i = 0 := by
  unfold byteAt
  have e : (List.replicate n (0 : UInt64)).getD (i / 8) 0 = 0 := by
    rw [List.getD_eq_getElem?_getD, List.getElem?_replicate]; split <;> rfl
  rw [e]; simp

theorem made_get (z : Value) (n i : Nat) (h : i < n) : (madeCells #[z] n)[i]? = some z := by
  simp [madeCells, h, Nat.mod_one]

set_option maxHeartbeats 1000000 in
theorem New_yes (w : World) (size : UInt64) (h : mayB size = true) (x : Int) (hx : x = (size.toNat : Int)) :
    Calls Try.prog 38 #[.int .u64 x] w fun e w' =>
      e = .returned (.pointer (some ⟨w.heap.size + 1, 0, none⟩)) ∧ SegAt w' (w.heap.size + 1) w.heap.size (List.replicate (size.toNat / 8) 0) ∧ Keeps Nil w w' ∧ w'.heap.size = w.heap.size + 2 := by
  subst hx
  simp [mayB] at h
  obtain ⟨⟨h1, h2⟩, h3⟩ := h
  obtain ⟨i0, hi, hz0, hz1, hz2⟩ := info_parts info_u8
  obtain ⟨n, hn⟩ : ∃ n, n = size.toNat := ⟨_, rfl⟩
  rw [← hn] at h1 h2 h3 ⊢
  have hmk : ∀ w : World, (Instr.makeSlice 130 (.int .u64 (n : Int)) (.int .u64 (n : Int))).run Try.prog w = .ok (.slice (some ⟨w.heap.size, 0, none⟩) n n) (w.alloc (.cells (madeCells #[.int .u8 0] n) 5)) := fun w => by
    have := run_make (P := Try.prog) w 130 5 i0 (.int .u8 0) Try.underlying130 hi hz0 .u64 .u64 n n (by omega) (by omega) (by rw [hz2]; omega) (by omega)
    simpa [hz1, Value.cells] using this
  have t1 : ((n : Int) == 0) = false := by simp; omega
  have t2 : ((n : Int) % 8 != 0) = false := by simp; omega
  have t3 : ¬ (1048576 < (n : Int)) := by omega
  have HN := Lib.hid (And.intro h1 h2)
  have HI := Lib.hid (And.intro hi (And.intro hz1 hz2))
  have HNN := Lib.hid hn
  clear hn h1 h2 hi hz0 hz1 hz2
  go_enter Try.func38, Try.ntmps38
  go_wp2
  go_ret
  obtain ⟨h1, h2⟩ := HN.out
  have e8 : 8 * (n / 8) = n := by omega
  refine ⟨by simp, ⟨by omega, by simp; omega, by simp; omega, n, madeCells #[.int .u8 0] n, by simp; omega, by unfold maxLen; omega, ?_, ?_, by simp [madeCells], ?_⟩, (((Keeps.refl Nil w).alloc _).alloc _), by simp⟩
  · have := heap_new (w.alloc (.cells (madeCells #[.int .u8 0] n) 5)) (.cells #[.slice (some ⟨w.heap.size, 0, none⟩) n n] 132)
    simpa [e8] using this
  · exact heap_old _ _ (heap_new w _)
  · intro i hi'
    rw [List.length_replicate, e8] at hi'
    rw [made_get _ _ _ hi', byteAt_zeros]; rfl

set_option maxHeartbeats 1000000 in
theorem New_no (w : World) (size : UInt64) (h : mayB size = false) (x : Int) (hx : x = (size.toNat : Int)) :
    Calls Try.prog 38 #[.int .u64 x] w fun e w' => e = .returned (.pointer none) ∧ w = w' := by
  subst hx
  obtain ⟨n, hn⟩ : ∃ n, n = size.toNat := ⟨_, rfl⟩
  simp only [mayB, ← hn] at h ⊢
  by_cases h1 : n = 0
  · subst h1
    clear hn h
    go_enter Try.func38, Try.ntmps38
    go_wp2
    go_ret
    exact ⟨rfl, rfl⟩
  · have t1 : ((n : Int) == 0) = false := by simp; omega
    by_cases h2 : n % 8 = 0
    · have t2 : ((n : Int) % 8 != 0) = false := by simp; omega
      have t3 : 1048576 < (n : Int) := by simp [h1, h2] at h; omega
      clear hn h h2
      go_enter Try.func38, Try.ntmps38
      go_wp2
      go_ret
      exact ⟨rfl, rfl⟩
    · have t2 : ((n : Int) % 8 != 0) = true := by simp; omega
      clear hn h
      go_enter Try.func38, Try.ntmps38
      go_wp2
      go_ret
      exact ⟨rfl, rfl⟩

/-- the first cells of a block, as a list -/
theorem take_cells {c : Array Value} {n : Nat} {f : Nat → Value} (h : ∀ i, i < n → c[i]? = some (f i)) : c.toList.take n = (List.range n).map f := by
  apply List.ext_getElem?
  intro i
  by_cases hi : i < n
  · rw [List.getElem?_take_of_lt hi, List.getElem?_map, List.getElem?_range hi]
    simpa using h i hi
  · rw [List.getElem?_eq_none (by simp; omega), List.getElem?_eq_none (by simp; omega)]

theorem mem_take {c : Array Value} {n : Nat} {v : Value} (h : v ∈ c.toList.take n) : ∃ i, i < n ∧ c[i]? = some v := by
  obtain ⟨i, hi, e⟩ := List.getElem_of_mem h
  refine ⟨i, by simp at hi; omega, ?_⟩
  rw [List.getElem_take] at e
  rw [← e]; simp

set_option maxRecDepth 100000 in
set_option maxHeartbeats 1000000 in
theorem Clone_any {w : World} {q n cap : Nat} {c : Array Value} (hq : w.heap[q]? = some (.cells c 5 (0, 0))) (hcs : c.size = cap) (hn : n ≤ cap) (hn1 : n ≤ 1048576) (hone : ∀ i v, i < n → c[i]? = some v → v.oneCell' = true) (hn0 : 0 < n) :
    Calls Try.prog 100 #[.slice (some ⟨q, 0, none⟩) n cap] w fun e w' =>
      ∃ g cap' c', e = .returned (.slice (some ⟨g, 0, none⟩) n cap') ∧ w.heap.size ≤ g ∧ w'.heap[g]? = some (.cells c' 5 (0, 0)) ∧ c'.size = cap' ∧ n ≤ cap' ∧ cap' ≤ maxLen ∧ (∀ i, i < n → c'[i]? = c[i]?) ∧ Keeps Nil w w' := by
  obtain ⟨i0, hi, hz0, hz1, hz2⟩ := info_parts info_u8
  have q22 : ∀ (w : World) (a : Option Addr) (n c n' c' : Nat), (binOp .eql 130 (.slice a n c) (.slice none n' c')).run Try.prog w = .ok (.bool a.isNone) w := fun w a n c n' c' => Lib.run_eql_slice_nil w _ _ a n c n' c' Try.underlying130
  have u22 : ∀ w, Sem.run Try.prog (underlying 130) w = .ok (TypeDesc.slice 5) w := run_underlying Try.underlying130
  have HQ := Lib.hid hq
  have HC := Lib.hid (And.intro hcs hone)
  clear hq hcs hone
  go_enter Try.func100, Try.ntmps100
  go_wp2_with (at_builtin; refine wpList_append_own _ rfl _ _ 130 rfl w.heap.size 5 i0 (.int .u8 0) 1 1 Try.underlying130 hi hz0 hz1 hz2 rfl (by decide) _ _ _ rfl (World.ownsRow_made w #[] 0 (Nat.le_refl _) (Nat.zero_le _) rfl) ⟨q, 0, none⟩ n cap (c.toList.take n) rfl ?qc1 ?qc2 ?qc3 ?qc4 ?qc5 ?qc6 ?_)
  case qc1 => have := HC.out.1; simp; omega
  case qc2 =>
    intro j u hj
    have hjn : j < n := by
      have := (List.getElem?_eq_some_iff.1 hj).1
      simp at this
      omega
    rw [List.getElem?_take_of_lt hjn] at hj
    rw [Addr.add_lit]
    simp only [World.cell?, heap_old w _ HQ.out]
    simpa using hj
  case qc3 => intro u hu; obtain ⟨x, h1, h2⟩ := mem_take hu; exact HC.out.2 x u h1 h2
  case qc4 => unfold maxLen; omega
  case qc5 => omega
  case qc6 => simp
  intro v' w1 hown hgrow hnil
  clear hi hz0 hz1 hz2 u22 q22
  go_wp2
  go_ret
  obtain ⟨hl, hv⟩ := hown
  rcases hv with ⟨_, h0⟩ | ⟨g, cap', cur, rfl, h1, h2, h3, h4, h5, h6⟩
  · omega
  · simp only [Nat.zero_add, Nat.mul_one, List.nil_append] at *
    refine ⟨g, cap', cur, rfl, h1, h2, h5, h3, h4, ?_, ((Keeps.refl Nil w).alloc _).grown hgrow (by intro k hk; simp [Value.ownBlock] at hk; omega)⟩
    intro i hi
    have := congrArg (fun l => l[i]?) h6
    simpa [List.getElem?_take_of_lt hi] using this

theorem Copy_some {w : World} {p q : Nat} {ws : List UInt64} (h : SegAt w p q ws) :
    Calls Try.prog 58 #[.pointer (some ⟨p, 0, none⟩)] w fun e w' =>
      ∃ p' q', e = .returned (.pointer (some ⟨p', 0, none⟩)) ∧ w.heap.size ≤ p' ∧ w.heap.size ≤ q' ∧ SegAt w' p' q' ws ∧ Keeps Nil w w' := by
  obtain ⟨h1, h2, h3, cap, c, h4, h4', h5, h6, h7, h8⟩ := h
  have hp := cell_of_one h5
  have HC : ∀ i v, i < 8 * ws.length → c[i]? = some v → v.oneCell' = true := fun i v hi hv => by rw [h8 i hi] at hv; cases hv; rfl
  have CL := Lib.hid (Clone_any (n := 8 * ws.length) h6 h7 h4 (by omega) HC (by omega))
  have H8 := Lib.hid h8
  clear h5 h6 h7 h8 HC
  go_enter Try.func58, Try.ntmps58
  go_wp2_with (go_at_call 100; refine CL.out.mono ?_; rintro e w1 ⟨g, cap', c', rfl, g1, g2, g3, g4, g5, g6, g7⟩)
  have G := Lib.hid (And.intro g2 (And.intro g3 g6))
  clear g2 g3 g6
  go_wp2
  go_ret
  obtain ⟨g2, g3, g6⟩ := G.out
  have hs := g7.size
  refine ⟨w1.heap.size, g, rfl, hs, g1, ⟨by have := getElem?_lt g2; omega, h2, h3, cap', c', g4, g5, heap_new w1 _, heap_old _ _ g2, g3, fun i hi => (g6 i hi).trans (H8.out i hi)⟩, g7.alloc _⟩

end Go.Proofs.Ytccllkgaakmdhaa
