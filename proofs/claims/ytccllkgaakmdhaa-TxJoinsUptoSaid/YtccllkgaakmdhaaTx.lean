/- Package tx: how a Tx stands in memory; New, Size, Old, Load, Store, Bare. -/
import Derived.Test.YtccllkgaakmdhaaTxMap
import Derived.Test.YtccllkgaakmdhaaSegDiff
namespace Go.Proofs.Ytccllkgaakmdhaa
open Go.RowKit

/-- A Tx: block t holds the segment's address p, the map's block m, and the offsets in turn (tv); l is thought of. -/
def TxAt (w : World) (t m : Nat) (tv : Value) (p : Nat) (l : List Put) : Prop :=
  w.heap[t]? = some (.cells #[.pointer (some ⟨p, 0, none⟩), .map (some m), tv] 127 (0, 0)) ∧ MapAt w m l ∧ Own kU w 0 tv (l.map (·.1)) ∧ t ≠ m ∧ tv.ownBlock ≠ some t ∧ tv.ownBlock ≠ some m

/-- its blocks -/
def txS (t m : Nat) (tv : Value) : Nat → Prop := fun k => k = t ∨ k = m ∨ tv.ownBlock = some k

theorem TxAt.lt {w : World} {t m p : Nat} {tv : Value} {l : List Put} (h : TxAt w t m tv p l) {k : Nat} (hk : txS t m tv k) : k < w.heap.size := by
  obtain ⟨h1, ⟨es, clock, h2, _⟩, h3, _⟩ := h
  rcases hk with rfl | rfl | hk
  · exact getElem?_lt h1
  · exact getElem?_lt h2
  · exact (h3.block hk).2
theorem Own.keeps' {α : Type} {K : Kind α} {S : Nat → Prop} {w w' : World} {base : Nat} {v : Value} {l : List α} (h : Own K w base v l) (k : Keeps S w w') (hS : ∀ g, v.ownBlock = some g → ¬ S g) : Own K w' base v l := by
  obtain ⟨h1, h2⟩ := h
  refine ⟨h1, ?_⟩
  rcases h2 with h2 | ⟨g, cap, cur, rfl, hg, hh, r⟩
  · exact .inl h2
  · exact .inr ⟨g, cap, cur, rfl, hg, k.at hh (hS g rfl), r⟩
theorem TxAt.keeps {S : Nat → Prop} {w w' : World} {t m p : Nat} {tv : Value} {l : List Put} (h : TxAt w t m tv p l) (k : Keeps S w w') (hS : ∀ g, txS t m tv g → ¬ S g) : TxAt w' t m tv p l := by
  obtain ⟨h1, h2, h3, h4, h5, h6⟩ := h
  exact ⟨k.at h1 (hS _ (.inl rfl)), h2.keeps k (hS _ (.inr (.inl rfl))), h3.keeps' k (fun g hg => hS g (.inr (.inr hg))), h4, h5, h6⟩
theorem TxAt.keeps_nil {w w' : World} {t m p : Nat} {tv : Value} {l : List Put} (h : TxAt w t m tv p l) (k : Keeps Nil w w') : TxAt w' t m tv p l := h.keeps k (fun _ _ e => e)
theorem TxAt.cells {w : World} {t m p : Nat} {tv : Value} {l : List Put} (h : TxAt w t m tv p l) : w.cell? ⟨t, 0, none⟩ = some (.pointer (some ⟨p, 0, none⟩)) ∧ w.cell? ⟨t, 1, none⟩ = some (.map (some m)) ∧ w.cell? ⟨t, 2, none⟩ = some tv := by
  have h1 := h.1
  exact ⟨by simp [World.cell?, h1], by simp [World.cell?, h1], by simp [World.cell?, h1]⟩
theorem TxAt.free {w : World} {t m p : Nat} {tv : Value} {l : List Put} (h : TxAt w t m tv p l) (o : Nat) : w.frozen? ⟨t, o, none⟩ = false := by
  have h1 := h.1
  simp [World.frozen?, h1]

/-- what a Tx tells of an offset -/
def txLoad (ws : List UInt64) (l : List Put) (off : UInt64) : UInt64 := (loadP l off).getD (loadV ws off)
/-- what is thought of behind a store -/
def txStore (ws : List UInt64) (l : List Put) (off v : UInt64) : List Put := if inB ws off then storeP l off v else l

set_option maxHeartbeats 400000 in
theorem TxNew_some (w : World) (p : Nat) :
    Calls Try.prog 42 #[.pointer (some ⟨p, 0, none⟩)] w fun e w' =>
      e = .returned (.pointer (some ⟨w.heap.size + 1, 0, none⟩)) ∧ TxAt w' (w.heap.size + 1) w.heap.size (.slice none 0 0) p [] ∧ Keeps Nil w w' ∧ w'.heap.size = w.heap.size + 2 := by
  have hmm := @run_makeMap Try.prog
  go_enter Try.func42, Try.ntmps42
  go_wp2
  go_ret
  exact ⟨by simp, ⟨by simpa using heap_new (w.alloc (.map #[] 0)) _, (MapAt.made w).keeps ((Keeps.refl Nil _).alloc _) (fun e => e), Own.nil _ _ _, by omega, by simp [Value.ownBlock], by simp [Value.ownBlock]⟩, ((Keeps.refl Nil w).alloc _).alloc _, by simp⟩

set_option maxHeartbeats 400000 in
theorem TxNew_nil (w : World) : Calls Try.prog 42 #[.pointer none] w fun e w' => e = .returned (.pointer none) ∧ w = w' := by
  go_enter Try.func42, Try.ntmps42
  go_wp2
  go_ret
  exact ⟨rfl, rfl⟩

set_option maxHeartbeats 400000 in
theorem TxSize_some {w : World} {t m p q : Nat} {tv : Value} {l : List Put} {ws : List UInt64} (h : TxAt w t m tv p l) (hs : SegAt w p q ws) :
    Calls Try.prog 46 #[.pointer (some ⟨t, 0, none⟩)] w fun e w' => e = .returned (.int .u64 ((8 * ws.length : Nat) : Int)) ∧ w = w' := by
  obtain ⟨c0, c1, c2⟩ := h.cells
  go_enter Try.func46, Try.ntmps46
  go_wp2_with fail
  refine (Size_some hs).mono ?_
  rintro e w' ⟨rfl, rfl⟩
  go_wp2_with fail
  go_ret
  exact ⟨rfl, rfl⟩
set_option maxHeartbeats 400000 in
theorem TxSize_nil (w : World) : Calls Try.prog 46 #[.pointer none] w fun e w' => e = .returned (.int .u64 0) ∧ w = w' := by
  go_enter Try.func46, Try.ntmps46
  go_wp2
  go_ret
  exact ⟨rfl, rfl⟩

set_option maxHeartbeats 400000 in
theorem TxOld_some {w : World} {t m p q : Nat} {tv : Value} {l : List Put} {ws : List UInt64} (h : TxAt w t m tv p l) (hs : SegAt w p q ws) (off : UInt64) (x : Int) (hx : x = (off.toNat : Int)) :
    Calls Try.prog 45 #[.pointer (some ⟨t, 0, none⟩), .int .u64 x] w fun e w' => e = .returned (.int .u64 ↑(loadV ws off).toNat) ∧ Keeps Nil w w' := by
  obtain ⟨c0, c1, c2⟩ := h.cells
  have HX := Lib.hid hx
  clear hx
  go_enter Try.func45, Try.ntmps45
  go_wp2_with fail
  refine (Load_any hs off x HX.out).mono ?_
  rintro e w' ⟨rfl, hk⟩
  go_wp2_with fail
  go_ret
  exact ⟨rfl, hk⟩
set_option maxHeartbeats 400000 in
theorem TxOld_nil (w : World) (x : Int) : Calls Try.prog 45 #[.pointer none, .int .u64 x] w fun e w' => e = .returned (.int .u64 0) ∧ w = w' := by
  go_enter Try.func45, Try.ntmps45
  go_wp2
  go_ret
  exact ⟨rfl, rfl⟩

set_option maxHeartbeats 400000 in
theorem TxLoad_some {w : World} {t m p q : Nat} {tv : Value} {l : List Put} {ws : List UInt64} (h : TxAt w t m tv p l) (hs : SegAt w p q ws) (off : UInt64) (x : Int) (hx : x = (off.toNat : Int)) :
    Calls Try.prog 36 #[.pointer (some ⟨t, 0, none⟩), .int .u64 x] w fun e w' => e = .returned (.int .u64 ↑(txLoad ws l off).toNat) ∧ Keeps Nil w w' := by
  subst hx
  obtain ⟨c0, c1, c2⟩ := h.cells
  have hm := h.2.1
  cases hl : loadP l off with
  | some u =>
    have HL := Lib.hid hl
    have e1 : ((loadP l off).getD 0) = u := by rw [hl]; rfl
    have e2 : (loadP l off).isSome = true := by rw [hl]; rfl
    clear hl
    go_enter Try.func36, Try.ntmps36
    go_wp2_with (at_lookup; refine wpList_lookup_ok rfl _ _ _ rfl rfl hm off rfl ?_; simp only [e1, e2, if_true])
    go_ret
    exact ⟨by simp [txLoad, HL.out], Keeps.refl _ _⟩
  | none =>
    have HL := Lib.hid hl
    have e1 : ((loadP l off).getD 0) = 0 := by rw [hl]; rfl
    have e2 : (loadP l off).isSome = false := by rw [hl]; rfl
    clear hl
    go_enter Try.func36, Try.ntmps36
    go_wp2_with (at_lookup; refine wpList_lookup_ok rfl _ _ _ rfl rfl hm off rfl ?_; simp only [e1, e2, if_true])
    refine (TxOld_some h hs off _ rfl).mono ?_
    rintro e w' ⟨rfl, hk⟩
    go_wp2_with fail
    go_ret
    exact ⟨by simp [txLoad, HL.out], hk⟩
set_option maxHeartbeats 400000 in
theorem TxLoad_nil (w : World) (x : Int) : Calls Try.prog 36 #[.pointer none, .int .u64 x] w fun e w' => e = .returned (.int .u64 0) ∧ w = w' := by
  go_enter Try.func36, Try.ntmps36
  go_wp2
  go_ret
  exact ⟨rfl, rfl⟩

set_option maxHeartbeats 400000 in
theorem TxBare_some {w : World} {t m p : Nat} {tv : Value} {l : List Put} (h : TxAt w t m tv p l) :
    Calls Try.prog 47 #[.pointer (some ⟨t, 0, none⟩)] w fun e w' =>
      e = .returned (.pointer (some ⟨w.heap.size + 1, 0, none⟩)) ∧ TxAt w' (w.heap.size + 1) w.heap.size (.slice none 0 0) p [] ∧ Keeps Nil w w' ∧ w'.heap.size = w.heap.size + 2 := by
  obtain ⟨c0, c1, c2⟩ := h.cells
  go_enter Try.func47, Try.ntmps47
  go_wp2_with fail
  refine (TxNew_some w p).mono ?_
  rintro e w' ⟨rfl, h1, h2, h3⟩
  have H3 := Lib.hid h3
  clear h3
  go_wp2_with fail
  go_ret
  exact ⟨rfl, h1, h2, H3.out⟩
set_option maxHeartbeats 400000 in
theorem TxBare_nil (w : World) : Calls Try.prog 47 #[.pointer none] w fun e w' => e = .returned (.pointer none) ∧ w = w' := by
  go_enter Try.func47, Try.ntmps47
  go_wp2
  go_ret
  exact ⟨rfl, rfl⟩

set_option maxHeartbeats 400000 in
theorem TxStore_nil (w : World) (x y : Int) : Calls Try.prog 43 #[.pointer none, .int .u64 x, .int .u64 y] w fun e w' => e = .returned (.tuple #[]) ∧ w = w' := by
  go_enter Try.func43, Try.ntmps43
  go_wp2
  refine bodyPost_ret (results_none rfl _ _ _) rfl ?_
  exact ⟨rfl, rfl⟩

end Go.Proofs.Ytccllkgaakmdhaa
