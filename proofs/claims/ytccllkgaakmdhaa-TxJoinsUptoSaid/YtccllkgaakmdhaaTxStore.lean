/- tx.Store. -/
import Derived.Test.YtccllkgaakmdhaaTx
namespace Go.Proofs.Ytccllkgaakmdhaa
open Go.RowKit

/-- What a call that thinks of words leaves: the Tx, with other words; its blocks alone may have turned. -/
def TxMoved (w : World) (t m : Nat) (tv : Value) (p : Nat) (l : List Put) (w' : World) : Prop :=
  ∃ tv', TxAt w' t m tv' p l ∧ Keeps (txS t m tv) w w' ∧ ∀ k, txS t m tv' k → txS t m tv k ∨ w.heap.size ≤ k

theorem TxMoved.same {w w' : World} {t m p : Nat} {tv : Value} {l : List Put} (h : TxAt w t m tv p l) (k : Keeps Nil w w') : TxMoved w t m tv p l w' :=
  ⟨tv, h.keeps_nil k, k.of_nil, fun _ hk => .inl hk⟩

theorem heap_setCell_same {w : World} {b : Nat} {c : Array Value} {T : TypeId} {f : Nat × Nat} (h : w.heap[b]? = some (.cells c T f)) (o : Nat) (u : Value) : (w.setCell ⟨b, o, none⟩ u).heap[b]? = some (.cells (c.setIfInBounds o u) T f) := by
  have hlt := getElem?_lt h
  have h' : w.heap[b] = .cells c T f := by simpa [Array.getElem?_eq_getElem hlt] using h
  show (w.heap.modify b _)[b]? = _
  rw [Array.getElem?_eq_getElem (by simpa using hlt), Array.getElem_modify_self, h']
  rfl
set_option maxHeartbeats 1000000 in
theorem TxStore_out {w : World} {t m p q : Nat} {tv : Value} {l : List Put} {ws : List UInt64} (h : TxAt w t m tv p l) (hs : SegAt w p q ws) (off v : UInt64) (hin : inB ws off = false) :
    Calls Try.prog 43 #[.pointer (some ⟨t, 0, none⟩), .int .u64 ↑off.toNat, .int .u64 ↑v.toNat] w fun e w' => e = .returned (.tuple #[]) ∧ Keeps Nil w w' := by
  obtain ⟨c0, c1, c2⟩ := h.cells
  have e1 : errV ws off = 1 := by simp [errV, hin]
  have e2 : loadV ws off = 0 := by simp [loadV, hin]
  have HI := Lib.hid hin
  clear hin
  go_enter Try.func43, Try.ntmps43
  go_wp2_with fail
  refine (Load_any hs off _ rfl).mono ?_
  rintro e w' ⟨rfl, hk⟩
  simp only [e1, e2]
  clear e1 e2
  go_wp2_with fail
  refine bodyPost_ret (results_none rfl _ _ _) rfl ?_
  exact ⟨rfl, hk⟩

set_option maxHeartbeats 1000000 in
theorem TxStore_hit {w : World} {t m p q : Nat} {tv : Value} {l : List Put} {ws : List UInt64} (h : TxAt w t m tv p l) (hs : SegAt w p q ws) (off v u : UInt64) (hin : inB ws off = true) (hl : loadP l off = some u) :
    Calls Try.prog 43 #[.pointer (some ⟨t, 0, none⟩), .int .u64 ↑off.toNat, .int .u64 ↑v.toNat] w fun e w' => e = .returned (.tuple #[]) ∧ TxMoved w t m tv p (storeP l off v) w' := by
  obtain ⟨c0, c1, c2⟩ := h.cells
  have e1 : errV ws off = 0 := by simp [errV, hin]
  have HI := Lib.hid (And.intro hin hl)
  have e3 : (loadP l off).isSome = true := by rw [hl]; rfl
  clear hin hl
  go_enter Try.func43, Try.ntmps43
  go_wp2_with fail
  refine (Load_any hs off _ rfl).mono ?_
  rintro e w1 ⟨rfl, hk⟩
  simp only [e1]
  clear e1
  have h1 := h.keeps_nil hk
  have hm1 := h1.2.1
  obtain ⟨d0, d1, d2⟩ := h1.cells
  go_wp2_with (first | (at_lookup; refine wpList_lookup_ok rfl _ _ _ rfl rfl hm1 off rfl ?_; simp only [e3, if_true]) | (at_mapUpdate; refine wpList_update rfl _ _ _ rfl rfl hm1 off v rfl rfl ?_; intro w2 hm2 hk2))
  go_end0
  obtain ⟨g1, g2, g3, g4, g5, g6⟩ := h1
  refine ⟨rfl, tv, ⟨hk2.at g1 g4, hm2, ?_, g4, g5, g6⟩, ?_, fun _ hh => .inl hh⟩
  · rw [storeP_keys HI.out.2]
    exact g3.keeps' hk2 (fun g hg e => g6 (by rw [hg, e]))
  · exact (hk.of_nil).trans hk2 (fun i _ e => .inr (.inl e))

/-- what the walk wants to know behind the append -/
theorem store_facts {w1 w2 : World} {t m p : Nat} {tv : Value} {l : List Put} {off : UInt64} {g n cap : Nat}
    (h : w1.heap[t]? = some (.cells #[.pointer (some ⟨p, 0, none⟩), .map (some m), tv] 127 (0, 0)) ∧ MapAt w1 m l ∧ t ≠ m ∧ tv.ownBlock ≠ some t ∧ tv.ownBlock ≠ some m)
    (hown2 : Own kU w2 0 (.slice (some ⟨g, 0, none⟩) n cap) (l.map (·.1) ++ [off])) (hk2 : Keeps (fun k => tv.ownBlock = some k) w1 w2) :
    w2.cell? ⟨t, 2, none⟩ = some tv ∧ w2.frozen? ⟨t, 2, none⟩ = false ∧ w2.cell? ⟨t, 1, none⟩ = some (.map (some m)) ∧
      Hid (MapAt (w2.setCell ⟨t, 2, none⟩ (.slice (some ⟨g, 0, none⟩) n cap)) m l ∧
        (w2.setCell ⟨t, 2, none⟩ (.slice (some ⟨g, 0, none⟩) n cap)).heap[t]? = some (.cells #[.pointer (some ⟨p, 0, none⟩), .map (some m), .slice (some ⟨g, 0, none⟩) n cap] 127 (0, 0)) ∧
        g ≠ t ∧ g ≠ m ∧
        Keeps (fun k => k = t) w2 (w2.setCell ⟨t, 2, none⟩ (.slice (some ⟨g, 0, none⟩) n cap))) := by
  obtain ⟨g1, g2, g4, g5, g6⟩ := h
  have f1 := hk2.at g1 g5
  have f2 : MapAt w2 m l := g2.keeps hk2 g6
  have k3 := keeps_setCell w2 ⟨t, 2, none⟩ (.slice (some ⟨g, 0, none⟩) n cap)
  rcases hown2.2 with ⟨hv, _⟩ | ⟨g', cap', cur, hv, _, hh, _⟩
  · cases hv
  have e2 := congrArg Value.ownBlock hv
  simp only [Value.ownBlock, Option.some.injEq] at e2
  subst e2
  refine ⟨by simp [World.cell?, f1], by simp [World.frozen?, f1], by simp [World.cell?, f1], f2.keeps k3 (fun e => g4 e.symm), heap_setCell_same f1 2 _, ?_, ?_, k3⟩
  · intro e; subst e; rw [f1] at hh; simp at hh
  · intro e; subst e; obtain ⟨es, clock, f5, _⟩ := f2; rw [f5] at hh; simp at hh

set_option maxHeartbeats 2000000 in
theorem TxStore_miss {w : World} {t m p q : Nat} {tv : Value} {l : List Put} {ws : List UInt64} (h : TxAt w t m tv p l) (hs : SegAt w p q ws) (off v : UInt64) (hin : inB ws off = true) (hl : loadP l off = none) (hlen : l.length < 4294967296) :
    Calls Try.prog 43 #[.pointer (some ⟨t, 0, none⟩), .int .u64 ↑off.toNat, .int .u64 ↑v.toNat] w fun e w' => e = .returned (.tuple #[]) ∧ TxMoved w t m tv p (storeP l off v) w' := by
  obtain ⟨c0, c1, c2⟩ := h.cells
  have e1 : errV ws off = 0 := by simp [errV, hin]
  have HI := Lib.hid (And.intro hin hl)
  have e3 : (loadP l off).isSome = false := by rw [hl]; rfl
  clear hin hl
  go_enter Try.func43, Try.ntmps43
  go_wp2_with fail
  refine (Load_any hs off _ rfl).mono ?_
  rintro e w1 ⟨rfl, hk⟩
  simp only [e1]
  clear e1
  have h1 := h.keeps_nil hk
  have hm1 := h1.2.1
  obtain ⟨d0, d1, d2⟩ := h1.cells
  have g3 := h1.2.2.1
  obtain ⟨g1, g2, _, g4, g5, g6⟩ := h1
  have G := Lib.hid (And.intro g1 (And.intro g2 (And.intro g4 (And.intro g5 g6))))
  clear g1 g2 g4 g5 g6 c0 c1 c2
  go_wp2_with (first
    | (at_lookup; refine wpList_lookup_ok rfl _ _ _ rfl rfl hm1 off rfl ?_; simp only [e3, if_true])
    | (at_builtin; refine wpList_append_u64 rfl _ _ rfl l.length (by simp) g3 rfl off _ rfl rfl hlen (Nat.zero_le _) ?_; rintro _ w2 hown2 hk2 ⟨g, cap, rfl, hg⟩; have HG := Lib.hid hg; clear hg; obtain ⟨f1a, f1b, f1c, FF⟩ := store_facts G.out hown2 hk2)
    | (at_mapUpdate; refine wpList_update rfl _ _ _ rfl rfl FF.out.1 off v rfl rfl ?_; intro w4 hm4 hk4))
  go_end0
  obtain ⟨_, f3, hne, hne2, k3⟩ := FF.out
  obtain ⟨g1, g2, g4, g5, g6⟩ := G.out
  have hk2' : Keeps (txS t m tv) w1 _ := hk2.mono (fun i _ e => .inr (.inr e))
  have hown3 := hown2.keeps' k3 (fun g' hg e => hne (by simpa [Value.ownBlock, e] using hg))
  refine ⟨rfl, _, ⟨hk4.at f3 g4, hm4, ?_, g4, by simpa [Value.ownBlock] using hne, by simpa [Value.ownBlock] using hne2⟩, ?_, ?_⟩
  · rw [storeP_new HI.out.2]
    have := hown3.keeps' hk4 (fun g' hg e => hne2 (by simpa [Value.ownBlock, e] using hg))
    simpa using this
  · exact (hk.of_nil.trans' hk2').trans' ((k3.mono (fun i _ e => .inl e)).trans' (hk4.mono (fun i _ e => .inr (.inl e))))
  · have hsz := hk.size
    rintro k (rfl | rfl | e)
    · exact .inl (.inl rfl)
    · exact .inl (.inr (.inl rfl))
    · simp only [Value.ownBlock, Option.some.injEq] at e
      subst e
      rcases HG.out with e | e
      · exact .inl (.inr (.inr e))
      · exact .inr (by omega)

theorem TxStore_any {w : World} {t m p q : Nat} {tv : Value} {l : List Put} {ws : List UInt64} (h : TxAt w t m tv p l) (hs : SegAt w p q ws) (off v : UInt64) (hlen : l.length < 4294967296) (x y : Int) (hx : x = (off.toNat : Int)) (hy : y = (v.toNat : Int)) :
    Calls Try.prog 43 #[.pointer (some ⟨t, 0, none⟩), .int .u64 x, .int .u64 y] w fun e w' => e = .returned (.tuple #[]) ∧ TxMoved w t m tv p (txStore ws l off v) w' := by
  subst hx hy
  cases hin : inB ws off with
  | false => refine (TxStore_out h hs off v hin).mono ?_; rintro e w' ⟨rfl, hk⟩; exact ⟨rfl, by simpa [txStore, hin] using TxMoved.same h hk⟩
  | true =>
    cases hl : loadP l off with
    | some u => refine (TxStore_hit h hs off v u hin hl).mono ?_; rintro e w' ⟨rfl, hk⟩; exact ⟨rfl, by simpa [txStore, hin] using hk⟩
    | none => refine (TxStore_miss h hs off v hin hl hlen).mono ?_; rintro e w' ⟨rfl, hk⟩; exact ⟨rfl, by simpa [txStore, hin] using hk⟩

end Go.Proofs.Ytccllkgaakmdhaa
