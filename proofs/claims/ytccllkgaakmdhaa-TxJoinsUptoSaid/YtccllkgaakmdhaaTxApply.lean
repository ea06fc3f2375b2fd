/- tx.Apply. -/
import Derived.Test.YtccllkgaakmdhaaTxAll
namespace Go.Proofs.Ytccllkgaakmdhaa
open Go.RowKit Go.Shelf

attribute [local go_sem] Oper.semAt_some

/-- the segment's words behind stores, in turn -/
def applyW (ws : List UInt64) (l : List Put) : List UInt64 := l.foldl (fun ws x => putW ws x.1 x.2) ws
theorem applyW_snoc (ws : List UInt64) (l : List Put) (x : Put) : applyW ws (l ++ [x]) = putW (applyW ws l) x.1 x.2 := by simp [applyW]
theorem putW_length (ws : List UInt64) (off v : UInt64) : (putW ws off v).length = ws.length := by unfold putW; split <;> simp
theorem applyW_length (l : List Put) : ∀ (ws : List UInt64), (applyW ws l).length = ws.length := by
  induction l with
  | nil => intro ws; rfl
  | cons x l ih => intro ws; show (applyW (putW ws x.1 x.2) l).length = _; rw [ih, putW_length]

theorem SegAt.grown {W W' : World} {row : Option Nat} {p q : Nat} {ws : List UInt64} (h : SegAt W p q ws) (hg : W.grownBy W' row) (hr : ∀ r, row = some r → ∃ o : Obj, W.heap[r]? = some o ∧ o.isCells = false) : SegAt W' p q ws := by
  obtain ⟨h1, h2, h3, cap, c, h4, h4', h5, h6, h7, h8⟩ := h
  exact ⟨h1, h2, h3, cap, c, h4, h4', cells_grown h5 hg hr, cells_grown h6 hg hr, h7, h8⟩
theorem SegAt.isCells {W : World} {p q : Nat} {ws : List UInt64} (h : SegAt W p q ws) {o : Obj} (ho : W.heap[q]? = some o) : o.isCells = true := by
  obtain ⟨h1, h2, h3, cap, c, h4, h4', h5, h6, h7, h8⟩ := h
  rw [h6] at ho; cases ho; rfl

set_option maxRecDepth 100000 in
set_option maxHeartbeats 2000000 in
theorem Apply_some {w : World} {t m p q : Nat} {tv : Value} {l : List Put} {ws : List UInt64} (h : TxAt w t m tv p l) (hs : SegAt w p q ws) (hq : ¬ txS t m tv q) (hlen : l.length < 4294967296) :
    Calls Try.prog 28 #[.pointer (some ⟨t, 0, none⟩)] w fun e w' => e = .returned (.tuple #[]) ∧ SegAt w' p q (applyW ws (told l)) ∧ Keeps (fun k => k = q) w w' := by
  have hql := hs.lt.2
  refine (callsIn_wide (n := 4)).1 ?_
  refine callsIn_of_wp_marks Try.func28 rfl trivial ?_ rfl
  simp only [Try.ntmps28, List.size_toArray, List.length_cons, List.length_nil, Nat.reduceAdd, Nat.reduceSub, Array.replicate_succ, Array.replicate_zero, List.push_toArray, List.append_toArray, List.nil_append, List.cons_append]
  gi_wp2_with (refine ⟨trivial, ?_⟩; gi_at_call 88; refine (callsIn_wide.2 (all_any _ _)).mono ?_; rintro e w' ⟨rfl, rfl⟩)
  obtain ⟨w0, hw0⟩ : ∃ w0, w0 = (w.alloc (.cells #[.pointer (some ⟨t, 0, none⟩)] 25)).alloc (.cells #[.pointer (some ⟨t, 0, none⟩)] 25) := ⟨_, rfl⟩
  have hk0 : Keeps Nil w w0 := by rw [hw0]; exact ((Keeps.refl Nil w).alloc _).alloc _
  have hbx : w0.heap[w.heap.size]? = some (.cells #[.pointer (some ⟨t, 0, none⟩)] 25 (0, 0)) := by rw [hw0]; exact heap_old _ _ (heap_new w _)
  have hbt : w0.heap[w.heap.size + 1]? = some (.cells #[.pointer (some ⟨t, 0, none⟩)] 25 (0, 0)) := by
    rw [hw0]; simpa using heap_new (w.alloc (.cells #[.pointer (some ⟨t, 0, none⟩)] 25)) (.cells #[.pointer (some ⟨t, 0, none⟩)] 25)
  have hsz : w0.heap.size = w.heap.size + 2 := by rw [hw0]; simp
  rw [← hw0]
  clear hw0
  have h0 := h.keeps_nil hk0
  refine wpIn_rangeFunc_ownF rfl (by omega) (gf := 112) (lb := #[.pointer (some ⟨w.heap.size + 1, 0, none⟩)]) rfl trivial (enters_of Try.func112 (by kernel_rfl) rfl)
    (all_stops (4 - 1) (by omega) (w.heap.size + 1) t m p tv l hlen w0 (by omega) (cell_of_one hbt) h0) KeptOn.trans (keptOn_put (fun k hk => hk.elim (fun e => by omega) (fun e => h0.lt e))) (Below.refl _ _) (fun _ => rfl)
    (fun pre W => SegAt W p q (applyW ws pre) ∧ Keeps (fun k => k = q) w0 W)
    (fun _ _ _ => False)
    (fun s W W' row hs hg hr => ⟨hs.1.grown hg (fun r e => (hr r e).2), hs.2.record hg (fun r e => (hr r e).1) (Nat.le_refl _)⟩)
    (fun _ _ _ _ _ hs _ _ => hs)
    ⟨hs.keeps hk0 (fun e => e) (fun e => e), Keeps.refl _ _⟩
    (fun x => { tmps := #[.pointer (some ⟨t, 0, none⟩), .pointer (some ⟨w.heap.size, 0, none⟩), .int .u64 ↑x.1.toNat, .int .u64 ↑x.2.toNat, .pointer (some ⟨t, 0, none⟩), .bool false, .pointer (some ⟨t, 0, none⟩), .func (.func 112) #[] #[.pointer (some ⟨w.heap.size + 1, 0, none⟩)], .int .u64 ↑x.1.toNat, .int .u64 ↑x.2.toNat, undef, undef, undef, undef, undef, undef, undef], defers := [] }) ?assign ?body ?done ?stop
  case assign =>
    intro L x W K hK
    gi_wp2
    exact hK
  case body =>
    rintro L pre x W ⟨h1, h2⟩ hpl
    have hb := cell_of_one (h2.at hbx (by omega))
    have hc : W.cell? ⟨t, 0, none⟩ = some (.pointer (some ⟨p, 0, none⟩)) := (h2.cell (h0.lt (.inl rfl)) (fun e => hq (.inl e.symm)) 0).trans h0.cells.1
    have HH := Lib.hid (And.intro h1 h2)
    have HC := Lib.hid (Store_any h1 x.1 x.2 _ _ rfl rfl)
    clear h1 h2
    gi_wp2_with (refine ⟨trivial, ?_⟩; gi_at_call 34; refine (CallsIn.inRound L (callsIn_wide.2 HC.out)).mono ?_; rintro e w3 ⟨rfl, hs3, hK3⟩; have H3 := Lib.hid (And.intro hs3 hK3); clear hs3 hK3)
    all_goals obtain ⟨h1, h2⟩ := HH.out
    all_goals obtain ⟨hs3, hK3⟩ := H3.out
    all_goals refine ⟨KeepsOthers.of_keeps hK3 (fun k o hk ho => by subst hk; exact h1.isCells ho), hK3.on (fun k hk => ⟨?_, ?_⟩), by rw [applyW_snoc]; exact hs3, h2.trans' hK3⟩
    all_goals have := h2.size
    all_goals first
      | exact hk.elim (fun e => by omega) (fun e => by have := h0.lt e; omega)
      | (intro e; subst e; exact hk.elim (fun e => by omega) (fun e => hq e))
  case done =>
    rintro D ys W hD rfl ⟨h1, h2⟩ hK
    gi_wp2
    refine ⟨by simp, .inl ⟨_, _, rfl, run_takeDeferred hK, ?_⟩⟩
    exact ⟨_, results_none rfl _ _ _, rfl, h1.grown (grown_put _ _ _) (fun r e => by cases e; exact ⟨_, hK, rfl⟩), (hk0.of_nil.trans' h2).record (grown_put _ _ _) (fun r e => by cases e; exact hD) hk0.size⟩
  case stop =>
    rintro D c pre W _ _ h _
    exact h.elim

end Go.Proofs.Ytccllkgaakmdhaa
