/- CoreB: written short. -/
import Derived.Maps.OwnIn
import Derived.Laws.StructEq
import Derived.Deep.RegionHeld3
import Derived.Test.YtefpbljekfkefaaGreatS02
import Derived.Test.YtefpbljekfkefaaGreatS01
set_option maxRecDepth 100000
set_option maxHeartbeats 8000000
namespace Go.Proofs.YtefpbljekfkefaaGreat
section
open Go.RowKit
def TxAt (w : World) (t m : Nat) (tv : Value) (p : Nat) (l : List Put) : Prop :=
 w.heap[t]? = some (.cells #[.pointer (some ⟨p, 0, none⟩), .map (some m), tv] 133 (0, 0)) ∧ MapAt w m l ∧ Own kU w 0 tv (l.map (·.1)) ∧ t ≠ m ∧ tv.ownBlock ≠ some t ∧ tv.ownBlock ≠ some m
def txS (t m : Nat) (tv : Value) : Nat → Prop := fun k => k = t ∨ k = m ∨ tv.ownBlock = some k
theorem TxAt.lt {w : World} {t m p : Nat} {tv : Value} {l : List Put} (h : TxAt w t m tv p l) {k : Nat} (hk : txS t m tv k) : k < w.heap.size := by
 obtain ⟨h1, ⟨es, clock, h2, _⟩, h3, _⟩ := h
 rcases hk with rfl | rfl | hk
 · exact getElem?_lt h1
 · exact getElem?_lt h2
 · exact (h3.block hk).2
theorem Own.keeps' {α : Type} {K : Kind α} {S : Nat → Prop} {w w' : World} {base : Nat} {v : Value} {l : List α} (h : Own K w base v l) (k : Keeps S w w') (hS : ∀ g, v.ownBlock = some g → ¬ S g) : Own K w' base v l := by
 obtain ⟨h1, h2⟩ := h
 refine ⟨h1, ?_⟩
 rcases h2 with h2 | ⟨g, cap, cur, rfl, hg, hh, r⟩
 · exact .inl h2
 · exact .inr ⟨g, cap, cur, rfl, hg, k.at hh (hS g rfl), r⟩
theorem TxAt.keeps {S : Nat → Prop} {w w' : World} {t m p : Nat} {tv : Value} {l : List Put} (h : TxAt w t m tv p l) (k : Keeps S w w') (hS : ∀ g, txS t m tv g → ¬ S g) : TxAt w' t m tv p l := by
 obtain ⟨h1, h2, h3, h4, h5, h6⟩ := h
 exact ⟨k.at h1 (hS _ (.inl rfl)), h2.keeps k (hS _ (.inr (.inl rfl))), h3.keeps' k (fun g hg => hS g (.inr (.inr hg))), h4, h5, h6⟩
theorem TxAt.keeps_nil {w w' : World} {t m p : Nat} {tv : Value} {l : List Put} (h : TxAt w t m tv p l) (k : Keeps Nil w w') : TxAt w' t m tv p l := h.keeps k (fun _ _ e => e)
theorem TxAt.cells {w : World} {t m p : Nat} {tv : Value} {l : List Put} (h : TxAt w t m tv p l) : w.cell? ⟨t, 0, none⟩ = some (.pointer (some ⟨p, 0, none⟩)) ∧ w.cell? ⟨t, 1, none⟩ = some (.map (some m)) ∧ w.cell? ⟨t, 2, none⟩ = some tv := by
 have h1 := h.1
 exact ⟨by simp [World.cell?, h1], by simp [World.cell?, h1], by simp [World.cell?, h1]⟩
theorem TxAt.free {w : World} {t m p : Nat} {tv : Value} {l : List Put} (h : TxAt w t m tv p l) (o : Nat) : w.frozen? ⟨t, o, none⟩ = false := by
 have h1 := h.1
 simp [World.frozen?, h1]
def txLoad (ws : List UInt64) (l : List Put) (off : UInt64) : UInt64 := (loadP l off).getD (loadV ws off)
def txStore (ws : List UInt64) (l : List Put) (off v : UInt64) : List Put := if inB ws off then storeP l off v else l
theorem TxNew_some (w : World) (p : Nat) :
  Calls Tryz.prog 130 #[.pointer (some ⟨p, 0, none⟩)] w fun e w' =>
   e = .returned (.pointer (some ⟨w.heap.size + 1, 0, none⟩)) ∧ TxAt w' (w.heap.size + 1) w.heap.size (.slice none 0 0) p [] ∧ Keeps Nil w w' ∧ w'.heap.size = w.heap.size + 2 := by
 have hmm := @run_makeMap Tryz.prog
 go_enter Tryz.func130, Tryz.ntmps130
 go_wp2
 go_ret
 exact ⟨by simp, ⟨by simpa using heap_new (w.alloc (.map #[] 0)) _, (MapAt.made w).keeps ((Keeps.refl Nil _).alloc _) (fun e => e), Own.nil _ _ _, by omega, by simp [Value.ownBlock], by simp [Value.ownBlock]⟩, ((Keeps.refl Nil w).alloc _).alloc _, by simp⟩
theorem TxSize_some {w : World} {t m p q : Nat} {tv : Value} {l : List Put} {ws : List UInt64} (h : TxAt w t m tv p l) (hs : SegAt w p q ws) :
  Calls Tryz.prog 97 #[.pointer (some ⟨t, 0, none⟩)] w fun e w' => e = .returned (.int .u64 ((8 * ws.length : Nat) : Int)) ∧ w = w' := by
 obtain ⟨c0, c1, c2⟩ := h.cells
 go_enter Tryz.func97, Tryz.ntmps97
 go_wp2_with fail
 refine (Size_some hs).mono ?_
 rintro e w' ⟨rfl, rfl⟩
 go_wp2_with fail
 go_ret
 exact ⟨rfl, rfl⟩
theorem TxSize_nil (w : World) : Calls Tryz.prog 97 #[.pointer none] w fun e w' => e = .returned (.int .u64 0) ∧ w = w' := by
 go_enter Tryz.func97, Tryz.ntmps97
 go_wp2
 go_ret
 exact ⟨rfl, rfl⟩
theorem TxOld_some {w : World} {t m p q : Nat} {tv : Value} {l : List Put} {ws : List UInt64} (h : TxAt w t m tv p l) (hs : SegAt w p q ws) (off : UInt64) (x : Int) (hx : x = (off.toNat : Int)) :
  Calls Tryz.prog 80 #[.pointer (some ⟨t, 0, none⟩), .int .u64 x] w fun e w' => e = .returned (.int .u64 ↑(loadV ws off).toNat) ∧ Keeps Nil w w' := by
 obtain ⟨c0, c1, c2⟩ := h.cells
 have HX := qH hx
 clear hx
 go_enter Tryz.func80, Tryz.ntmps80
 go_wp2_with fail
 refine (Load_any hs off x HX.out).mono ?_
 rintro e w' ⟨rfl, hk⟩
 go_wp2_with fail
 go_ret
 exact ⟨rfl, hk⟩
theorem TxLoad_some {w : World} {t m p q : Nat} {tv : Value} {l : List Put} {ws : List UInt64} (h : TxAt w t m tv p l) (hs : SegAt w p q ws) (off : UInt64) (x : Int) (hx : x = (off.toNat : Int)) :
   Calls Tryz.prog 29 #[.pointer (some ⟨t, 0, none⟩), .int .u64 x] w fun e w' => e = .returned (.int .u64 ↑(txLoad ws l off).toNat) ∧ Keeps Nil w w' := by
 subst hx
 obtain ⟨c0, c1, c2⟩ := h.cells
 have hm := h.2.1
 cases hl : loadP l off with
 | some u =>
   have HL := qH hl
   have e1 : ((loadP l off).getD 0) = u := by rw [hl]; rfl
   have e2 : (loadP l off).isSome = true := by rw [hl]; rfl
   clear hl
   go_enter Tryz.func29, Tryz.ntmps29
   go_wp2_with (at_lookup; refine wpList_lookup_ok rfl _ _ _ rfl rfl hm off rfl ?_; simp only [e1, e2, if_true])
   go_ret
   exact ⟨by simp [txLoad, HL.out], Keeps.refl _ _⟩
 | none =>
   have HL := qH hl
   have e1 : ((loadP l off).getD 0) = 0 := by rw [hl]; rfl
   have e2 : (loadP l off).isSome = false := by rw [hl]; rfl
   clear hl
   go_enter Tryz.func29, Tryz.ntmps29
   go_wp2_with (at_lookup; refine wpList_lookup_ok rfl _ _ _ rfl rfl hm off rfl ?_; simp only [e1, e2, if_true])
   refine (TxOld_some h hs off _ rfl).mono ?_
   rintro e w' ⟨rfl, hk⟩
   go_wp2_with fail
   go_ret
   exact ⟨by simp [txLoad, HL.out], hk⟩
theorem TxLoad_nil (w : World) (x : Int) : Calls Tryz.prog 29 #[.pointer none, .int .u64 x] w fun e w' => e = .returned (.int .u64 0) ∧ w = w' := by
 go_enter Tryz.func29, Tryz.ntmps29
 go_wp2
 go_ret
 exact ⟨rfl, rfl⟩
def TxMoved (w : World) (t m : Nat) (tv : Value) (p : Nat) (l : List Put) (w' : World) : Prop :=
 ∃ tv', TxAt w' t m tv' p l ∧ Keeps (txS t m tv) w w' ∧ ∀ k, txS t m tv' k → txS t m tv k ∨ w.heap.size ≤ k
theorem TxMoved.same {w w' : World} {t m p : Nat} {tv : Value} {l : List Put} (h : TxAt w t m tv p l) (k : Keeps Nil w w') : TxMoved w t m tv p l w' :=
 ⟨tv, h.keeps_nil k, k.of_nil, fun _ hk => .inl hk⟩
theorem heap_setCell_same {w : World} {b : Nat} {c : Array Value} {T : TypeId} {f : Nat × Nat} (h : w.heap[b]? = some (.cells c T f)) (o : Nat) (u : Value) : (w.setCell ⟨b, o, none⟩ u).heap[b]? = some (.cells (c.setIfInBounds o u) T f) := by
 have hlt := getElem?_lt h
 have h' : w.heap[b] = .cells c T f := by simpa [Array.getElem?_eq_getElem hlt] using h
 show (w.heap.modify b _)[b]? = _
 rw [Array.getElem?_eq_getElem (by simpa using hlt), Array.getElem_modify_self, h']
 rfl
theorem TxStore_out {w : World} {t m p q : Nat} {tv : Value} {l : List Put} {ws : List UInt64} (h : TxAt w t m tv p l) (hs : SegAt w p q ws) (off v : UInt64) (hin : inB ws off = false) :
  Calls Tryz.prog 36 #[.pointer (some ⟨t, 0, none⟩), .int .u64 ↑off.toNat, .int .u64 ↑v.toNat] w fun e w' => e = .returned (.tuple #[]) ∧ Keeps Nil w w' := by
 obtain ⟨c0, c1, c2⟩ := h.cells
 have e1 : errV ws off = 1 := by simp [errV, hin]
 have e2 : loadV ws off = 0 := by simp [loadV, hin]
 have HI := qH hin
 clear hin
 go_enter Tryz.func36, Tryz.ntmps36
 go_wp2_with fail
 refine (Load_any hs off _ rfl).mono ?_
 rintro e w' ⟨rfl, hk⟩
 simp only [e1, e2]
 clear e1 e2
 go_wp2_with fail
 refine bodyPost_ret (results_none rfl _ _ _) rfl ?_
 exact ⟨rfl, hk⟩
theorem TxStore_hit {w : World} {t m p q : Nat} {tv : Value} {l : List Put} {ws : List UInt64} (h : TxAt w t m tv p l) (hs : SegAt w p q ws) (off v u : UInt64) (hin : inB ws off = true) (hl : loadP l off = some u) :
  Calls Tryz.prog 36 #[.pointer (some ⟨t, 0, none⟩), .int .u64 ↑off.toNat, .int .u64 ↑v.toNat] w fun e w' => e = .returned (.tuple #[]) ∧ TxMoved w t m tv p (storeP l off v) w' := by
 obtain ⟨c0, c1, c2⟩ := h.cells
 have e1 : errV ws off = 0 := by simp [errV, hin]
 have HI := qH (And.intro hin hl)
 have e3 : (loadP l off).isSome = true := by rw [hl]; rfl
 clear hin hl
 go_enter Tryz.func36, Tryz.ntmps36
 go_wp2_with fail
 refine (Load_any hs off _ rfl).mono ?_
 rintro e w1 ⟨rfl, hk⟩
 simp only [e1]
 clear e1
 have h1 := h.keeps_nil hk
 have hm1 := h1.2.1
 obtain ⟨d0, d1, d2⟩ := h1.cells
 go_wp2_with (first | (at_lookup; refine wpList_lookup_ok rfl _ _ _ rfl rfl hm1 off rfl ?_; simp only [e3, if_true]) | (at_mapUpdate; refine wpList_update rfl _ _ _ rfl rfl hm1 off v rfl rfl ?_; intro w2 hm2 hk2))
 go_end0
 obtain ⟨g1, g2, g3, g4, g5, g6⟩ := h1
 refine ⟨rfl, tv, ⟨hk2.at g1 g4, hm2, ?_, g4, g5, g6⟩, ?_, fun _ hh => .inl hh⟩
 ·rw [storeP_keys HI.out.2]
  exact g3.keeps' hk2 (fun g hg e => g6 (by rw [hg, e]))
 ·exact (hk.of_nil).trans hk2 (fun i _ e => .inr (.inl e))
theorem store_facts {w1 w2 : World} {t m p : Nat} {tv : Value} {l : List Put} {off : UInt64} {g n cap : Nat}
  (h : w1.heap[t]? = some (.cells #[.pointer (some ⟨p, 0, none⟩), .map (some m), tv] 133 (0, 0)) ∧ MapAt w1 m l ∧ t ≠ m ∧ tv.ownBlock ≠ some t ∧ tv.ownBlock ≠ some m)
  (hown2 : Own kU w2 0 (.slice (some ⟨g, 0, none⟩) n cap) (l.map (·.1) ++ [off])) (hk2 : Keeps (fun k => tv.ownBlock = some k) w1 w2) :
  w2.cell? ⟨t, 2, none⟩ = some tv ∧ w2.frozen? ⟨t, 2, none⟩ = false ∧ w2.cell? ⟨t, 1, none⟩ = some (.map (some m)) ∧
   Hid (MapAt (w2.setCell ⟨t, 2, none⟩ (.slice (some ⟨g, 0, none⟩) n cap)) m l ∧
        (w2.setCell ⟨t, 2, none⟩ (.slice (some ⟨g, 0, none⟩) n cap)).heap[t]? = some (.cells #[.pointer (some ⟨p, 0, none⟩), .map (some m), .slice (some ⟨g, 0, none⟩) n cap] 133 (0, 0)) ∧
        g ≠ t ∧ g ≠ m ∧
        Keeps (fun k => k = t) w2 (w2.setCell ⟨t, 2, none⟩ (.slice (some ⟨g, 0, none⟩) n cap))) := by
 obtain ⟨g1, g2, g4, g5, g6⟩ := h
 have f1 := hk2.at g1 g5
 have f2 : MapAt w2 m l := g2.keeps hk2 g6
 have k3 := keeps_setCell w2 ⟨t, 2, none⟩ (.slice (some ⟨g, 0, none⟩) n cap)
 rcases hown2.2 with ⟨hv, _⟩ | ⟨g', cap', cur, hv, _, hh, _⟩
 · cases hv
 have e2 := congrArg Value.ownBlock hv
 simp only [Value.ownBlock, Option.some.injEq] at e2
 subst e2
 refine ⟨by simp [World.cell?, f1], by simp [World.frozen?, f1], by simp [World.cell?, f1], f2.keeps k3 (fun e => g4 e.symm), heap_setCell_same f1 2 _, ?_, ?_, k3⟩
 · intro e; subst e; rw [f1] at hh; simp at hh
 · intro e; subst e; obtain ⟨es, clock, f5, _⟩ := f2; rw [f5] at hh; simp at hh
theorem TxStore_miss {w : World} {t m p q : Nat} {tv : Value} {l : List Put} {ws : List UInt64} (h : TxAt w t m tv p l) (hs : SegAt w p q ws) (off v : UInt64) (hin : inB ws off = true) (hl : loadP l off = none) (hlen : l.length < 4294967296) :
  Calls Tryz.prog 36 #[.pointer (some ⟨t, 0, none⟩), .int .u64 ↑off.toNat, .int .u64 ↑v.toNat] w fun e w' => e = .returned (.tuple #[]) ∧ TxMoved w t m tv p (storeP l off v) w' := by
 obtain ⟨c0, c1, c2⟩ := h.cells
 have e1 : errV ws off = 0 := by simp [errV, hin]
 have HI := qH (And.intro hin hl)
 have e3 : (loadP l off).isSome = false := by rw [hl]; rfl
 clear hin hl
 go_enter Tryz.func36, Tryz.ntmps36
 go_wp2_with fail
 refine (Load_any hs off _ rfl).mono ?_
 rintro e w1 ⟨rfl, hk⟩
 simp only [e1]
 clear e1
 have h1 := h.keeps_nil hk
 have hm1 := h1.2.1
 obtain ⟨d0, d1, d2⟩ := h1.cells
 have g3 := h1.2.2.1
 obtain ⟨g1, g2, _, g4, g5, g6⟩ := h1
 have G := qH (And.intro g1 (And.intro g2 (And.intro g4 (And.intro g5 g6))))
 clear g1 g2 g4 g5 g6 c0 c1 c2
 go_wp2_with (first
  | (at_lookup; refine wpList_lookup_ok rfl _ _ _ rfl rfl hm1 off rfl ?_; simp only [e3, if_true])
  | (at_builtin; refine wpList_append_u64 rfl _ _ rfl l.length (by simp) g3 rfl off _ rfl rfl hlen (Nat.zero_le _) ?_; rintro _ w2 hown2 hk2 ⟨g, cap, rfl, hg⟩; have HG := qH hg; clear hg; obtain ⟨f1a, f1b, f1c, FF⟩ := store_facts G.out hown2 hk2)
  | (at_mapUpdate; refine wpList_update rfl _ _ _ rfl rfl FF.out.1 off v rfl rfl ?_; intro w4 hm4 hk4))
 go_end0
 obtain ⟨_, f3, hne, hne2, k3⟩ := FF.out
 obtain ⟨g1, g2, g4, g5, g6⟩ := G.out
 have hk2' : Keeps (txS t m tv) w1 _ := hk2.mono (fun i _ e => .inr (.inr e))
 have hown3 := hown2.keeps' k3 (fun g' hg e => hne (by simpa [Value.ownBlock, e] using hg))
 refine ⟨rfl, _, ⟨hk4.at f3 g4, hm4, ?_, g4, by simpa [Value.ownBlock] using hne, by simpa [Value.ownBlock] using hne2⟩, ?_, ?_⟩
 ·rw [storeP_new HI.out.2]
  have := hown3.keeps' hk4 (fun g' hg e => hne2 (by simpa [Value.ownBlock, e] using hg))
  simpa using this
 ·exact (hk.of_nil.trans' hk2').trans' ((k3.mono (fun i _ e => .inl e)).trans' (hk4.mono (fun i _ e => .inr (.inl e))))
 ·have hsz := hk.size
  rintro k (rfl | rfl | e)
  ·exact .inl (.inl rfl)
  ·exact .inl (.inr (.inl rfl))
  ·simp only [Value.ownBlock, Option.some.injEq] at e
   subst e
   rcases HG.out with e | e
   · exact .inl (.inr (.inr e))
   · exact .inr (by omega)
theorem TxStore_any {w : World} {t m p q : Nat} {tv : Value} {l : List Put} {ws : List UInt64} (h : TxAt w t m tv p l) (hs : SegAt w p q ws) (off v : UInt64) (hlen : l.length < 4294967296) (x y : Int) (hx : x = (off.toNat : Int)) (hy : y = (v.toNat : Int)) :
   Calls Tryz.prog 36 #[.pointer (some ⟨t, 0, none⟩), .int .u64 x, .int .u64 y] w fun e w' => e = .returned (.tuple #[]) ∧ TxMoved w t m tv p (txStore ws l off v) w' := by
 subst hx hy
 cases hin : inB ws off with
 | false => refine (TxStore_out h hs off v hin).mono ?_; rintro e w' ⟨rfl, hk⟩; exact ⟨rfl, by simpa [txStore, hin] using TxMoved.same h hk⟩
 | true =>
   cases hl : loadP l off with
   | some u => refine (TxStore_hit h hs off v u hin hl).mono ?_; rintro e w' ⟨rfl, hk⟩; exact ⟨rfl, by simpa [txStore, hin] using hk⟩
   | none => refine (TxStore_miss h hs off v hin hl hlen).mono ?_; rintro e w' ⟨rfl, hk⟩; exact ⟨rfl, by simpa [txStore, hin] using hk⟩
end
section
open Go.RowKit Go.Shelf
attribute [local go_sem] Oper.semAt_some
def told (l : List Put) : List Put := l.map (fun x => (x.1, (loadP l x.1).getD 0))
theorem take_succ' {α : Type} {l : List α} {k : Nat} {x : α} (h : l[k]? = some x) : l.take (k + 1) = l.take k ++ [x] := by
 rw [List.take_add_one, h]; rfl
theorem Own.on {α : Type} {K : Kind α} {R : Nat → Prop} {w w' : World} {base : Nat} {v : Value} {l : List α} (h : Own K w base v l) (k : KeptOn R w w') (hR : ∀ g, v.ownBlock = some g → R g) : Own K w' base v l := by
 obtain ⟨h1, h2⟩ := h
 refine ⟨h1, ?_⟩
 rcases h2 with h2 | ⟨g, cap, cur, rfl, hg, hh, r⟩
 · exact .inl h2
 · exact .inr ⟨g, cap, cur, rfl, hg, (k g (hR g rfl)).trans hh, r⟩
theorem TxAt.on {R : Nat → Prop} {w w' : World} {t m p : Nat} {tv : Value} {l : List Put} (h : TxAt w t m tv p l) (k : KeptOn R w w') (hR : ∀ g, txS t m tv g → R g) : TxAt w' t m tv p l := by
 obtain ⟨h1, h2, h3, h4⟩ := h
 exact ⟨(k t (hR t (.inl rfl))).trans h1, h2.on k (hR m (.inr (.inl rfl))), h3.on k (fun g hg => hR g (.inr (.inr hg))), h4⟩
theorem TxAt.shape {w : World} {t m p : Nat} {tv : Value} {l : List Put} (h : TxAt w t m tv p l) : (tv = .slice none 0 0 ∧ l = []) ∨ ∃ g cap, tv = .slice (some ⟨g, 0, none⟩) l.length cap := by
 rcases h.2.2.1.2 with ⟨hv, h0⟩ | ⟨g, cap, cur, hv, _⟩
 · exact .inl ⟨hv, by simpa using List.eq_nil_of_length_eq_zero h0⟩
 · exact .inr ⟨g, cap, by simpa using hv⟩
theorem cells_grown {W W' : World} {row : Option Nat} {k : Nat} {c : Array Value} {T : TypeId} {f : Nat × Nat} (h : W.heap[k]? = some (.cells c T f)) (hg : W.grownBy W' row) (hr : ∀ r, row = some r → ∃ o : Obj, W.heap[r]? = some o ∧ o.isCells = false) : W'.heap[k]? = some (.cells c T f) := by
 refine (hg.block k (getElem?_lt h) (fun e => ?_)).trans h
 obtain ⟨o, ho, hc⟩ := hr k e.symm
 rw [h] at ho; cases ho; cases hc
theorem Own.grown {α : Type} {K : Kind α} {W W' : World} {row : Option Nat} {base : Nat} {v : Value} {l : List α} (h : Own K W base v l) (hg : W.grownBy W' row) (hr : ∀ r, row = some r → ∃ o : Obj, W.heap[r]? = some o ∧ o.isCells = false) : Own K W' base v l := by
 obtain ⟨h1, h2⟩ := h
 refine ⟨h1, ?_⟩
 rcases h2 with h2 | ⟨g, cap, cur, rfl, hb, hh, r⟩
 · exact .inl h2
 · exact .inr ⟨g, cap, cur, rfl, hb, cells_grown hh hg hr, r⟩
theorem Keeps.record {S : Nat → Prop} {w W W' : World} {row : Option Nat} {B : Nat} (h : Keeps S w W) (hg : W.grownBy W' row) (hr : ∀ r, row = some r → B ≤ r) (hB : w.heap.size ≤ B) : Keeps S w W' :=
  h.grown hg (fun k hk hlt => by have := hr k hk; omega)
theorem KeepsOthers.of_keeps {S : Nat → Prop} {W W' : World} (h : Keeps S W W') (hS : ∀ k o, S k → W.heap[k]? = some o → o.isCells = true) : KeepsOthers W W' :=
  ⟨h.size, fun k o hk ho => h.at hk (fun e => by rw [hS k o e hk] at ho; cases ho)⟩
theorem grown_put (W : World) (D : Nat) (o : Obj) : W.grownBy (W.putObj D o) (some D) := grownBy_putObj' W D o
theorem puts_facts {α : Type} {K : Kind α} {W w3 : World} {n0 base : Nat} {T : TypeId} {v v3 : Value} {l l3 : List α} (h1 : W.heap[n0]? = some (.cells #[v] T (0, 0))) (h2 : Own K w3 base v3 l3) (h4 : Own K W base v l) (hK : Keeps (fun k => v.ownBlock = some k) W w3) (hT : T ≠ K.elem := by decide) :
  w3.cell? ⟨n0, 0, none⟩ = some v ∧ w3.frozen? ⟨n0, 0, none⟩ = false ∧ Hid (w3.heap[n0]? = some (.cells #[v] T (0, 0)) ∧ v3.ownBlock ≠ some n0 ∧ v.ownBlock ≠ some n0 ∧ ∀ k o, v.ownBlock = some k → W.heap[k]? = some o → o.isCells = true) := by
 have hne : v.ownBlock ≠ some n0 := by
  intro e
  rcases h4.2 with ⟨rfl, _⟩ | ⟨g, cap, cur, rfl, _, hh, _⟩
  · cases e
  · simp only [Value.ownBlock, Option.some.injEq] at e; subst e; rw [h1] at hh; simp at hh; exact hT hh.2
 have h5 := hK.at h1 hne
 have hne3 : v3.ownBlock ≠ some n0 := by
  intro e
  rcases h2.2 with ⟨rfl, _⟩ | ⟨g, cap, cur, rfl, _, hh, _⟩
  · cases e
  · simp only [Value.ownBlock, Option.some.injEq] at e; subst e; rw [h5] at hh; simp at hh; exact hT hh.2
 refine ⟨cell_of_one h5, free_of_one h5, h5, hne3, hne, fun k o hk ho => ?_⟩
 rcases h4.2 with ⟨rfl, _⟩ | ⟨g, cap, cur, rfl, _, hh, _⟩
 · cases hk
 · simp only [Value.ownBlock, Option.some.injEq] at hk; subst hk; rw [hh] at ho; cases ho; rfl
theorem Own.base {α : Type} {K : Kind α} {w : World} {b b' : Nat} {v : Value} {l : List α} (h : Own K w b v l) (hb : b' ≤ b) : Own K w b' v l := by
 obtain ⟨h1, h2⟩ := h
 refine ⟨h1, ?_⟩
 rcases h2 with h2 | ⟨g, cap, cur, rfl, hg, r⟩
 · exact .inl h2
 · exact .inr ⟨g, cap, cur, rfl, by omega, r⟩
theorem puts_close {α : Type} {K : Kind α} {R : Nat → Prop} {w W w3 : World} {n0 base : Nat} {T : TypeId} {v : Value} {pre : List α} {x : α} {g m cap : Nat} (h3 : Keeps Nil w W) (h1 : W.heap[n0]? = some (.cells #[v] T (0, 0))) (h2 : Own K W base v pre)
  (hown3 : Own K w3 base (.slice (some ⟨g, 0, none⟩) m cap) (pre ++ [x])) (hK : Keeps (fun k => v.ownBlock = some k) W w3) (h5 : w3.heap[n0]? = some (.cells #[v] T (0, 0))) (_ : v.ownBlock = some g ∨ W.heap.size ≤ g)
  (hn : w.heap.size ≤ n0 ∧ n0 < base) (hbase : base ≤ W.heap.size) (hR : ∀ k, R k → k < base ∧ k ≠ n0) :
  KeepsOthers W (w3.setCell ⟨n0, 0, none⟩ (.slice (some ⟨g, 0, none⟩) m cap)) ∧ KeptOn R W (w3.setCell ⟨n0, 0, none⟩ (.slice (some ⟨g, 0, none⟩) m cap)) ∧
   (∃ v', (w3.setCell ⟨n0, 0, none⟩ (.slice (some ⟨g, 0, none⟩) m cap)).heap[n0]? = some (.cells #[v'] T (0, 0)) ∧ Own K (w3.setCell ⟨n0, 0, none⟩ (.slice (some ⟨g, 0, none⟩) m cap)) base v' (pre ++ [x])) ∧ Keeps Nil w (w3.setCell ⟨n0, 0, none⟩ (.slice (some ⟨g, 0, none⟩) m cap)) ∧ base ≤ (w3.setCell ⟨n0, 0, none⟩ (.slice (some ⟨g, 0, none⟩) m cap)).heap.size := by
 have hset := keeps_setCell w3 ⟨n0, 0, none⟩ (.slice (some ⟨g, 0, none⟩) m cap)
 have hall : Keeps (fun k => v.ownBlock = some k ∨ k = n0) W (w3.setCell ⟨n0, 0, none⟩ (.slice (some ⟨g, 0, none⟩) m cap)) :=
  (hK.mono (fun _ _ e => .inl e)).trans hset (fun _ _ e => .inr e)
 refine ⟨KeepsOthers.of_keeps hall (fun k o hk ho => ?_), hall.on (fun k hk => ⟨by have := (hR k hk).1; omega, fun e => ?_⟩), ⟨_, heap_setCell_same h5 0 _, hown3.keeps' hset (fun g' hg' e => ?_)⟩, h3.trans hall (fun i hi e => ?_), Nat.le_trans hbase hall.size⟩
 ·rcases hk with hk | rfl
  ·rcases h2.2 with ⟨rfl, _⟩ | ⟨g, cap, cur, rfl, _, hh, _⟩
   · cases hk
   · simp only [Value.ownBlock, Option.some.injEq] at hk; subst hk; rw [hh] at ho; cases ho; rfl
  ·rw [h1] at ho; cases ho; rfl
 ·have hr := hR k hk
  rcases e with e | e
  ·have := (h2.block e).1; omega
  ·exact hr.2 e
 ·have := (hown3.block hg').1
  have e' : g' = n0 := e
  omega
 ·rcases e with e | e
  ·have := (h2.block e).1; omega
  ·omega
attribute [local go_sem] Oper.semAt_some
theorem SegAt.grown {W W' : World} {row : Option Nat} {p q : Nat} {ws : List UInt64} (h : SegAt W p q ws) (hg : W.grownBy W' row) (hr : ∀ r, row = some r → ∃ o : Obj, W.heap[r]? = some o ∧ o.isCells = false) : SegAt W' p q ws := by
 obtain ⟨h1, h2, h3, cap, c, h4, h4', h5, h6, h7, h8⟩ := h
 exact ⟨h1, h2, h3, cap, c, h4, h4', cells_grown h5 hg hr, cells_grown h6 hg hr, h7, h8⟩
theorem SegAt.isCells {W : World} {p q : Nat} {ws : List UInt64} (h : SegAt W p q ws) {o : Obj} (ho : W.heap[q]? = some o) : o.isCells = true := by
 obtain ⟨h1, h2, h3, cap, c, h4, h4', h5, h6, h7, h8⟩ := h
 rw [h6] at ho; cases ho; rfl
end
section
open Go.RowKit
def Mem (w : World) (s t : Nat) (l : List Put) (ws : List UInt64) (S : Nat → Prop) : Prop :=
 ∃ q m tv, TxAt w t m tv s l ∧ SegAt w s q ws ∧ ¬ txS t m tv s ∧ ¬ txS t m tv q ∧ ∀ k, S k ↔ (txS t m tv k ∨ k = s ∨ k = q)
structure Step (S S' : Nat → Prop) (w w' : World) : Prop where
 keeps : Keeps S w w'
 grow : ∀ k, S' k → S k ∨ w.heap.size ≤ k
theorem Step.refl (S : Nat → Prop) (w : World) : Step S S w w := ⟨Keeps.refl _ _, fun _ h => .inl h⟩
theorem Step.of_nil {S : Nat → Prop} {w w' : World} (h : Keeps Nil w w') : Step S S w w' := ⟨h.of_nil, fun _ h => .inl h⟩
theorem Step.of_keeps {S : Nat → Prop} {w w' : World} (h : Keeps S w w') : Step S S w w' := ⟨h, fun _ h => .inl h⟩
theorem Step.trans {A B C : Nat → Prop} {a b c : World} (h : Step A B a b) (k : Step B C b c) : Step A C a c :=
 ⟨h.keeps.trans k.keeps (fun i hi e => (h.grow i e).elim id (fun e => by omega)),
  fun i e => (k.grow i e).elim (h.grow i) (fun e => .inr (Nat.le_trans h.keeps.size e))⟩
theorem Step.nil {A B : Nat → Prop} {a b c : World} (h : Step A B a b) (k : Keeps Nil b c) : Step A B a c := h.trans (Step.of_nil k)
theorem View.steps {α : Type} {K : Kind α} {S S' : Nat → Prop} {w w' : World} {v : Value} {l : List α} (h : View K S w v l) (k : Step S S' w w') : View K S' w' v l := h.step k.keeps k.grow
theorem Step.cell {A B : Nat → Prop} {a b : World} (h : Step A B a b) {k : Nat} (hk : k < a.heap.size) (hA : ¬ A k) (o : Nat) : b.cell? ⟨k, o, none⟩ = a.cell? ⟨k, o, none⟩ := h.keeps.cell hk hA o
theorem Step.at {A B : Nat → Prop} {a b : World} (h : Step A B a b) {k : Nat} {o : Obj} (hk : a.heap[k]? = some o) (hA : ¬ A k) : b.heap[k]? = some o := h.keeps.at hk hA
theorem Step.out {A B : Nat → Prop} {a b : World} (h : Step A B a b) {k : Nat} (hk : k < a.heap.size) (hA : ¬ A k) : ¬ B k := fun e => (h.grow k e).elim hA (fun e => by omega)
theorem View.box {α : Type} {K : Kind α} {S : Nat → Prop} {w w' : World} {v : Value} {l : List α} {m : Nat} {c : Array Value} {T : TypeId} {f : Nat × Nat} (h : View K S w v l) (hm : w.heap[m]? = some (.cells c T f))
  (hno : ∀ (i : Nat) (u : Value) (x : α), c[i]? = some u → (K.enc x)[0]? ≠ some u) (k : Keeps (fun i => i = m) w w') : View K S w' v l := by
 rcases h with h | ⟨b, off, cap, hv, hc, hx, hb, hn, hcell⟩
 ·exact .inl h
 ·refine .inr ⟨b, off, cap, hv, hc, hx, Nat.lt_of_lt_of_le hb k.size, hn, fun i j hj hi => ?_⟩
  have hne : b ≠ m := fun e => by
   subst e
   have h0 := hcell i 0 K.pos hi
   rw [List.getElem?_eq_getElem hi] at h0
   have h1 : (K.enc l[i])[0]? = some ((K.enc l[i])[0]'(by rw [K.len]; exact K.pos)) := List.getElem?_eq_getElem _
   simp only [Option.bind_some] at h0
   rw [h1] at h0
   simp only [World.cell?, hm] at h0
   exact hno _ _ l[i] (by simpa using h0) h1
  exact (k.cell hb hne _).trans (hcell i j hj hi)
theorem noU (A B : Option Addr) (n n' c c' : Nat) : ∀ (i : Nat) (u : Value) (x : UInt64), (#[Value.slice A n c, Value.slice B n' c'] : Array Value)[i]? = some u → (kU.enc x)[0]? ≠ some u := by
 intro i u x hu e
 simp at e; subst e
 rcases i with _ | _ | i <;> simp at hu
theorem noP (A B : Option Addr) (n n' c c' : Nat) : ∀ (i : Nat) (u : Value) (x : Put), (#[Value.slice A n c, Value.slice B n' c'] : Array Value)[i]? = some u → (kP.enc x)[0]? ≠ some u := by
 intro i u x hu e
 simp at e; subst e
 rcases i with _ | _ | i <;> simp at hu
section
variable {w w' : World} {s t : Nat} {l : List Put} {ws : List UInt64} {S : Nat → Prop}
theorem Mem.lt (h : Mem w s t l ws S) {k : Nat} (hk : S k) : k < w.heap.size := by
 obtain ⟨q, m, tv, h1, h2, h3, h4, h5⟩ := h
 rcases (h5 k).1 hk with e | rfl | rfl
 · exact h1.lt e
 · exact h2.lt.1
 · exact h2.lt.2
theorem Mem.keeps_nil (h : Mem w s t l ws S) (k : Keeps Nil w w') : Mem w' s t l ws S := by
 obtain ⟨q, m, tv, h1, h2, h3, h4, h5⟩ := h
 exact ⟨q, m, tv, h1.keeps_nil k, h2.keeps k (fun e => e) (fun e => e), h3, h4, h5⟩
theorem Mem.keeps {S2 : Nat → Prop} (h : Mem w s t l ws S) (k : Keeps S2 w w') (hS : ∀ g, S g → ¬ S2 g) : Mem w' s t l ws S := by
 obtain ⟨q, m, tv, h1, h2, h3, h4, h5⟩ := h
 exact ⟨q, m, tv, h1.keeps k (fun g hg => hS g ((h5 g).2 (.inl hg))), h2.keeps k (hS _ ((h5 _).2 (.inr (.inl rfl)))) (hS _ ((h5 _).2 (.inr (.inr rfl)))), h3, h4, h5⟩
theorem Mem.seg (h : Mem w s t l ws S) : ws.length ≤ 131072 ∧ 0 < ws.length := by
 obtain ⟨q, m, tv, h1, h2, h3, h4, h5⟩ := h
 exact ⟨h2.2.1, h2.2.2.1⟩
theorem Mem.load (h : Mem w s t l ws S) (off : UInt64) (x : Int) (hx : x = (off.toNat : Int)) :
  Calls Tryz.prog 29 #[.pointer (some ⟨t, 0, none⟩), .int .u64 x] w fun e w' => e = .returned (.int .u64 ↑(txLoad ws l off).toNat) ∧ Keeps Nil w w' := by
 obtain ⟨q, m, tv, h1, h2, h3, h4, h5⟩ := h
 exact TxLoad_some h1 h2 off x hx
theorem Mem.old (h : Mem w s t l ws S) (off : UInt64) (x : Int) (hx : x = (off.toNat : Int)) :
  Calls Tryz.prog 80 #[.pointer (some ⟨t, 0, none⟩), .int .u64 x] w fun e w' => e = .returned (.int .u64 ↑(loadV ws off).toNat) ∧ Keeps Nil w w' := by
 obtain ⟨q, m, tv, h1, h2, h3, h4, h5⟩ := h
 exact TxOld_some h1 h2 off x hx
theorem Mem.size (h : Mem w s t l ws S) :
  Calls Tryz.prog 97 #[.pointer (some ⟨t, 0, none⟩)] w fun e w' => e = .returned (.int .u64 ((8 * ws.length : Nat) : Int)) ∧ w = w' := by
 obtain ⟨q, m, tv, h1, h2, h3, h4, h5⟩ := h
 exact TxSize_some h1 h2
theorem Mem.store (h : Mem w s t l ws S) (off v : UInt64) (hlen : l.length < 4294967296) (x y : Int) (hx : x = (off.toNat : Int)) (hy : y = (v.toNat : Int)) :
  Calls Tryz.prog 36 #[.pointer (some ⟨t, 0, none⟩), .int .u64 x, .int .u64 y] w fun e w' => e = .returned (.tuple #[]) ∧ ∃ S', Mem w' s t (txStore ws l off v) ws S' ∧ Step S S' w w' := by
 obtain ⟨q, m, tv, h1, h2, h3, h4, h5⟩ := h
 refine (TxStore_any h1 h2 off v hlen x y hx hy).mono ?_
 rintro e w' ⟨rfl, tv', g1, g2, g3⟩
 have hs := h2.lt
 refine ⟨rfl, fun k => txS t m tv' k ∨ k = s ∨ k = q, ⟨q, m, tv', g1, h2.keeps g2 h3 h4, fun e => (g3 _ e).elim h3 (fun e => by omega), fun e => (g3 _ e).elim h4 (fun e => by omega), fun k => Iff.rfl⟩, g2.mono (fun i _ e => (h5 i).2 (.inl e)), fun k hk => ?_⟩
 rcases hk with hk | hk
 · exact (g3 k hk).imp (fun e => (h5 k).2 (.inl e)) id
 · exact .inl ((h5 k).2 (.inr hk))
end
theorem Mem.new {w : World} {p q : Nat} {ws : List UInt64} (hs : SegAt w p q ws) :
  Calls Tryz.prog 130 #[.pointer (some ⟨p, 0, none⟩)] w fun e w' => ∃ t S', e = .returned (.pointer (some ⟨t, 0, none⟩)) ∧ Mem w' p t [] ws S' ∧ Keeps Nil w w' ∧ (∀ k, S' k → k = p ∨ k = q ∨ w.heap.size ≤ k) ∧ w.heap.size ≤ t := by
 refine (TxNew_some w p).mono ?_
 rintro e w' ⟨rfl, h1, h2, h3⟩
 have hl := hs.lt
 have hS : ∀ k, txS (w.heap.size + 1) w.heap.size (.slice none 0 0) k → w.heap.size ≤ k := fun k hk => by
  rcases hk with rfl | rfl | hk
  · omega
  · omega
  · cases hk
 refine ⟨w.heap.size + 1, fun k => txS (w.heap.size + 1) w.heap.size (.slice none 0 0) k ∨ k = p ∨ k = q, rfl, ⟨q, _, _, h1, hs.keeps h2 (fun e => e) (fun e => e), fun e => by have := hS _ e; omega, fun e => by have := hS _ e; omega, fun k => Iff.rfl⟩, h2, fun k hk => ?_, by omega⟩
 rcases hk with hk | rfl | rfl
 · exact .inr (.inr (hS k hk))
 · exact .inl rfl
 · exact .inr (.inl rfl)
end
section
open Go.RowKit
theorem View.cellU {w : World} {b off : Nat} {l : List UInt64} (h : ∀ i j, j < kU.size → i < l.length → w.cell? ⟨b, off + (i * kU.size + j), none⟩ = (l[i]?).bind (fun x => (kU.enc x)[j]?)) (i : Nat) (hi : i < l.length) : w.cell? ⟨b, off + i, none⟩ = some (.int .u64 ↑(l[i]?.getD 0).toNat) := by
 have := h i 0 (by decide) hi
 have e : l[i]? = some l[i] := by simp [hi]
 rw [e] at this ⊢
 simpa using this
theorem Own.setU {w : World} {base g cap : Nat} {l : List UInt64} (h : Own kU w base (.slice (some ⟨g, 0, none⟩) l.length cap) l) (i : Nat) (x : UInt64) (hi : i < l.length) :
  Own kU (w.setCell ⟨g, i, none⟩ (.int .u64 ↑x.toNat)) base (.slice (some ⟨g, 0, none⟩) l.length cap) (l.set i x) := by
 obtain ⟨h1, h2⟩ := h
 rcases h2 with ⟨e, _⟩ | ⟨g', cap', cur, e, hg, hh, hc, hm, hs, ht⟩
 ·cases e
 ·simp only [Value.slice.injEq, Option.some.injEq, Addr.mk.injEq, and_true, true_and] at e
  obtain ⟨rfl, rfl⟩ := e
  refine ⟨kU.cells_length _, .inr ⟨g, cap, cur.setIfInBounds i (.int .u64 ↑x.toNat), by simp, hg, heap_setCell_eq hh i _, by simpa using hc, hm, by simpa using hs, ?_⟩⟩
  rw [Array.toList_setIfInBounds, List.length_set]
  show List.take (l.length * 1) _ = _
  rw [Nat.mul_one, List.take_set]
  have ht' : cur.toList.take l.length = kU.cells l := by simpa using ht
  rw [ht']
  apply List.ext_getElem?
  intro j
  have hcells : ∀ (m : List UInt64) (j : Nat), (kU.cells m)[j]? = (m[j]?).map (fun y => Value.int .u64 ↑y.toNat) := by
   intro m j
   have := kU.cells_get m j 0 (by decide)
   simp only [Nat.mul_one, Nat.add_zero] at this
   rw [this]
   cases m[j]? <;> rfl
  rw [hcells, List.getElem?_set, List.getElem?_set, hcells, kU.cells_length]
  by_cases e : i = j
  · subst e; simp [hi]
  · simp [e]
theorem Own.cellU {w : World} {base g cap : Nat} {l : List UInt64} (h : Own kU w base (.slice (some ⟨g, 0, none⟩) l.length cap) l) (i : Nat) (hi : i < l.length) :
  w.cell? ⟨g, i, none⟩ = some (.int .u64 ↑(l[i]?.getD 0).toNat) ∧ w.frozen? ⟨g, i, none⟩ = false := by
 rcases h.2 with ⟨e, _⟩ | ⟨g', cap', cur, e, hg, hh, hc, hm, hs, ht⟩
 ·cases e
 ·simp only [Value.slice.injEq, Option.some.injEq, Addr.mk.injEq, and_true, true_and] at e
  obtain ⟨rfl, rfl⟩ := e
  have hv := h.view (S := Nil) (fun _ _ e => e)
  rcases hv with ⟨e, _⟩ | ⟨b, o, cap', e, _, _, _, _, hcell⟩
  ·cases e
  ·simp only [Value.slice.injEq, Option.some.injEq, Addr.mk.injEq, and_true, true_and] at e
   obtain ⟨⟨rfl, rfl⟩, rfl⟩ := e
   have := View.cellU hcell i hi
   rw [Nat.zero_add] at this
   exact ⟨this, by simp [World.frozen?, hh]⟩
theorem rin_any (a : Option Addr) (cap : Nat) (ws : List UInt64) (hl : ws.length ≤ maxLen) (off : UInt64) (x : Int) (hx : x = (off.toNat : Int)) (w : World) :
  Calls Tryz.prog 191 #[.slice a ws.length cap, .int .u64 x] w fun e w' => e = .returned (.bool (inB ws off)) ∧ w = w' := by
 subst hx
 unfold maxLen at hl
 by_cases hm : off.toNat % 8 = 0
 ·have hm' : (((off.toNat : Int) % 8) == 0) = true := by simp; omega
  go_enter Tryz.func191, Tryz.ntmps191
  go_wp2
  go_ret
  have hlt := off.toNat_lt
  exact ⟨by simp [inB, hm]; rw [IntWalk.u64_in _ (by omega)]; omega, rfl⟩
 ·have hm' : (((off.toNat : Int) % 8) == 0) = false := by simp; omega
  go_enter Tryz.func191, Tryz.ntmps191
  go_wp2
  go_ret
  exact ⟨by simp [inB, hm], rfl⟩
theorem rLoad_any {S : Nat → Prop} {w : World} {b o cap : Nat} {ws : List UInt64} (h : View kU S w (.slice (some ⟨b, o, none⟩) ws.length cap) ws) (off : UInt64) (x : Int) (hx : x = (off.toNat : Int)) :
   Calls Tryz.prog 178 #[.slice (some ⟨b, o, none⟩) ws.length cap, .int .u64 x] w fun e w' => e = .returned (.tuple #[.int .u64 ↑(loadV ws off).toNat, .int .i64 (errV ws off)]) ∧ w = w' := by
 subst hx
 rcases h with ⟨e, _⟩ | ⟨b', o', cap', e, hc, hm, hb, hn, hcell⟩
 · cases e
 simp only [Value.slice.injEq, Option.some.injEq, Addr.mk.injEq, and_true] at e
 obtain ⟨⟨rfl, rfl⟩, _, rfl⟩ := e
 have hl : ws.length ≤ maxLen := by omega
 have hl2 := hl
 unfold maxLen at hl2
 cases hin : inB ws off with
 | true =>
   have hin2 : off.toNat % 8 = 0 ∧ off.toNat < 8 * ws.length := by simpa [inB] using hin
   have hlt := off.toNat_lt
   have hi : off.toNat / 8 < ws.length := by omega
   have hcl := View.cellU hcell (off.toNat / 8) hi
   have e1 : IntKind.u64.wrap ((off.toNat : Int) / 8) = ((off.toNat / 8 : Nat) : Int) := by rw [IntWalk.u64_in _ (by omega)]; omega
   have RI := qH (rin_any (some ⟨b, o, none⟩) cap ws hl off _ rfl w)
   rw [hin] at RI
   have HH := qH hin
   clear hcell hin hin2
   go_enter Tryz.func178, Tryz.ntmps178
   go_wp2_with fail
   refine RI.out.mono ?_
   rintro e w' ⟨rfl, rfl⟩
   go_wp2_with fail
   go_ret2
   exact ⟨by simp [loadV, errV, HH.out, hi], rfl⟩
 | false =>
   have RI := qH (rin_any (some ⟨b, o, none⟩) cap ws hl off _ rfl w)
   rw [hin] at RI
   have HH := qH hin
   clear hcell hin
   go_enter Tryz.func178, Tryz.ntmps178
   go_wp2_with fail
   refine RI.out.mono ?_
   rintro e w' ⟨rfl, rfl⟩
   go_wp2_with fail
   go_ret2
   exact ⟨by simp [loadV, errV, HH.out], rfl⟩
theorem info_u64 : (Tryz.prog.info? 25).map (fun i => (i.zero, i.size, i.bytes)) = some (some (.int .u64 0), 1, 8) := by kernel_rfl
theorem rMay_any (size : UInt64) (x : Int) (hx : x = (size.toNat : Int)) (w : World) :
  Calls Tryz.prog 189 #[.int .u64 x] w fun e w' => e = .returned (.bool (mayB size)) ∧ w = w' := by
 subst hx
 obtain ⟨n, hn⟩ : ∃ n, n = size.toNat := ⟨_, rfl⟩
 have HM : mayB size = (n != 0 && n % 8 == 0 && decide (n ≤ 1048576)) := by simp only [mayB, ← hn]
 rw [HM, ← hn]
 clear HM hn
 by_cases h1 : 0 < n
 ·by_cases h2 : n % 8 = 0
  ·have t1 : ((n : Int) % 8 == 0) = true := by simp; omega
   have H2 := qH h2
   clear h2
   go_enter Tryz.func189, Tryz.ntmps189
   go_wp2
   go_ret
   exact ⟨by have := H2.out; simp [this]; rw [Bool.eq_iff_iff]; simp; omega, rfl⟩
  ·have t1 : ((n : Int) % 8 == 0) = false := by simp; omega
   have H2 := qH h2
   clear h2
   go_enter Tryz.func189, Tryz.ntmps189
   go_wp2
   go_ret
   exact ⟨by have := H2.out; simp [this], rfl⟩
 ·obtain rfl : n = 0 := by omega
  go_enter Tryz.func189, Tryz.ntmps189
  go_wp2
  go_ret
  exact ⟨by simp, rfl⟩
theorem cellsU_get (l : List UInt64) (j : Nat) : (kU.cells l)[j]? = (l[j]?).map (fun y => Value.int .u64 ↑y.toNat) := by
 have := kU.cells_get l j 0 (by decide)
 simp only [Nat.mul_one, Nat.add_zero] at this
 rw [this]
 cases l[j]? <;> rfl
theorem rNew_yes (w : World) (size : UInt64) (h : mayB size = true) (x : Int) (hx : x = (size.toNat : Int)) :
  Calls Tryz.prog 175 #[.int .u64 x] w fun e w' =>
   e = .returned (.slice (some ⟨w.heap.size, 0, none⟩) (size.toNat / 8) (size.toNat / 8)) ∧ Own kU w' w.heap.size (.slice (some ⟨w.heap.size, 0, none⟩) (size.toNat / 8) (size.toNat / 8)) (List.replicate (size.toNat / 8) 0) ∧ Keeps Nil w w' := by
 have RM := qH (rMay_any size x hx w)
 rw [h] at RM
 subst hx
 simp [mayB] at h
 obtain ⟨⟨h1, h2⟩, h3⟩ := h
 obtain ⟨i0, hi, hz0, hz1, hz2⟩ := info_parts info_u64
 have e1 : IntKind.u64.wrap ((size.toNat : Int) / 8) = ((size.toNat / 8 : Nat) : Int) := by rw [IntWalk.u64_in _ (by omega)]; omega
 obtain ⟨n, hn⟩ : ∃ n, n = size.toNat / 8 := ⟨_, rfl⟩
 rw [← hn] at e1 ⊢
 have hmk : ∀ w : World, (Instr.makeSlice 27 (.int .u64 (n : Int)) (.int .u64 (n : Int))).run Tryz.prog w = .ok (.slice (some ⟨w.heap.size, 0, none⟩) n n) (w.alloc (.cells (madeCells #[.int .u64 0] n) 25)) := fun w => by
  have := run_make (P := Tryz.prog) w 27 25 i0 (.int .u64 0) Tryz.underlying27 hi hz0 .u64 .u64 n n (by omega) (by omega) (by rw [hz2]; omega) (by omega)
  simpa [hz1, Value.cells] using this
 have hn2 : n ≤ 131072 := by omega
 have HN := qH hn
 clear hn h1 h2 hi hz0 hz1 hz2
 go_enter Tryz.func175, Tryz.ntmps175
 go_wp2_with fail
 refine RM.out.mono ?_
 rintro e w' ⟨rfl, rfl⟩
 go_wp2_with fail
 go_ret
 refine ⟨rfl, ⟨kU.cells_length _, .inr ⟨w.heap.size, n, madeCells #[.int .u64 0] n, by simp, Nat.le_refl _, heap_new w _, by simp, by unfold maxLen; omega, by simp [madeCells], ?_⟩⟩, (Keeps.refl Nil w).alloc _⟩
 apply List.ext_getElem?
 intro i
 rw [cellsU_get, List.length_replicate, List.getElem?_replicate]
 show (List.take (n * 1) _)[i]? = _
 rw [Nat.mul_one]
 by_cases hi : i < n
 ·rw [List.getElem?_take_of_lt hi, if_pos hi]
  simpa using made_get (.int .u64 0) n i hi
 ·rw [if_neg hi, List.getElem?_eq_none (by simp; omega)]; rfl
def atI : List Put → UInt64 → Int → Int
 | [], _, _ => -1
 | x :: l, off, i => if x.1 = off then i else atI l off (i + 1)
theorem atI_none {l : List Put} {off : UInt64} (h : loadP l off = none) (i : Int) : atI l off i = -1 := by
 induction l generalizing i with
 | nil => rfl
 | cons x l ih =>
   simp only [loadP] at h
   split at h
   · cases h
   · rename_i hne; simp only [atI, if_neg (Ne.symm hne)]; exact ih h _
theorem atI_some {l : List Put} {off u : UInt64} (h : loadP l off = some u) (i : Int) : ∃ j : Nat, j < l.length ∧ atI l off i = i + j ∧ l[j]? = some (off, u) ∧ ∀ v, storeP l off v = l.set j (off, v) := by
 induction l generalizing i with
 | nil => cases h
 | cons x l ih =>
   simp only [loadP] at h
   split at h
   ·rename_i he
    cases h
    refine ⟨0, by simp, by simp [atI, he], by simp [he], fun v => by simp [storeP, he]⟩
   ·rename_i hne
    obtain ⟨j, h1, h2, h3, h4⟩ := ih h (i + 1)
    exact ⟨j + 1, by simp; omega, by simp only [atI, if_neg (Ne.symm hne), h2]; omega, by simpa using h3, fun v => by simp only [storeP, if_neg hne, h4]; rfl⟩
theorem atI_drop {l : List Put} {k : Nat} {x : Put} (h : l[k]? = some x) (off : UInt64) : atI (l.drop k) off k = if x.1 = off then (k : Int) else atI (l.drop (k + 1)) off ((k + 1 : Nat) : Int) := by
 have hk := (List.getElem?_eq_some_iff.1 h)
 obtain ⟨hlt, he⟩ := hk
 rw [List.drop_eq_getElem_cons hlt, he]
 simp [atI]
theorem View.cellP {w : World} {b off : Nat} {l : List Put} (h : ∀ i j, j < kP.size → i < l.length → w.cell? ⟨b, off + (i * kP.size + j), none⟩ = (l[i]?).bind (fun x => (kP.enc x)[j]?)) (i : Nat) (x : Put) (hx : l[i]? = some x) :
  w.cell? ⟨b, off + i * 2, none⟩ = some (.int .u64 ↑x.1.toNat) ∧ w.cell? ⟨b, off + i * 2 + 1, none⟩ = some (.int .u64 ↑x.2.toNat) := by
 have hi := (List.getElem?_eq_some_iff.1 hx).1
 have h0 := h i 0 (by decide) hi
 have h1 := h i 1 (by decide) hi
 rw [hx] at h0 h1
 exact ⟨by simpa using h0, by simpa [Nat.add_assoc] using h1⟩
theorem at_any {S : Nat → Prop} {w : World} {b o cap n : Nat} {vP : Value} {l : List Put} (h : View kP S w vP l) (off : UInt64) (x : Int) (hx : x = (off.toNat : Int)) :
    Calls Tryz.prog 168 #[.agg #[.slice (some ⟨b, o, none⟩) n cap, vP], .int .u64 x] w fun e w' => e = .returned (.int .i64 (atI l off 0)) ∧ Keeps Nil w w' := by
  subst hx
  by_cases hp : 0 < l.length
  · obtain ⟨b2, o2, cap2, rfl, hc, hm, hb, _, hcell⟩ := h.pos hp
    clear h
    obtain ⟨w1, hw1⟩ : ∃ w1, w1 = w.alloc (.cells #[.slice (some ⟨b, o, none⟩) n cap, .slice (some ⟨b2, o2, none⟩) l.length cap2] 71) := ⟨_, rfl⟩
    have hK : Keeps Nil w w1 := by rw [hw1]; exact (Keeps.refl Nil w).alloc _
    have hcell1 : ∀ i j, j < kP.size → i < l.length → w1.cell? ⟨b2, o2 + (i * kP.size + j), none⟩ = (l[i]?).bind (fun x => (kP.enc x)[j]?) := fun i j hj hi => (hK.cell hb (fun e => e) _).trans (hcell i j hj hi)
    have HC := qH hcell1
    have hbx : w1.cell? ⟨w.heap.size, 1, none⟩ = some (.slice (some ⟨b2, o2, none⟩) l.length cap2) := by
      rw [hw1]; simp only [World.cell?, heap_new w _]; rfl
    have HW := qH hw1
    have hlm : l.length ≤ 9223372036854775807 := by unfold maxLen at hm; omega
    clear hcell hcell1 hw1 hp
    go_enter Tryz.func168, Tryz.ntmps168
    go_wp2_with fail
    rw [← HW.out]
    go_loopw [5] (fun i wr => ∃ k : Nat, k ≤ l.length ∧ i = .int .i64 (k : Int) ∧ w1 = wr ∧ Hid (atI l off 0 = atI (l.drop k) off k)) (fun i _ => l.length - (intOf i).toNat)
    case atStart => exact ⟨0, by omega, rfl, rfl, by simp [Hid]⟩
    case round =>
      obtain ⟨k, hk, rfl, rfl, HS⟩ := hrel
      by_cases hlt : k < l.length
      · obtain ⟨x, hx⟩ : ∃ x, l[k]? = some x := ⟨l[k], by simp [hlt]⟩
        obtain ⟨c1, c2⟩ := View.cellP HC.out k x hx
        have HX := qH hx
        clear hx
        by_cases hd : x.1 = off
        · have hb' : ((x.1.toNat : Int) == (off.toNat : Int)) = true := by rw [hd]; simp
          have HD := qH hd
          clear hd
          go_wp2_with fail
          go_ret
          refine ⟨?_, hK⟩
          have e := HS.out
          rw [atI_drop HX.out, if_pos HD.out] at e
          rw [e]; rfl
        · have hb' : ((x.1.toNat : Int) == (off.toNat : Int)) = false := by
            rw [beq_eq_false_iff_ne]; intro e; exact hd (UInt64.toNat_inj.1 (by omega))
          have HD := qH hd
          clear hd
          go_wp2_with fail
          go_roundw
          case rel =>
            have e := HS.out
            rw [atI_drop HX.out, if_neg HD.out] at e
            exact ⟨k + 1, by omega, by go_num, by first | rfl | trivial, e⟩
          case measure => simp [intOf]; omega
      · go_wp2_with fail
        go_ret
        have e := HS.out
        rw [List.drop_of_length_le (by omega)] at e
        rw [e]
        exact ⟨rfl, hK⟩
  · obtain ⟨a2, cap2, rfl, _⟩ := h.val
    obtain rfl : l = [] := List.eq_nil_of_length_eq_zero (by omega)
    clear h hp
    go_enter Tryz.func168, Tryz.ntmps168
    go_wp2_with fail
    go_loopw [5] (fun i wr => i = .int .i64 0 ∧ Keeps Nil w wr ∧ wr.cell? ⟨w.heap.size, 1, none⟩ = some (.slice a2 0 cap2)) (fun _ _ => 0)
    case atStart => exact ⟨rfl, (Keeps.refl Nil w).alloc _, by simp only [World.cell?, heap_new w _]; rfl⟩
    case round =>
      obtain ⟨rfl, hK, hc⟩ := hrel
      go_wp2_with fail
      go_ret
      exact ⟨rfl, hK⟩
theorem Own.setP {w : World} {base g cap : Nat} {l : List Put} (h : Own kP w base (.slice (some ⟨g, 0, none⟩) l.length cap) l) (i : Nat) (x : Put) (hi : i < l.length) :
    Own kP ((w.setCell ⟨g, i * 2, none⟩ (.int .u64 ↑x.1.toNat)).setCell ⟨g, i * 2 + 1, none⟩ (.int .u64 ↑x.2.toNat)) base (.slice (some ⟨g, 0, none⟩) l.length cap) (l.set i x) := by
  obtain ⟨h1, h2⟩ := h
  rcases h2 with ⟨e, _⟩ | ⟨g', cap', cur, e, hg, hh, hc, hm, hs, ht⟩
  · cases e
  · simp only [Value.slice.injEq, Option.some.injEq, Addr.mk.injEq, and_true, true_and] at e
    obtain ⟨rfl, rfl⟩ := e
    have hs2 : cur.size = cap * 2 := hs
    refine ⟨kP.cells_length _, .inr ⟨g, cap, (cur.setIfInBounds (i * 2) (.int .u64 ↑x.1.toNat)).setIfInBounds (i * 2 + 1) (.int .u64 ↑x.2.toNat), by simp, hg, heap_setCell_eq (heap_setCell_eq hh _ _) _ _, by simpa using hc, hm, by simpa using hs, ?_⟩⟩
    rw [Array.toList_setIfInBounds, Array.toList_setIfInBounds, List.length_set]
    show List.take (l.length * 2) _ = _
    have ht' : cur.toList.take (l.length * 2) = kP.cells l := ht
    rw [List.take_set, List.take_set, ht']
    have hlen : (kP.cells l).length = l.length * 2 := kP.cells_length l
    apply List.ext_getElem?
    intro j
    rw [List.getElem?_set, List.getElem?_set, List.length_set, hlen]
    have hj : j = (j / 2) * 2 + j % 2 := by omega
    have hc1 := kP.cells_get (l.set i x) (j / 2) (j % 2) (Nat.mod_lt _ (by decide))
    have hc2 := kP.cells_get l (j / 2) (j % 2) (Nat.mod_lt _ (by decide))
    rw [show j / 2 * kP.size + j % 2 = j from by show j / 2 * 2 + j % 2 = j; omega] at hc1 hc2
    rw [hc1, hc2, List.getElem?_set]
    by_cases e1 : i * 2 + 1 = j
    · have e2 : j / 2 = i := by omega
      have e3 : j % 2 = 1 := by omega
      rw [if_pos e1, if_pos (by omega), if_pos e2.symm, if_pos hi, e3]; rfl
    · rw [if_neg e1]
      by_cases e4 : i * 2 = j
      · have e2 : j / 2 = i := by omega
        have e3 : j % 2 = 0 := by omega
        rw [if_pos e4, if_pos (by omega), if_pos e2.symm, if_pos hi, e3]; rfl
      · have e2 : i ≠ j / 2 := by omega
        rw [if_neg e4, if_neg e2]
theorem Own.cellP {w : World} {base g cap : Nat} {l : List Put} (h : Own kP w base (.slice (some ⟨g, 0, none⟩) l.length cap) l) (i : Nat) (x : Put) (hx : l[i]? = some x) :
  w.cell? ⟨g, i * 2, none⟩ = some (.int .u64 ↑x.1.toNat) ∧ w.cell? ⟨g, i * 2 + 1, none⟩ = some (.int .u64 ↑x.2.toNat) ∧ ∀ o, w.frozen? ⟨g, o, none⟩ = false := by
 have hi := (List.getElem?_eq_some_iff.1 hx).1
 rcases h.2 with ⟨e, _⟩ | ⟨g', cap', cur, e, hg, hh, hc, hm, hs, ht⟩
 ·cases e
 ·simp only [Value.slice.injEq, Option.some.injEq, Addr.mk.injEq, and_true, true_and] at e
  obtain ⟨rfl, rfl⟩ := e
  rcases h.view (S := Nil) (fun _ _ e => e) with ⟨e, _⟩ | ⟨b, o, cap', e, _, _, _, _, hcell⟩
  ·cases e
  ·simp only [Value.slice.injEq, Option.some.injEq, Addr.mk.injEq, and_true, true_and] at e
   obtain ⟨⟨rfl, rfl⟩, rfl⟩ := e
   obtain ⟨c1, c2⟩ := View.cellP hcell i x hx
   rw [Nat.zero_add] at c1 c2
   exact ⟨c1, c2, fun o => by simp [World.frozen?, hh]⟩
theorem hit_facts {w : World} {base g cap j : Nat} {l : List Put} {x : Put} (h : Own kP w base (.slice (some ⟨g, 0, none⟩) (0 + l.length) cap) ([] ++ l)) (hx : l[j]? = some x) :
  w.cell? ⟨g, j * 2, none⟩ = some (.int .u64 ↑x.1.toNat) ∧ w.cell? ⟨g, j * 2 + 1, none⟩ = some (.int .u64 ↑x.2.toNat) ∧ (w.frozen? ⟨g, j * 2, none⟩ = false ∧ w.frozen? ⟨g, j * 2 + 1, none⟩ = false) ∧ Hid (Own kP w base (.slice (some ⟨g, 0, none⟩) l.length cap) l) := by
 rw [Nat.zero_add, List.nil_append] at h
 obtain ⟨h1, h2, h3⟩ := h.cellP j x hx
 exact ⟨h1, h2, ⟨h3 _, h3 _⟩, h⟩
theorem box_facts {w2 w3 : World} {n : Nat} {A B C D : Value} (h : w2.heap[n]? = some (.cells #[A, B] 71 (0, 0)) ∧ w2.heap[n + 1]? = some (.cells #[C, D] 71 (0, 0))) (hk : Keeps Nil w2 w3) :
  w3.cell? ⟨n, 0, none⟩ = some A ∧ w3.cell? ⟨n, 1, none⟩ = some B ∧ w3.cell? ⟨n + 1, 0, none⟩ = some C ∧ w3.cell? ⟨n + 1, 1, none⟩ = some D ∧ w3.frozen? ⟨n + 1, 0, none⟩ = false ∧ w3.frozen? ⟨n + 1, 1, none⟩ = false ∧ Hid (w3.heap[n]? = some (.cells #[A, B] 71 (0, 0)) ∧ w3.heap[n + 1]? = some (.cells #[C, D] 71 (0, 0))) := by
 have h1 := hk.at h.1 (fun e => e)
 have h2 := hk.at h.2 (fun e => e)
 exact ⟨by simp [World.cell?, h1], by simp [World.cell?, h1], by simp [World.cell?, h2], by simp [World.cell?, h2], by simp [World.frozen?, h2], by simp [World.frozen?, h2], h1, h2⟩
theorem copy_facts {w2 w3 : World} {n : Nat} {A B C D : Value} (hsz : w2.heap.size = n + 2) (h : w2.heap[n]? = some (.cells #[A, B] 71 (0, 0)) ∧ w2.heap[n + 1]? = some (.cells #[C, D] 71 (0, 0)))
  (hK : Keeps (fun k => (Value.slice (some ⟨n + 2, 0, none⟩) 0 0).ownBlock = some k) (w2.alloc (.cells #[] 108)) w3) :
  w3.cell? ⟨n, 0, none⟩ = some A ∧ w3.cell? ⟨n, 1, none⟩ = some B ∧ w3.cell? ⟨n + 1, 0, none⟩ = some C ∧ w3.cell? ⟨n + 1, 1, none⟩ = some D ∧ w3.frozen? ⟨n + 1, 0, none⟩ = false ∧ w3.frozen? ⟨n + 1, 1, none⟩ = false ∧ Hid (Keeps Nil w2 w3 ∧ (w3.heap[n]? = some (.cells #[A, B] 71 (0, 0)) ∧ w3.heap[n + 1]? = some (.cells #[C, D] 71 (0, 0)))) := by
 have hk : Keeps Nil w2 w3 := ((Keeps.refl Nil w2).alloc (.cells #[] 108)).trans hK (fun i hi e => by
  have e' : n + 2 = i := by simpa [Value.ownBlock] using e
  have hi' : i < w2.heap.size := hi
  omega)
 obtain ⟨a, b, c, d, e, f, H⟩ := box_facts h hk
 exact ⟨a, b, c, d, e, f, hk, H⟩
theorem app_facts {w4 w5 : World} {n g m cap : Nat} {A B C D : Value} (h : w4.heap[n]? = some (.cells #[A, B] 71 (0, 0)) ∧ w4.heap[n + 1]? = some (.cells #[C, D] 71 (0, 0)))
  (hK : Keeps (fun k => (Value.slice (some ⟨g, 0, none⟩) m cap).ownBlock = some k) w4 w5) (hg : n + 2 ≤ g) :
  w5.cell? ⟨n, 0, none⟩ = some A ∧ w5.cell? ⟨n, 1, none⟩ = some B ∧ w5.cell? ⟨n + 1, 0, none⟩ = some C ∧ w5.cell? ⟨n + 1, 1, none⟩ = some D ∧ w5.frozen? ⟨n + 1, 0, none⟩ = false ∧ w5.frozen? ⟨n + 1, 1, none⟩ = false ∧
   Hid (Keeps (fun k => k = g) w4 w5 ∧ w5.heap[n]? = some (.cells #[A, B] 71 (0, 0)) ∧ w5.heap[n + 1]? = some (.cells #[C, D] 71 (0, 0))) := by
 have hk : Keeps (fun k => k = g) w4 w5 := hK.mono (fun i _ e => by simpa [Value.ownBlock] using e.symm)
 have h1 := hk.at h.1 (by omega)
 have h2 := hk.at h.2 (by omega)
 exact ⟨by simp [World.cell?, h1], by simp [World.cell?, h1], by simp [World.cell?, h2], by simp [World.cell?, h2], by simp [World.frozen?, h2], by simp [World.frozen?, h2], hk, h1, h2⟩
theorem store_end {S : Nat → Prop} {w w4 w5 : World} {fn : Func} {tmps : Array Value} {T0 : Value} {C D : Value} {ws : List UInt64} {l l' : List Put} {off v : UInt64} {g n cap : Nat} {u : Tmp}
  (hfn : fn.results = #[.cell u 71]) (ht : tmps.getD u undef = .pointer (some ⟨w.heap.size + 1, 0, none⟩))
  (hb : w4.heap[w.heap.size + 1]? = some (.cells #[C, D] 71 (0, 0))) (hOwn : Own kP w5 (w.heap.size + 2) (.slice (some ⟨g, 0, none⟩) n cap) l') (hK : Keeps Nil w w4) (hS : ∀ k, S k → k < w.heap.size) (hg : w.heap.size + 2 ≤ g)
  (h5 : Keeps (fun k => k = g) w4 w5) (hl : txStore ws l off v = l') :
  bodyPost Tryz.prog fn (fun e w' => ∃ vP', e = .returned (.agg #[T0, vP']) ∧ View kP S w' vP' (txStore ws l off v) ∧ Keeps Nil w w') .ret { tmps := tmps, defers := [] }
   ((w5.setCell ⟨w.heap.size + 1, 0, none⟩ T0).setCell ⟨w.heap.size + 1, 1, none⟩ (.slice (some ⟨g, 0, none⟩) n cap)) := by
 have hb5 := h5.at hb (by omega)
 have hfb := heap_setCell_eq (heap_setCell_eq hb5 0 T0) 1 (.slice (some ⟨g, 0, none⟩) n cap)
 have hK5 : Keeps Nil w w5 := hK.trans h5 (fun i hi e => by omega)
 have hKf := (hK5.setNew (a := ⟨w.heap.size + 1, 0, none⟩) (by simp) T0).setNew (a := ⟨w.heap.size + 1, 1, none⟩) (by simp) (.slice (some ⟨g, 0, none⟩) n cap)
 refine bodyPost_ret (results_row hfn ht hfb Tryz.underlying71 rfl (by kernel_rfl)) rfl ?_
 refine ⟨_, rfl, ?_, hKf⟩
 rw [hl]
 have hne : ∀ g', (Value.slice (some ⟨g, 0, none⟩) n cap).ownBlock = some g' → ¬ (g' = w.heap.size + 1) := fun g' e => by simp only [Value.ownBlock, Option.some.injEq] at e; omega
 exact ((hOwn.keeps' (keeps_setCell w5 ⟨w.heap.size + 1, 0, none⟩ T0) hne).keeps' (keeps_setCell _ ⟨w.heap.size + 1, 1, none⟩ (.slice (some ⟨g, 0, none⟩) n cap)) hne).view (fun g' hg' e => by have := hS g' e; omega)
theorem rTxStore_any {S : Nat → Prop} {w : World} {b o cap : Nat} {vP : Value} {l : List Put} {ws : List UInt64} (h : View kU S w (.slice (some ⟨b, o, none⟩) ws.length cap) ws) (h2 : View kP S w vP l) (hS : ∀ k, S k → k < w.heap.size) (hsm : l.length < 4294967296)
    (off v : UInt64) (x y : Int) (hx : x = (off.toNat : Int)) (hy : y = (v.toNat : Int)) :
    Calls Tryz.prog 131 #[.agg #[.slice (some ⟨b, o, none⟩) ws.length cap, vP], .int .u64 x, .int .u64 y] w fun e w' =>
      ∃ vP', e = .returned (.agg #[.slice (some ⟨b, o, none⟩) ws.length cap, vP']) ∧ View kP S w' vP' (txStore ws l off v) ∧ Keeps Nil w w' := by
  subst hx hy
  obtain ⟨a2, cap2, hv, hlm⟩ := h2.val
  obtain ⟨w2, hw2⟩ : ∃ w2, w2 = (w.alloc (.cells #[.slice (some ⟨b, o, none⟩) ws.length cap, .slice a2 l.length cap2] 71)).alloc (.cells #[.slice none 0 0, .slice none 0 0] 71) := ⟨_, rfl⟩
  have hK : Keeps Nil w w2 := by rw [hw2]; exact ((Keeps.refl Nil w).alloc _).alloc _
  have hsz : w2.heap.size = w.heap.size + 2 := by rw [hw2]; simp
  have hmade : Own kP (w2.alloc (.cells #[] 108)) (w.heap.size + 2) (.slice (some ⟨w.heap.size + 2, 0, none⟩) 0 0) [] := by rw [← hsz]; exact Own.made kP w2 w2.heap.size (Nat.le_refl _)
  have hb1 : w2.heap[w.heap.size]? = some (.cells #[.slice (some ⟨b, o, none⟩) ws.length cap, .slice a2 l.length cap2] 71 (0, 0)) := by rw [hw2]; exact heap_old _ _ (heap_new w _)
  have hb2 : w2.heap[w.heap.size + 1]? = some (.cells #[.slice none 0 0, .slice none 0 0] 71 (0, 0)) := by
    rw [hw2]; simpa using heap_new (w.alloc (.cells #[.slice (some ⟨b, o, none⟩) ws.length cap, .slice a2 l.length cap2] 71)) (.cells #[.slice none 0 0, .slice none 0 0] 71)
  have hv1 := h.keeps_nil hK
  have hv2 := h2.keeps_nil hK
  have HR := qH (rLoad_any hv1 off _ rfl)
  have c0 : w2.cell? ⟨w.heap.size, 0, none⟩ = some (.slice (some ⟨b, o, none⟩) ws.length cap) := by simp [World.cell?, hb1]
  have c1 : w2.cell? ⟨w.heap.size, 1, none⟩ = some (.slice a2 l.length cap2) := by simp [World.cell?, hb1]
  have d0 : w2.cell? ⟨w.heap.size + 1, 0, none⟩ = some (.slice none 0 0) := by simp [World.cell?, hb2]
  have d1 : w2.cell? ⟨w.heap.size + 1, 1, none⟩ = some (.slice none 0 0) := by simp [World.cell?, hb2]
  have f0 : w2.frozen? ⟨w.heap.size + 1, 0, none⟩ = false := by simp [World.frozen?, hb2]
  have f1 : w2.frozen? ⟨w.heap.size + 1, 1, none⟩ = false := by simp [World.frozen?, hb2]
  have HW := qH hw2
  have HB := qH (And.intro hb1 hb2)
  clear hw2 hb1 hb2
  cases hin : inB ws off with
  | false =>
    have e1 : errV ws off = 1 := by simp [errV, hin]
    rw [e1] at HR
    have HI := qH hin
    subst hv
    clear e1 hin
    go_enter Tryz.func131, Tryz.ntmps131
    go_wp2_with fail
    rw [← HW.out]
    refine HR.out.mono ?_
    rintro e w' ⟨rfl, rfl⟩
    go_wp2_with fail
    have hfb := heap_setCell_eq (heap_setCell_eq HB.out.2 0 (.slice (some ⟨b, o, none⟩) ws.length cap)) 1 (.slice a2 l.length cap2)
    have hKf : Keeps Nil w ((w2.setCell ⟨w.heap.size + 1, 0, none⟩ (.slice (some ⟨b, o, none⟩) ws.length cap)).setCell ⟨w.heap.size + 1, 1, none⟩ (.slice a2 l.length cap2)) := (hK.setNew (by simp) _).setNew (by simp) _
    refine bodyPost_ret (results_row rfl rfl hfb Tryz.underlying71 rfl (by kernel_rfl)) rfl ?_
    exact ⟨_, rfl, by simpa [txStore, HI.out] using h2.keeps_nil hKf, hKf⟩
  | true =>
    have e1 : errV ws off = 0 := by simp [errV, hin]
    rw [e1] at HR
    have HI := qH hin
    clear e1 hin
    cases hl : loadP l off with
    | none =>
      have HL := qH (And.intro hl (atI_none hl 0))
      have HV := qH (And.intro h hv2)
      by_cases hp : 0 < l.length
      · obtain ⟨b2, o2, cap3, hv2', hc, hm, hb, _, hcell⟩ := h2.pos hp
        rw [hv2'] at hv
        simp only [Value.slice.injEq, true_and] at hv
        obtain ⟨rfl, rfl⟩ := hv
        subst hv2'
        have hv3 : View kP S (w2.alloc (.cells #[] 108)) (.slice (some ⟨b2, o2, none⟩) l.length cap3) l := hv2.keeps_nil ((Keeps.refl Nil w2).alloc _)
        have hwz : (0 + l.length) * kP.bytes ≤ 140737488355328 := by show (0 + l.length) * 16 ≤ _; omega
        clear hl hcell
        go_enter Tryz.func131, Tryz.ntmps131
        go_wp2_with fail
        rw [← HW.out]
        refine HR.out.mono ?_
        rintro e w' ⟨rfl, rfl⟩
        go_wp2_with (at_builtin; refine wpList_append_all kP rfl _ _ rfl hmade rfl rfl hv3 hp hwz (by simp; omega) (by decide) ?_; rintro _ w3 hown3 hK3 ⟨g, cap4, rfl, hg⟩; obtain ⟨c0, c1, d0, d1, f0, f1, HK3⟩ := copy_facts hsz HB.out hK3; have hgb := (hown3.block (k := g) rfl).1; clear hK3)
        refine (at_any (b := b) (o := o) (cap := cap) (n := ws.length) (HV.out.2.keeps_nil HK3.out.1) off _ rfl).mono ?_
        rintro e w4 ⟨rfl, hK4⟩
        rw [HL.out.2]
        obtain ⟨x0, x1, y0, y1, z0, z1, HX⟩ := box_facts HK3.out.2 hK4
        have hown4 : Own kP w4 (w.heap.size + 2) (.slice (some ⟨g, 0, none⟩) l.length cap4) l := by simpa using hown3.keeps_nil hK4
        have HK4 := qH hK4
        have hsz4 : w.heap.size + 2 ≤ w4.heap.size := by have := hK4.size; have := HK3.out.1.size; omega
        clear hK4 c0 c1 d0 d1 f0 f1
        go_wp2_with (at_builtin; refine wpList_append_put rfl _ _ rfl l.length rfl hown4 rfl (off, v) _ _ rfl rfl rfl hsm hsz4 ?_; rintro _ w5 hown5 hK5 ⟨g5, cap5, rfl, hg5⟩; obtain ⟨x0, x1, y0, y1, z0, z1, H5⟩ := app_facts HX.out hK5 hgb)
        have hgb5 := (hown5.block (k := g5) rfl).1
        exact store_end rfl rfl H5.out.2.2 (by simpa using hown5) ((hK.trans' (HK3.out.1.trans' HK4.out)).trans H5.out.1 (fun i hi e => by omega)) hS hgb5 (Keeps.refl _ _) (by simp [txStore, HI.out, storeP_new HL.out.1])
      · obtain rfl : l = [] := List.eq_nil_of_length_eq_zero (by omega)
        subst hv
        clear hl hp
        go_enter Tryz.func131, Tryz.ntmps131
        go_wp2_with fail
        have HW' := HW.out
        simp only [List.length_nil] at HW'
        rw [← HW']
        clear HW'
        refine HR.out.mono ?_
        rintro e w' ⟨rfl, rfl⟩
        go_wp2_with (at_builtin; refine wpList_append_zero kP rfl _ _ rfl hmade rfl _ _ rfl ?_)
        have hK3 : Keeps Nil w2 (w2.alloc (.cells #[] 108)) := (Keeps.refl Nil w2).alloc _
        refine (at_any (b := b) (o := o) (cap := cap) (n := ws.length) (HV.out.2.keeps_nil hK3) off _ rfl).mono ?_
        rintro e w4 ⟨rfl, hK4⟩
        rw [HL.out.2]
        obtain ⟨x0, x1, y0, y1, z0, z1, HX⟩ := box_facts HB.out (hK3.trans' hK4)
        have hown4 := hmade.keeps_nil hK4
        have HK4 := qH (hK3.trans' hK4)
        have hsz4 : w.heap.size + 2 ≤ w4.heap.size := by have := (hK3.trans' hK4).size; omega
        have hgb : w.heap.size + 2 ≤ w.heap.size + 2 := Nat.le_refl _
        clear hK4 c0 c1 d0 d1 f0 f1 hK3
        go_wp2_with (at_builtin; refine wpList_append_put rfl _ _ rfl 0 rfl hown4 rfl (off, v) _ _ rfl rfl rfl (by omega) hsz4 ?_; rintro _ w5 hown5 hK5 ⟨g5, cap5, rfl, hg5⟩; obtain ⟨x0, x1, y0, y1, z0, z1, H5⟩ := app_facts HX.out hK5 hgb)
        have hgb5 := (hown5.block (k := g5) rfl).1
        exact store_end rfl rfl H5.out.2.2 (by simpa using hown5) ((hK.trans' HK4.out).trans H5.out.1 (fun i hi e => by omega)) hS hgb5 (Keeps.refl _ _) (by simp [txStore, HI.out, storeP_new HL.out.1])
    | some u =>
      obtain ⟨j, h1, h2', h3, h4⟩ := atI_some hl 0
      obtain ⟨b2, o2, cap3, hv2', hc, hm, hb, _, hcell⟩ := h2.pos (by omega)
      rw [hv2'] at hv
      simp only [Value.slice.injEq, true_and] at hv
      obtain ⟨rfl, rfl⟩ := hv
      subst hv2'
      have hv3 : View kP S (w2.alloc (.cells #[] 108)) (.slice (some ⟨b2, o2, none⟩) l.length cap3) l := hv2.keeps_nil ((Keeps.refl Nil w2).alloc _)
      have hwz : (0 + l.length) * kP.bytes ≤ 140737488355328 := by show (0 + l.length) * 16 ≤ _; omega
      have hwp : 0 < l.length := by omega
      have HL := qH (And.intro hl (And.intro h2' (And.intro h3 h4)))
      have HV := qH (And.intro h hv2)
      clear hl h2' h3 h4 hcell
      go_enter Tryz.func131, Tryz.ntmps131
      go_wp2_with fail
      rw [← HW.out]
      refine HR.out.mono ?_
      rintro e w' ⟨rfl, rfl⟩
      go_wp2_with (at_builtin; refine wpList_append_all kP rfl _ _ rfl hmade rfl rfl hv3 hwp hwz (by simp; omega) (by decide) ?_; rintro _ w3 hown3 hK3 ⟨g, cap4, rfl, hg⟩; obtain ⟨c0, c1, d0, d1, f0, f1, HK3⟩ := copy_facts hsz HB.out hK3; clear hK3)
      have hV3 := HV.out.2.keeps_nil HK3.out.1
      refine (at_any (b := b) (o := o) (cap := cap) (n := ws.length) hV3 off _ rfl).mono ?_
      rintro e w4 ⟨rfl, hK4⟩
      rw [HL.out.2.1, Int.zero_add]
      obtain ⟨q1, q2, ⟨q3, q4⟩, Q⟩ := hit_facts (hown3.keeps_nil hK4) HL.out.2.2.1
      obtain ⟨x0, x1, y0, y1, z0, z1, HX⟩ := box_facts HK3.out.2 hK4
      have HK4 := qH hK4
      have hgb := (hown3.block (k := g) rfl).1
      have n1 : (g = w.heap.size) = False := by simp; omega
      have n2 : (w.heap.size = g) = False := by simp; omega
      have n3 : (g = w.heap.size + 1) = False := by simp; omega
      have n4 : (w.heap.size + 1 = g) = False := by simp; omega
      clear hK4 c0 c1 d0 d1 f0 f1
      go_wp2_with fail
      have hOwn := Q.out.setP j (off, v) (by omega)
      have hKw : Keeps Nil w w4 := hK.trans' (HK3.out.1.trans' HK4.out)
      exact store_end rfl rfl HX.out.2 hOwn hKw hS hgb ((keeps_setCell w4 ⟨g, j * 2, none⟩ _).trans' (keeps_setCell _ ⟨g, j * 2 + 1, none⟩ _)) (by simp [txStore, HI.out, HL.out.2.2.2])
theorem eqFields_one {d : Nat} {xs ys : Array Value} {f : Field} {fs : List Field} {a b : Value} {r s : Bool} {w : World} (hn : f.name ≠ "_") (ha : (part f.type xs f.offset).run Tryz.prog w = .ok a w) (hb : (part f.type ys f.offset).run Tryz.prog w = .ok b w)
  (he : (Op.equalIn d f.type a b).run Tryz.prog w = .ok r w) (hr : (Op.eqFields d xs ys fs).run Tryz.prog w = .ok s w) : (Op.eqFields d xs ys (f :: fs)).run Tryz.prog w = .ok (r && s) w := by
 rw [Op.eqFields]
 simp only [if_pos hn, Sem.run_bind, ha, hb, he, Result.andThen_ok]
 cases r
 · simp
 · simpa using hr
theorem eqFields_none {d : Nat} {xs ys : Array Value} {w : World} : (Op.eqFields d xs ys []).run Tryz.prog w = .ok true w := by simp [Op.eqFields]
theorem equalIn_fields {d : Nat} {xs ys : Array Value} {r : Bool} {w : World} {t : TypeId} {fs : Array Field} (hu : Tryz.prog.underlying t = some (.struct fs)) (hp : Tryz.prog.stoodInHeld t = false) (h : (Op.eqFields d xs ys fs.toList).run Tryz.prog w = .ok r w) : (Op.equalIn (d + 1) t (.agg xs) (.agg ys)).run Tryz.prog w = .ok r w := by
 have hf : Tryz.prog.fieldsOf t = fs := by simp [Program.fieldsOf, hu]
 rw [run_equalIn_struct (P := Tryz.prog) w d t xs ys (by rw [hf]; exact hu) hp, hf]
 exact h
theorem equalIn_int {d : Nat} {t : TypeId} {k : IntKind} {a b : Int} {w : World} (h : Tryz.prog.underlying t = some (.int k)) : (Op.equalIn (d + 1) t (.int k a) (.int k b)).run Tryz.prog w = .ok (a == b) w := by
  simp [Op.equalIn, run_underlying h]
theorem equalIn_bool {d : Nat} {t : TypeId} {a b : Bool} {w : World} (h : Tryz.prog.underlying t = some .bool) : (Op.equalIn (d + 1) t (.bool a) (.bool b)).run Tryz.prog w = .ok (a == b) w := by
 simp [Op.equalIn, run_underlying h]
end

end Go.Proofs.YtefpbljekfkefaaGreat
