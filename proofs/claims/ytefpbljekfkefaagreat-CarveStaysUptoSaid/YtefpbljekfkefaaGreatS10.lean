/- StB, Pr1, PhysWalk, Blocks: written short. -/
import Derived.Test.YtefpbljekfkefaaGreatS07
import Derived.Test.YtefpbljekfkefaaGreatS09
import Derived.Test.YtefpbljekfkefaaGreatS01
import Derived.Test.YtefpbljekfkefaaGreatS08
import Derived.Test.YtefpbljekfkefaaGreatS05
set_option maxRecDepth 100000
set_option maxHeartbeats 8000000
namespace Go.Proofs.YtefpbljekfkefaaGreat
section
open Go.RowKit
def Bx (w : World) (S : Nat → Prop) (B : Nat) (c : Array Value) (T : TypeId) : Prop := w.heap[B]? = some (.cells c T (0, 0)) ∧ ¬ S B
section
variable {w w' : World} {S S' : Nat → Prop} {B : Nat} {c : Array Value} {T : TypeId}
theorem Bx.steps (h : Bx w S B c T) (k : Step S S' w w') : Bx w' S' B c T := ⟨k.at h.1 h.2, k.out (getElem?_lt h.1) h.2⟩
theorem Bx.nil (h : Bx w S B c T) (k : Keeps Nil w w') : Bx w' S B c T := h.steps (Step.of_nil k)
theorem Bx.new (hS : ∀ k, S k → k < w.heap.size) (c : Array Value) (T : TypeId) (hB : B = w.heap.size) : Bx (w.alloc (.cells c T)) S B c T := by
 subst hB
 exact ⟨heap_new w _, fun e => Nat.lt_irrefl _ (hS _ e)⟩
theorem Bx.cell (h : Bx w S B c T) (o : Nat) (v : Value) (hv : c[o]? = some v) : w.cell? ⟨B, o, none⟩ = some v := by
 have h1 := h.1
 simp [World.cell?, h1, hv]
theorem Bx.frz (h : Bx w S B c T) (o : Nat) : w.frozen? ⟨B, o, none⟩ = false := by
 have h1 := h.1
 simp [World.frozen?, h1]
theorem Bx.lt (h : Bx w S B c T) : B < w.heap.size := getElem?_lt h.1
theorem Bx.set (h : Bx w S B c T) (o : Nat) (v : Value) : Bx (w.setCell ⟨B, o, none⟩ v) S B (c.setIfInBounds o v) T := ⟨heap_setCell_eq h.1 o v, h.2⟩
theorem Bx.other {B' : Nat} (h : Bx w S B c T) (hne : B ≠ B') (o : Nat) (v : Value) : Bx (w.setCell ⟨B', o, none⟩ v) S B c T := ⟨heap_setCell_ne h.1 _ _ hne, h.2⟩
theorem Bx.drew (h : Bx w S B c T) : Bx w.drew S B c T := h
theorem Step.set {S0 : Nat → Prop} {wE : World} (h : Step S0 S wE w) (hB : wE.heap.size ≤ B) (o : Nat) (v : Value) : Step S0 S wE (w.setCell ⟨B, o, none⟩ v) :=
  ⟨h.keeps.trans (keeps_setCell w ⟨B, o, none⟩ v) (fun i hi e => by simp only at e; omega), h.grow⟩
theorem Step.alloc {S0 : Nat → Prop} {wE : World} (h : Step S0 S wE w) (o : Obj) : Step S0 S wE (w.alloc o) := h.nil ((Keeps.refl Nil w).alloc o)
theorem Step.drew {S0 : Nat → Prop} {wE : World} (h : Step S0 S wE w) : Step S0 S wE w.drew := h.nil (keeps_drew w)
theorem alloc_keeps (w : World) (o : Obj) : Keeps Nil w (w.alloc o) := (Keeps.refl Nil w).alloc o
end
theorem Bx.own {α : Type} {K : Kind α} {w w' : World} {B base : Nat} {c : Array Value} {T : TypeId} {v : Value} {l : List α} (h : Bx w Nil B c T) (_ : Own K w base v l) (k : Keeps (fun k => v.ownBlock = some k) w w') (hne : v.ownBlock ≠ some B) : Bx w' Nil B c T := ⟨k.at h.1 hne, fun e => e⟩
theorem Step.own {α : Type} {K : Kind α} {wE w w' : World} {base : Nat} {v : Value} {l : List α} (h : Step Nil Nil wE w) (ho : Own K w base v l) (hb : wE.heap.size ≤ base) (k : Keeps (fun k => v.ownBlock = some k) w w') : Step Nil Nil wE w' :=
  Step.of_nil (h.keeps.trans k (fun i hi e => by have := (ho.block e).1; omega))
theorem own_ne_old {α : Type} {K : Kind α} {w : World} {base B : Nat} {v : Value} {l : List α} (ho : Own K w base v l) (h : B < base) : v.ownBlock ≠ some B := fun e => by have := (ho.block e).1; omega
theorem own_ne_new {v : Value} {B : Nat} (h : ∀ g, v.ownBlock = some g → g < B) : v.ownBlock ≠ some B := fun e => Nat.lt_irrefl _ (h _ e)
theorem Nil.lt {w : World} : ∀ k, Nil k → k < w.heap.size := fun _ e => e.elim
def TxF (w : World) (t : Nat) (f : UInt64 → UInt64) (n : Nat) (S : Nat → Prop) : Prop := ∃ s l ws, Mem w s t l ws S ∧ txLoad ws l = f ∧ 8 * ws.length = n ∧ GoodP ws l
section
variable {w w' : World} {S S' : Nat → Prop} {t n : Nat} {f : UInt64 → UInt64}
theorem TxF.lt (h : TxF w t f n S) : ∀ k, S k → k < w.heap.size := by
 obtain ⟨s, l, ws, m, _⟩ := h
 exact fun k e => m.lt e
theorem TxF.nil (h : TxF w t f n S) (k : Keeps Nil w w') : TxF w' t f n S := by
 obtain ⟨s, l, ws, m, r⟩ := h
 exact ⟨s, l, ws, m.keeps_nil k, r⟩
theorem TxF.set {B : Nat} (h : TxF w t f n S) (hB : ¬ S B) (o : Nat) (v : Value) : TxF (w.setCell ⟨B, o, none⟩ v) t f n S := by
 obtain ⟨s, l, ws, m, r⟩ := h
 exact ⟨s, l, ws, m.keeps (keeps_setCell w _ _) (fun g hg e => hB (by simp only at e; rw [← e]; exact hg)), r⟩
theorem TxF.small (h : TxF w t f n S) : n ≤ 1048576 ∧ 0 < n ∧ n % 8 = 0 := by
 obtain ⟨s, l, ws, m, _, r, _⟩ := h
 have := m.seg
 omega
theorem TxF.reads (h : TxF w t f n S) : Reads (.pointer (some ⟨t, 0, none⟩)) f n w := by
 obtain ⟨s, l, ws, m, rfl, rfl, _⟩ := h
 exact m.reads
theorem TxF.readsK (h : TxF w t f n S) : ReadsK S (.pointer (some ⟨t, 0, none⟩)) f n w := by
 obtain ⟨s, l, ws, m, rfl, rfl, _⟩ := h
 exact m.readsK
theorem txLoad_stF {ws : List UInt64} {l : List Put} (off v : UInt64) : txLoad ws (txStore ws l off v) = PT.stF (8 * ws.length) (txLoad ws l) off v := by
 unfold txStore PT.stF
 by_cases h : inB ws off = true
 ·have h' := inB_iff.1 h
  rw [if_pos h, if_pos h']
  funext o
  unfold txLoad PT.upd
  rw [loadP_store]
  by_cases e : o = off
  · rw [if_pos e, if_pos e]; rfl
  · rw [if_neg e, if_neg e]
 ·rw [if_neg h, if_neg (fun e => h (inB_iff.2 e))]
theorem TxF.store (h : TxF w t f n S) (off v : UInt64) (x y : Int) (hx : x = (off.toNat : Int)) (hy : y = (v.toNat : Int)) :
  Calls Tryz.prog 36 #[.pointer (some ⟨t, 0, none⟩), .int .u64 x, .int .u64 y] w fun e w' => e = .returned (.tuple #[]) ∧ ∃ S', TxF w' t (PT.stF n f off v) n S' ∧ Step S S' w w' := by
 obtain ⟨s, l, ws, m, rfl, rfl, hg⟩ := h
 have hs := m.seg
 have hl := good_length hg
 refine (m.store off v (by omega) x y hx hy).mono ?_
 rintro e w' ⟨rfl, S', m', st⟩
 exact ⟨rfl, S', ⟨s, _, ws, m', txLoad_stF off v, rfl, hg.store off v⟩, st⟩
theorem Live.txF {w0 : World} {s : Nat} {l : List Put} {ws : List UInt64} {R : World → (Nat → Prop) → Prop} (h : Live w0 w s t l ws R) (hg : GoodP ws l) : ∃ S, TxF w t (txLoad ws l) (8 * ws.length) S ∧ Step Nil S w0 w ∧ R w S := by
 obtain ⟨S, h1, h2, h3, h4⟩ := h
 exact ⟨S, ⟨s, l, ws, h1, rfl, rfl, hg⟩, ⟨h3, fun k e => .inr (h2 k e)⟩, h4⟩
end
theorem Reads.loadC {T : Value} {f : UInt64 → UInt64} {n : Nat} {w : World} (h : Reads T f n w) (off : UInt64) (x : Int) (hx : x = (off.toNat : Int)) :
    Calls Tryz.prog 29 #[T, .int .u64 x] w fun e w' => e = .returned (.int .u64 ↑(f off).toNat) ∧ Keeps Nil w w' := h.load w (Keeps.refl _ _) off x hx
end
section
open Go.RowKit
section
variable {w W W' : World} {A S S' : Nat → Prop} {B C : Nat} {c : Array Value} {T : TypeId}
theorem zB (h : Hid (W = W')) (x : Bx W' S B c T) : Hid (Bx W S B c T) := by rw [h.out]; exact x
theorem zC {d : Array Value} (h : Hid (W = W')) (x : Bx W' S B c T) (e : c = d := by simp only [sP] <;> rfl) : Hid (Bx W S B d T) := by rw [h.out, ← e]; exact x
theorem zS (h : Hid (W = W')) (x : Step A S w W') : Hid (Step A S w W) := by rw [h.out]; exact x
theorem bN (h : Hid (Bx W S B c T)) (k : Keeps Nil W W') : Hid (Bx W' S B c T) := h.out.nil k
theorem bS (h : Hid (Bx W S B c T)) (k : Step S S' W W') : Hid (Bx W' S' B c T) := h.out.steps k
theorem sN (h : Hid (Step A S w W)) (k : Keeps Nil W W') : Hid (Step A S w W') := h.out.nil k
theorem sT (h : Hid (Step A S w W)) (k : Step S S' W W') : Hid (Step A S' w W') := h.out.trans k
theorem gZ (e : B = W.heap.size) (h : Hid (Step A S w W)) : Hid (w.heap.size ≤ B) := by rw [e]; exact h.out.keeps.size
theorem nZ (e : C = W.heap.size) (h : Hid (Bx W S B c T)) : Hid (B < C) := by rw [e]; exact h.out.lt
theorem kA {o : Obj} (h : Hid (W' = W.alloc o)) : Keeps Nil W W' := by rw [h.out]; exact (Keeps.refl Nil W).alloc o
theorem kD (h : Hid (W' = W.drew)) : Keeps Nil W W' := by rw [h.out]; exact keeps_drew _
theorem cB (h : Hid (Bx W S B c T)) (o : Nat) {v : Value} (hv : c[o]? = some v := by exact rfl) : W.cell? ⟨B, o, none⟩ = some v := h.out.cell o v hv
theorem nG (h : Hid (B < C)) : (C = B) = False := eq_false (Nat.ne_of_gt h.out)
theorem nH (h : Hid (B < C)) : (B = C) = False := eq_false (Nat.ne_of_lt h.out)
theorem eX {o : Nat} {v : Value} (h : Hid (Step Nil S w W)) (hg : Hid (B < w.heap.size)) (e : w.cell? ⟨B, o, none⟩ = some v) : W.cell? ⟨B, o, none⟩ = some v := (h.out.keeps.cell hg.out (fun e => e) _).trans e
end
end
section
open Go.RowKit Go.Shelf
attribute [local go_sem] Oper.semAt_some
def walkB (N : Nat) (f : UInt64 → UInt64) : Bool := chkB N f && (walkF f).isSome
def walkL (N : Nat) (f : UInt64 → UInt64) : List BlockV := if walkB N f then (walkF f).getD [] else []
def WI (w w0 : World) (n B : Nat) (pre : List Item) (W : World) : Prop :=
 (∃ v, W.heap[B]? = some (.cells #[v] 44 (0, 0)) ∧ Own kB W w0.heap.size v (pre.map (·.1))) ∧
 W.heap[n]? = some (.cells #[.slice none 0 0] 44 (0, 0)) ∧ W.heap[n + 1]? = some (.cells #[.int .i64 0] 41 (0, 0)) ∧ Keeps Nil w W ∧ w0.heap.size ≤ W.heap.size ∧ ∀ x ∈ pre, x.2 = true
def WX (w : World) (n : Nat) (pre : List Item) (W : World) : Prop :=
 W.heap[n]? = some (.cells #[.slice none 0 0] 44 (0, 0)) ∧ W.heap[n + 1]? = some (.cells #[.int .i64 12] 41 (0, 0)) ∧ Keeps Nil w W ∧ ∃ ys b, pre = ys ++ [(b, false)]
theorem Walk_no {a : Option Addr} {f : UInt64 → UInt64} {N : Nat} {w : World} (h : Reads (.pointer a) f N w) (hc : chkE N f ≠ 0) :
  Calls Tryz.prog 31 #[.pointer a] w fun e w' => e = .returned (.tuple #[.slice none 0 0, .int .i64 (chkE N f)]) ∧ Keeps Nil w w' := by
 obtain ⟨c, hcc⟩ : ∃ c, c = chkE N f := ⟨_, rfl⟩
 rw [← hcc] at hc ⊢
 obtain ⟨n, hn⟩ : ∃ n, n = w.heap.size := ⟨_, rfl⟩
 obtain ⟨w0, hw0⟩ : ∃ w0, w0 = (w.alloc (.cells #[.slice none 0 0] 44)).alloc (.cells #[.int .i64 0] 41) := ⟨_, rfl⟩
 have k0 : Keeps Nil w w0 := by rw [hw0]; exact ((Keeps.refl Nil _).alloc _).alloc _
 have b0 : w0.heap[n]? = some (.cells #[.slice none 0 0] 44 (0, 0)) := by rw [hw0, hn]; exact heap_old _ _ (heap_new _ _)
 have b1 : w0.heap[n + 1]? = some (.cells #[.int .i64 0] 41 (0, 0)) := by
  rw [hw0, hn]; simpa using heap_new (w.alloc (.cells #[.slice none 0 0] 44)) (.cells #[.int .i64 0] 41)
 have hd : (c != 0) = true := by simpa using hc
 have H := qH (And.intro (h.keeps k0) (And.intro k0 (And.intro b0 (And.intro b1 hcc))))
 have HW := qH hw0
 have HN := qH hn
 clear h hc k0 b0 b1 hw0 hn hcc
 go_enter Tryz.func31, Tryz.ntmps31
 go_wp2_with fail
 rw [← HW.out, ← HN.out]
 refine (hCheck_any H.out.1).mono ?_
 rintro _ w1 ⟨rfl, k1⟩
 rw [← H.out.2.2.2.2]
 have b0 := k1.at H.out.2.2.1 (fun e => e)
 have b1 := k1.at H.out.2.2.2.1 (fun e => e)
 have c0 := cell_of_one b0
 have c1 := cell_of_one b1
 have f0 := frz b0 0
 have f1 := frz b1 0
 have HK := qH (And.intro (H.out.2.1.trans' k1) (And.intro b0 b1))
 clear k1 b0 b1
 go_wp2_with fail
 have g1 : Keeps Nil w (w1.setCell ⟨n, 0, none⟩ (.slice none 0 0)) := HK.out.1.setNew (a := ⟨n, 0, none⟩) (by rw [HN.out]; exact Nat.le_refl _) _
 have g2 := g1.setNew (a := ⟨n + 1, 0, none⟩) (by rw [HN.out]; exact Nat.le_succ _) (.int .i64 c)
 have e0 : ((w1.setCell ⟨n, 0, none⟩ (.slice none 0 0)).setCell ⟨n + 1, 0, none⟩ (.int .i64 c)).cell? ⟨n, 0, none⟩ = some (.slice none 0 0) :=
  cell_of_one (heap_setCell_ne (by simpa using heap_setCell_eq HK.out.2.1 0 (.slice none 0 0)) _ _ (by simp))
 have e1 : ((w1.setCell ⟨n, 0, none⟩ (.slice none 0 0)).setCell ⟨n + 1, 0, none⟩ (.int .i64 c)).cell? ⟨n + 1, 0, none⟩ = some (.int .i64 c) :=
  cell_of_one (by simpa using heap_setCell_eq (heap_setCell_ne HK.out.2.2 ⟨n, 0, none⟩ (.slice none 0 0) (by simp)) 0 (.int .i64 c))
 refine bodyPost_ret (results_cell2 rfl rfl rfl (loadVar_slice e0) (loadVar_errno e1)) rfl ?_
 exact ⟨rfl, g2⟩
def WA (w0 : World) (n B : Nat) (a : Option Addr) (Bt : Nat) (x : Item) (a' : Act) (W : World) : Prop :=
  ∃ Bx, w0.heap.size ≤ Bx ∧ W.heap[Bx]? = some (.cells x.1.cells 37 (0, 0)) ∧
    a' = { tmps := #[.pointer a, undef, .pointer (some ⟨n, 0, none⟩), .pointer (some ⟨n + 1, 0, none⟩), .int .i64 0, .pointer (some ⟨B, 0, none⟩), .pointer (some ⟨Bx, 0, none⟩), .int .i64 (codeOf x.2), .pointer a, .int .i64 0, .int .i64 0, .bool false, undef, .pointer a, .func (.func 141) #[] #[.pointer (some ⟨Bt, 0, none⟩)], .agg x.1.cells, .int .i64 (codeOf x.2), undef, undef, undef, undef, undef, undef, undef, undef], defers := [] }
theorem WI.own {w w0 : World} {n B D0 : Nat} (hD : w.heap.size ≤ D0) : OwnFrom D0 (WI w w0 n B) := fun pre W W' row hs hg hr => by
 obtain ⟨⟨v, h1, h2⟩, h3, h4, h5, h6, h7⟩ := hs
 have hr' := fun r e => (hr r e).2
 exact ⟨⟨v, cells_grown h1 hg hr', h2.grown hg hr'⟩, cells_grown h3 hg hr', cells_grown h4 hg hr', h5.record hg (fun r e => (hr r e).1) hD, Nat.le_trans h6 hg.size, h7⟩
theorem WX.own {w : World} {n D0 : Nat} (hD : w.heap.size ≤ D0) : OwnFrom D0 (WX w n) := fun pre W W' row hs hg hr => by
 obtain ⟨h3, h4, h5, h6⟩ := hs
 have hr' := fun r e => (hr r e).2
 exact ⟨cells_grown h3 hg hr', cells_grown h4 hg hr', h5.record hg (fun r e => (hr r e).1) hD, h6⟩
theorem WA.own {w0 : World} {n B Bt D0 : Nat} {a : Option Addr} (x : Item) (a' : Act) : OwnFrom D0 (fun (_ : Unit) W => WA w0 n B a Bt x a' W) := fun _ W W' row hs hg hr => by
 obtain ⟨Bx, h1, h2, h3⟩ := hs
 exact ⟨Bx, h1, cells_grown h2 hg (fun r e => (hr r e).2), h3⟩
theorem store_wfB {α : Type} {K : Kind α} {v : Value} {l : List α} {w : World} {base : Nat} (h : Own K w base v l) : (v = .slice none 0 0 ∧ l = []) ∨ ∃ g cap, v = .slice (some ⟨g, 0, none⟩) l.length cap := by
 rcases h.2 with ⟨hv, h0⟩ | ⟨g, cap, cur, hv, _⟩
 · exact .inl ⟨hv, List.eq_nil_of_length_eq_zero h0⟩
 · exact .inr ⟨g, cap, hv⟩
theorem walk_round {w w0 W w3 : World} {n B g m cap : Nat} {v : Value} {pre : List Item} {y : BlockV} {D0 : Nat} {P : List BlockV} (hP : P = pre.map (·.1)) (h7 : ∀ x ∈ pre, x.2 = true)
  (h1 : W.heap[B]? = some (.cells #[v] 44 (0, 0))) (h2 : Own kB W w0.heap.size v P) (h3 : W.heap[n]? = some (.cells #[.slice none 0 0] 44 (0, 0))) (h4 : W.heap[n + 1]? = some (.cells #[.int .i64 0] 41 (0, 0)))
  (h5 : Keeps Nil w W) (h6 : w0.heap.size ≤ W.heap.size) (hown3 : Own kB w3 w0.heap.size (.slice (some ⟨g, 0, none⟩) m cap) (P ++ [y])) (hK : Keeps (fun k => v.ownBlock = some k) W w3)
  (d3 : w3.heap[B]? = some (.cells #[v] 44 (0, 0))) (hg : v.ownBlock = some g ∨ W.heap.size ≤ g) (hnB : n + 1 < B) (hwn : w.heap.size ≤ n) (hB0 : B < w0.heap.size) :
  KeepsFrom D0 W (w3.setCell ⟨B, 0, none⟩ (.slice (some ⟨g, 0, none⟩) m cap)) ∧ KeptBut w0.heap.size B W (w3.setCell ⟨B, 0, none⟩ (.slice (some ⟨g, 0, none⟩) m cap)) ∧ WI w w0 n B (pre ++ [(y, true)]) (w3.setCell ⟨B, 0, none⟩ (.slice (some ⟨g, 0, none⟩) m cap)) := by
 have hset := keeps_setCell w3 ⟨B, 0, none⟩ (.slice (some ⟨g, 0, none⟩) m cap)
 have hall : Keeps (fun k => v.ownBlock = some k ∨ k = B) W (w3.setCell ⟨B, 0, none⟩ (.slice (some ⟨g, 0, none⟩) m cap)) :=
  (hK.mono (fun _ _ e => .inl e)).trans hset (fun _ _ e => .inr e)
 have hB' : (w3.setCell ⟨B, 0, none⟩ (.slice (some ⟨g, 0, none⟩) m cap)).heap[B]? = some (.cells #[.slice (some ⟨g, 0, none⟩) m cap] 44 (0, 0)) := by simpa using heap_setCell_same d3 0 (.slice (some ⟨g, 0, none⟩) m cap)
 have hgB : w0.heap.size ≤ g ∧ g < w3.heap.size := hown3.block (k := g) rfl
 have hvb : ∀ k, v.ownBlock = some k → w0.heap.size ≤ k := fun k e => (h2.block e).1
 have hOw : ∀ k, v.ownBlock = some k → OwnB B W k := fun k e => by
  rcases h2.2 with ⟨rfl, _⟩ | ⟨g', cap', cur, rfl, _⟩
  ·cases e
  ·simp only [Value.ownBlock, Option.some.injEq] at e; subst e
   exact .inr ⟨_, _, _, _, h1⟩
 have hcell : ∀ k o, v.ownBlock = some k ∨ k = B → W.heap[k]? = some o → o.isCells = true := fun k o hk ho => by
  rcases hk with hk | rfl
  ·rcases h2.2 with ⟨rfl, _⟩ | ⟨g', cap', cur, rfl, _, hh, _⟩
   · cases hk
   · simp only [Value.ownBlock, Option.some.injEq] at hk; subst hk; rw [hh] at ho; cases ho; rfl
  ·rw [h1] at ho; cases ho; rfl
 refine ⟨(KeepsOthers.of_keeps hall hcell).from _, ⟨hall.size, fun k o hk _ hn => hall.at hk (fun e => hn (e.elim (hOw k) (fun e => .inl e))), fun k hk hlt => ?_, fun hA k hk => ?_⟩,
  ⟨_, hB', ?_⟩, hall.at h3 (fun e => ?_), hall.at h4 (fun e => ?_), h5.trans hall (fun i hi e => ?_), Nat.le_trans h6 hall.size, fun x hx => by
   rcases List.mem_append.1 hx with hx | hx
   · exact h7 x hx
   · rw [List.mem_singleton.1 hx]⟩
 ·rcases hk with hk | ⟨m', c', T', f', hk⟩
  ·exact .inl hk
  ·rw [hB'] at hk
   simp only [Option.some.injEq, Obj.cells.injEq, Array.mk.injEq, List.cons.injEq, Value.slice.injEq, Addr.mk.injEq] at hk
   obtain ⟨⟨⟨⟨e, _⟩, _⟩, _⟩, _⟩ := hk
   rw [← e]
   rcases hg with hg | hg
   · exact hOw _ hg
   · omega
 ·rcases hk with hk | ⟨m', c', T', f', hk⟩
  ·rw [hk]; exact Nat.lt_of_lt_of_le (getElem?_lt h1) hall.size
  ·rw [hB'] at hk
   simp only [Option.some.injEq, Obj.cells.injEq, Array.mk.injEq, List.cons.injEq, Value.slice.injEq, Addr.mk.injEq] at hk
   obtain ⟨⟨⟨⟨e, _⟩, _⟩, _⟩, _⟩ := hk
   rw [← e]
   exact Nat.lt_of_lt_of_le hgB.2 hset.size
 ·rw [List.map_append, ← hP]
  exact hown3.keeps' hset (fun g' hg' e => by
   simp only [Value.ownBlock, Option.some.injEq] at hg'
   have : g' = B := e
   omega)
 ·rcases e with e | e
  ·have := hvb _ e; omega
  ·omega
 ·rcases e with e | e
  ·have := hvb _ e; omega
  ·omega
 ·rcases e with e | e
  ·have := hvb _ e; have := h2.block e; omega
  ·omega
theorem walk_fin {w W : World} {n D b : Nat} {v : Value} {l : List BlockV} (h2 : Own kB W b v l) (h3 : W.heap[n]? = some (.cells #[.slice none 0 0] 44 (0, 0))) (h4 : W.heap[n + 1]? = some (.cells #[.int .i64 0] 41 (0, 0)))
  (h5 : Keeps Nil w W) (hK : W.heap[D]? = some (.deferred (some []))) (hwn : w.heap.size ≤ n) (hnb : n + 1 < b) (hD : w.heap.size ≤ D) :
  ((
   (W.setCell ⟨n, 0, none⟩ v).setCell ⟨n + 1, 0, none⟩ (.int .i64 0)).putObj D (.deferred none)).cell? ⟨n, 0, none⟩ = some v ∧ (((W.setCell ⟨n, 0, none⟩ v).setCell ⟨n + 1, 0, none⟩ (.int .i64 0)).putObj D (.deferred none)).cell? ⟨n + 1, 0, none⟩ = some (.int .i64 0) ∧
   ((W.setCell ⟨n, 0, none⟩ v).setCell ⟨n + 1, 0, none⟩ (.int .i64 0)).heap[D]? = some (.deferred (some [])) ∧ Own kB (((W.setCell ⟨n, 0, none⟩ v).setCell ⟨n + 1, 0, none⟩ (.int .i64 0)).putObj D (.deferred none)) b v l ∧
   Keeps Nil w (((W.setCell ⟨n, 0, none⟩ v).setCell ⟨n + 1, 0, none⟩ (.int .i64 0)).putObj D (.deferred none)) := by
 have k1 := h5.setNew (a := ⟨n, 0, none⟩) hwn v
 have k2 := k1.setNew (a := ⟨n + 1, 0, none⟩) (by show w.heap.size ≤ n + 1; omega) (.int .i64 0)
 have hD0 : D ≠ n := fun e => by subst e; rw [hK] at h3; cases h3
 have hD1 : D ≠ n + 1 := fun e => by subst e; rw [hK] at h4; cases h4
 have hk : ((W.setCell ⟨n, 0, none⟩ v).setCell ⟨n + 1, 0, none⟩ (.int .i64 0)).heap[D]? = some (.deferred (some [])) := heap_setCell_ne (heap_setCell_ne hK _ _ hD0) _ _ hD1
 have g3 : ((W.setCell ⟨n, 0, none⟩ v).setCell ⟨n + 1, 0, none⟩ (.int .i64 0)).heap[n]? = some (.cells #[v] 44 (0, 0)) := heap_setCell_ne (by simpa using heap_setCell_eq h3 0 v) _ _ (by simp)
 have g4 : ((W.setCell ⟨n, 0, none⟩ v).setCell ⟨n + 1, 0, none⟩ (.int .i64 0)).heap[n + 1]? = some (.cells #[.int .i64 0] 41 (0, 0)) := by simpa using heap_setCell_eq (heap_setCell_ne h4 ⟨n, 0, none⟩ v (by simp)) 0 (.int .i64 0)
 have hO : Own kB ((W.setCell ⟨n, 0, none⟩ v).setCell ⟨n + 1, 0, none⟩ (.int .i64 0)) b v l := (h2.keeps' (keeps_setCell W ⟨n, 0, none⟩ v) (fun g hg e => by have := (h2.block hg).1; have : g = n := e; omega)).keeps' (keeps_setCell _ ⟨n + 1, 0, none⟩ _) (fun g hg e => by have := (h2.block hg).1; have : g = n + 1 := e; omega)
 have hr : ∀ r, some D = some r → ∃ o : Obj, ((W.setCell ⟨n, 0, none⟩ v).setCell ⟨n + 1, 0, none⟩ (.int .i64 0)).heap[r]? = some o ∧ o.isCells = false := fun r e => by cases e; exact ⟨_, hk, rfl⟩
 exact ⟨cell_of_one (cells_grown g3 (grown_put _ D _) hr), cell_of_one (cells_grown g4 (grown_put _ D _) hr), hk, hO.grown (grown_put _ D _) hr, k2.record (grown_put _ D _) (fun r e => by cases e; exact hD) (Nat.le_refl _)⟩
theorem Walk_yes {R : Nat → Prop} {a : Option Addr} {f : UInt64 → UInt64} {N : Nat} {w : World} (h : ReadsK R (.pointer a) f N w) (hR : ∀ k, R k → k < w.heap.size) (hc : chkB N f = true) (hsm : (f 16).toNat ≤ 1048576) :
    Calls Tryz.prog 31 #[.pointer a] w fun e w' => ∃ v, e = .returned (.tuple #[v, .int .i64 (codeOf (walkB N f))]) ∧ Own kB w' w.heap.size v (walkL N f) ∧ Keeps Nil w w' := by
  have hce : chkE N f = 0 := by unfold chkE; rw [hc]; rfl
  have hwb : walkB N f = (walkF f).isSome := by unfold walkB; rw [hc]; rfl
  obtain ⟨n, hn⟩ : ∃ n, n = w.heap.size := ⟨_, rfl⟩
  obtain ⟨wa, hwa⟩ : ∃ w0, w0 = (w.alloc (.cells #[.slice none 0 0] 44)).alloc (.cells #[.int .i64 0] 41) := ⟨_, rfl⟩
  have k0 : Keeps Nil w wa := by rw [hwa]; exact ((Keeps.refl Nil _).alloc _).alloc _
  have b0 : wa.heap[n]? = some (.cells #[.slice none 0 0] 44 (0, 0)) := by rw [hwa, hn]; exact heap_old _ _ (heap_new _ _)
  have b1 : wa.heap[n + 1]? = some (.cells #[.int .i64 0] 41 (0, 0)) := by
    rw [hwa, hn]; simpa using heap_new (w.alloc (.cells #[.slice none 0 0] 44)) (.cells #[.int .i64 0] 41)
  have H := qH (And.intro (h.keeps hR k0) (And.intro k0 (And.intro b0 (And.intro b1 hwb))))
  have HW := qH hwa
  have HN := qH hn
  have HC := qH (hCheck_any (h.keeps hR k0).reads)
  rw [hce] at HC
  have HR := qH hR
  clear h hc k0 b0 b1 hwa hn hwb hce hR
  refine (callsIn_wide (n := 4)).1 ?_
  refine callsIn_of_wp_marks Tryz.func31 rfl trivial ?_ rfl
  simp only [Tryz.ntmps31, List.size_toArray, List.length_cons, List.length_nil, Nat.reduceAdd, Nat.reduceSub, Array.replicate_succ, Array.replicate_zero, List.push_toArray, List.append_toArray, List.nil_append, List.cons_append]
  gi_wp2_with fail
  rw [← HW.out, ← HN.out]
  refine ⟨trivial, ?_⟩
  refine (callsIn_wide.2 HC.out).mono ?_
  rintro _ w1 ⟨rfl, k1⟩
  have b0 := k1.at H.out.2.2.1 (fun e => e)
  have b1 := k1.at H.out.2.2.2.1 (fun e => e)
  have HK := qH (And.intro (H.out.2.1.trans' k1) (And.intro b0 (And.intro b1 (H.out.1.keeps (fun k e => Nat.lt_of_lt_of_le (HR.out k e) H.out.2.1.size) k1))))
  clear k1 b0 b1 HC
  gi_wp2_with (refine ⟨trivial, ?_⟩; gi_at_call 85; refine (callsIn_wide.2 (physAll_any _ _)).mono ?_; rintro e w' ⟨rfl, rfl⟩)
  obtain ⟨B, hB⟩ : ∃ B, B = w1.heap.size := ⟨_, rfl⟩
  obtain ⟨w0, hw0⟩ : ∃ w0, w0 = (w1.alloc (.cells #[.slice none 0 0] 44)).alloc (.cells #[.pointer a] 24) := ⟨_, rfl⟩
  have k0 : Keeps Nil w1 w0 := by rw [hw0]; exact ((Keeps.refl Nil _).alloc _).alloc _
  have hbx : w0.heap[B]? = some (.cells #[.slice none 0 0] 44 (0, 0)) := by rw [hw0, hB]; exact heap_old _ _ (heap_new _ _)
  have hbt : w0.heap[B + 1]? = some (.cells #[.pointer a] 24 (0, 0)) := by
    rw [hw0, hB]; simpa using heap_new (w1.alloc (.cells #[.slice none 0 0] 44)) (.cells #[.pointer a] 24)
  have hsz : B + 2 ≤ w0.heap.size := by rw [hw0, hB]; simp
  rw [← hw0, ← hB]
  have hnB : n + 1 < B := by rw [hB]; exact getElem?_lt HK.out.2.2.1
  have hwn : w.heap.size ≤ n := by rw [HN.out]; exact Nat.le_refl _
  have hwB : w.heap.size < B := by omega
  have hK0 := HK.out.1.trans' k0
  have hT0 := HK.out.2.2.2.keeps (fun k e => Nat.lt_of_lt_of_le (HR.out k e) HK.out.1.size) k0
  have hb0 := k0.at HK.out.2.1 (fun e => e)
  have hb1 := k0.at HK.out.2.2.1 (fun e => e)
  have hR' : ∀ k, R k → k < B := fun k e => by have := HR.out k e; omega
  have hown0 : ∀ k, OwnB B w0 k → k = B := fun k e => by
    rcases e with e | ⟨m, c, T, f, e⟩
    · exact e
    · rw [hbx] at e; simp at e
  clear hw0 hB k0
  refine wpIn_rangeFunc_ownH rfl (by omega) (gf := 141) (lb := #[.pointer (some ⟨B + 1, 0, none⟩)]) rfl trivial (enters_of Tryz.func141 (by kernel_rfl) rfl)
    (physAll_stops (4 - 1) (by omega) (B + 1) w0.heap.size B (R := R) (T := .pointer a) (f := f) (N := N) hsm w0 ⟨by omega, by omega⟩ (fun k e => by rw [hown0 k e]; omega)
      (fun k e => ⟨by have := hR' k e; omega, by have := hR' k e; omega, fun e2 => by have := hR' k e; have := hown0 k e2; omega⟩) hbt ⟨by omega, fun e => by have := hown0 _ e; omega⟩ hT0)
    KeptBut.trans (fun W l o o' hl ho hc _ => KeptBut.put W l o o' (by omega) hl ho hc) (Below.refl _ _) (fun _ => rfl)
    (WI w w0 n B) (fun c pre W => c = .ret ∧ WX w n pre W) (WI.own (by omega)) (fun c pre W W' row hs hg hr => ⟨hs.1, WX.own (by omega) pre W W' row hs.2 hg hr⟩)
    ⟨⟨_, hbx, Own.nil _ _ _⟩, hb0, hb1, hK0, Nat.le_refl _, fun _ h => by simp at h⟩ (WA w0 n B a (B + 1)) WA.own ?assign ?body ?done ?stop
  case assign =>
    clear hown0 hR' hbx hbt hT0 hb0 hb1 hK0
    rintro L pre ⟨⟨bo, ⟨bs, bu, bw⟩, bl⟩, ok⟩ W K hi hK
    obtain ⟨cd, hcd⟩ : ∃ cd, cd = codeOf ok := ⟨_, rfl⟩
    have hcells : BlockV.cells ⟨bo, ⟨bs, bu, bw⟩, bl⟩ = #[.int .u64 (bo.toNat : Int), .int .u64 (bs.toNat : Int), .bool bu, .int .i64 bw, .int .u64 (bl.toNat : Int)] := rfl
    simp only [encB, hcells, ← hcd]
    have HCD := qH (And.intro hcd hcells)
    clear hcd hcells
    gi_wp2
    obtain ⟨hcd, hcells⟩ := HCD.out
    obtain ⟨⟨v, h1, h2⟩, h3, h4, h5, h6, h7⟩ := hi
    have hk : Keeps Nil W (W.alloc (.cells #[.int .u64 (bo.toNat : Int), .int .u64 (bs.toNat : Int), .bool bu, .int .i64 bw, .int .u64 (bl.toNat : Int)] 37)) := (Keeps.refl Nil W).alloc _
    have hBW : B < W.heap.size := getElem?_lt h1
    refine hK _ _ ((KeepsOthers.alloc _ _).from _) (KeptBut.nil hk hBW) ⟨⟨v, hk.at h1 (fun e => e), h2.keeps_nil hk⟩, hk.at h3 (fun e => e), hk.at h4 (fun e => e), h5.trans' hk, Nat.le_trans h6 hk.size, h7⟩ ⟨W.heap.size, h6, ?_, ?_⟩
    · rw [hcells]; exact heap_new _ _
    · rw [hcells, hcd]
  case body =>
    clear hown0 hR' hbx hbt hT0 hb0 hb1 hK0
    rintro L pre ⟨⟨bo, ⟨bs, bu, bw⟩, bl⟩, ok⟩ a' W hL ⟨r, hr⟩ ⟨⟨v, h1, h2⟩, h3, h4, h5, h6, h7⟩ ⟨Bx, hBx, hbx2, rfl⟩ hpl
    have hcells : BlockV.cells ⟨bo, ⟨bs, bu, bw⟩, bl⟩ = #[.int .u64 (bo.toNat : Int), .int .u64 (bs.toNat : Int), .bool bu, .int .i64 bw, .int .u64 (bl.toNat : Int)] := rfl
    rw [hcells] at hbx2 ⊢
    have hBW : B < W.heap.size := getElem?_lt h1
    cases ok with
    | false =>
      have e0 := cell_of_one h3
      have e1 := cell_of_one h4
      have f0 := frz h3 0
      have f1 := frz h4 0
      have HH := qH (And.intro h3 (And.intro h4 h5))
      simp only [codeOf_false]
      clear h1 h2 h3 h4 h5 h7 hcells hbx2 hr
      gi_wp2
      obtain ⟨h3, h4, h5⟩ := HH.out
      refine ⟨((KeepsOthers.setCell _ _ _).trans (KeepsOthers.setCell _ _ _)).from _, rfl, ?_⟩
      exact ⟨by simpa using heap_setCell_ne (heap_setCell_eq h3 0 (.slice none 0 0)) ⟨n + 1, 0, none⟩ (.int .i64 12) (by simp), by simpa using heap_setCell_eq (heap_setCell_ne h4 ⟨n, 0, none⟩ (.slice none 0 0) (by simp)) 0 (.int .i64 12),
        (h5.setNew (a := ⟨n, 0, none⟩) (by simp; omega) _).setNew (a := ⟨n + 1, 0, none⟩) (by simp; omega) _, pre, _, rfl⟩
    | true =>
      have c0 := cell_of_one h1
      have f0 := frz h1 0
      have r5 := row5 hbx2
      obtain ⟨q0, q1, q2, q3, q4⟩ := r5
      obtain ⟨P, hP⟩ : ∃ P, P = pre.map (·.1) := ⟨_, rfl⟩
      rw [← hP] at h2
      have hplen : P.length < 4294967296 := by rw [hP]; simp; omega
      have HP := qH hP
      clear hP
      have hwx := getElem?_lt hbx2
      have HH := qH (And.intro h1 (And.intro h3 (And.intro h4 (And.intro h5 h7))))
      simp only [codeOf_true]
      clear h1 h3 h4 h5 h7 hcells hbx2 hr
      rcases (store_wfB h2).imp And.left id with rfl | ⟨g0, cap0, rfl⟩
      all_goals
        gi_wp2_with (gi_at_builtin; refine wpListIn_append_one kB rfl _ _ rfl h2 rfl ⟨bo, ⟨bs, bu, bw⟩, bl⟩ _ rfl rfl hplen h6 ?_; rintro _ w3 hown3 hK3 ⟨g, cap, rfl, hg⟩; obtain ⟨d1, d2, D⟩ := puts_facts HH.out.1 hown3 h2 hK3)
        obtain ⟨h1, h3, h4, h5, h7⟩ := HH.out
        obtain ⟨d3, d4, d5, d6⟩ := D.out
        exact walk_round HP.out h7 h1 h2 h3 h4 h5 h6 hown3 hK3 d3 hg (by omega) (by omega) (by omega)
  case done =>
    clear hown0 hR' hbx hbt hT0 hb0 hb1 hK0
    rintro D xs W hD hS ⟨⟨v, h1, h2⟩, h3, h4, h5, h6, h7⟩ hK
    have hwk : walkF f = some (xs.map (·.1)) := by
      rcases walk_all hsm hS with h | ⟨⟨ys, b, e⟩, _⟩
      · exact h.2
      · have := h7 (b, false) (by rw [e]; simp)
        cases this
    have hw1 : walkB N f = true := by rw [H.out.2.2.2.2, hwk]; rfl
    have hw2 : walkL N f = xs.map (·.1) := by unfold walkL; rw [if_pos hw1, hwk]; rfl
    obtain ⟨P, hP⟩ : ∃ P, P = xs.map (·.1) := ⟨_, rfl⟩
    rw [← hP] at h2 hw2
    have H2 := qH (And.intro hw1 hw2)
    have c0 := cell_of_one h1
    have c1 := cell_of_one h3
    have c2 := cell_of_one h4
    have f1 := frz h3 0
    have f2 := frz h4 0
    have HH := qH (And.intro h1 (And.intro h3 (And.intro h4 (And.intro h5 hK))))
    clear h1 h3 h4 h5 hS hK hP hwk hw1 hw2 h7
    rcases (store_wfB h2).imp And.left id with rfl | ⟨g0, cap0, rfl⟩
    all_goals
      gi_wp2
      obtain ⟨h1, h3, h4, h5, hK⟩ := HH.out
      obtain ⟨e1, e2, e3, e4, e5⟩ := walk_fin (D := D) h2 h3 h4 h5 hK (by omega) (by omega) (by omega)
      refine ⟨by simp, .inl ⟨_, _, rfl, run_takeDeferred e3, ?_⟩⟩
      exact ⟨_, results_cell2 rfl rfl rfl (loadVar_slice e1) (loadVar_errno e2), _, by rw [H2.out.1]; rfl, by rw [H2.out.2]; exact e4.base (by omega), e5⟩
  case stop =>
    clear hown0 hR' hbx hbt hT0 hb0 hb1 hK0
    rintro D c pre W hD hS ⟨rfl, h3, h4, h5, ys, b, rfl⟩ hK
    have hwk : walkF f = none := by
      obtain ⟨zs, off, b', e, _, ha, hl⟩ := hS
      obtain ⟨rfl, e2⟩ := List.append_inj' e rfl
      simp only [List.cons.injEq, Prod.mk.injEq, and_true] at e2
      rcases walk_all hsm (.inr ⟨ys, off, b, rfl, ha, hl, e2.2.symm⟩) with h | h
      · have := h.1 (b, false) (by simp)
        cases this
      · exact h.2
    have hw1 : walkB N f = false := by rw [H.out.2.2.2.2, hwk]; rfl
    have hw2 : walkL N f = [] := by unfold walkL; rw [if_neg (by rw [hw1]; decide)]
    have H2 := qH (And.intro hw1 hw2)
    have c1 := cell_of_one h3
    have c2 := cell_of_one h4
    have HH := qH (And.intro h3 (And.intro h4 (And.intro h5 hK)))
    clear h3 h4 h5 hS hK hwk hw1 hw2
    gi_wp2
    obtain ⟨h3, h4, h5, hK⟩ := HH.out
    have hr : ∀ r, some D = some r → ∃ o : Obj, W.heap[r]? = some o ∧ o.isCells = false := fun r e => by cases e; exact ⟨_, hK, rfl⟩
    refine ⟨by simp, .inl ⟨_, _, rfl, run_takeDeferred hK, ?_⟩⟩
    exact ⟨_, results_cell2 rfl rfl rfl (loadVar_slice (cell_of_one (cells_grown h3 (grown_put _ D _) hr))) (loadVar_errno (cell_of_one (cells_grown h4 (grown_put _ D _) hr))), _, by rw [H2.out.1]; rfl, by rw [H2.out.2]; exact Own.nil _ _ _, h5.record (grown_put _ D _) (fun r e => by cases e; exact hD) (by omega)⟩
theorem Walk_any {R : Nat → Prop} {a : Option Addr} {f : UInt64 → UInt64} {N : Nat} {w : World} (h : ReadsK R (.pointer a) f N w) (hR : ∀ k, R k → k < w.heap.size) (hN : N ≤ 1048576) :
   Calls Tryz.prog 31 #[.pointer a] w fun e w' => ∃ v, e = .returned (.tuple #[v, .int .i64 (codeOf (walkB N f))]) ∧ Own kB w' w.heap.size v (walkL N f) ∧ Keeps Nil w w' := by
 cases hc : chkB N f with
 | true => exact Walk_yes h hR hc (by
    have : fitsN (f 16) N = true := by unfold chkB at hc; simp only [Bool.and_eq_true] at hc; exact hc.2
    unfold fitsN at this
    simp at this
    omega)
 | false =>
   have hb : walkB N f = false := by unfold walkB; rw [hc]; rfl
   have hl : walkL N f = [] := by unfold walkL; rw [if_neg (by rw [hb]; decide)]
   refine (Walk_no h.reads (by unfold chkE; rw [hc]; decide)).mono ?_
   rintro _ w' ⟨rfl, k⟩
   exact ⟨_, by unfold chkE; rw [hc, hb], by rw [hl]; exact Own.nil _ _ _, k⟩
end
section
open Go.RowKit
theorem View.cellB {w : World} {b off : Nat} {l : List BlockV} (h : ∀ i j, j < kB.size → i < l.length → w.cell? ⟨b, off + (i * kB.size + j), none⟩ = (l[i]?).bind (fun x => (kB.enc x)[j]?)) (i : Nat) (x : BlockV) (hx : l[i]? = some x) :
  w.cell? ⟨b, off + i * 5, none⟩ = some (.int .u64 (x.off.toNat : Int)) ∧ w.cell? ⟨b, off + i * 5 + 1, none⟩ = some (.int .u64 (x.tag.size.toNat : Int)) ∧ w.cell? ⟨b, off + i * 5 + 2, none⟩ = some (.bool x.tag.used) ∧
   w.cell? ⟨b, off + i * 5 + 3, none⟩ = some (.int .i64 x.tag.owner) ∧ w.cell? ⟨b, off + i * 5 + 4, none⟩ = some (.int .u64 (x.len.toNat : Int)) := by
 have hi : i < l.length := (List.getElem?_eq_some_iff.1 hx).1
 have hk : kB.size = 5 := rfl
 refine ⟨?_, ?_, ?_, ?_, ?_⟩
 · have := h i 0 (by rw [hk]; decide) hi; rw [hx] at this; simpa [hk, BlockV.cells] using this
 · have := h i 1 (by rw [hk]; decide) hi; rw [hx] at this; simpa [hk, BlockV.cells, Nat.add_assoc] using this
 · have := h i 2 (by rw [hk]; decide) hi; rw [hx] at this; simpa [hk, BlockV.cells, Nat.add_assoc] using this
 · have := h i 3 (by rw [hk]; decide) hi; rw [hx] at this; simpa [hk, BlockV.cells, Nat.add_assoc] using this
 · have := h i 4 (by rw [hk]; decide) hi; rw [hx] at this; simpa [hk, BlockV.cells, Nat.add_assoc] using this
def idxP (p : BlockV → Bool) (l : List BlockV) : Int := match l.findIdx? p with | some i => (i : Int) | none => -1
theorem idxP_some {p : BlockV → Bool} {l : List BlockV} {k : Nat} {x : BlockV} (hx : l[k]? = some x) (hp : p x = true) (h : ∀ j y, j < k → l[j]? = some y → p y = false) : idxP p l = (k : Int) := by
 unfold idxP
 have hk : k < l.length := (List.getElem?_eq_some_iff.1 hx).1
 have e : l.findIdx? p = some k := by
  rw [List.findIdx?_eq_some_iff_getElem]
  refine ⟨hk, ?_, fun j hj => ?_⟩
  · rw [(List.getElem?_eq_some_iff.1 hx).2]; exact hp
  · rw [h j _ hj (List.getElem?_eq_getElem (by omega))]; decide
 rw [e]
theorem idxP_none {p : BlockV → Bool} {l : List BlockV} (h : ∀ j y, j < l.length → l[j]? = some y → p y = false) : idxP p l = -1 := by
 unfold idxP
 have e : l.findIdx? p = none := by
  rw [List.findIdx?_eq_none_iff]
  intro x hx
  obtain ⟨i, hi, e⟩ := List.getElem_of_mem hx
  exact h i x hi (by rw [← e]; exact List.getElem?_eq_getElem hi)
 rw [e]
theorem IndexFunc_any {S : Nat → Prop} {w : World} {v : Value} {l : List BlockV} (h : View kB S w v l) (g : Nat) (lb : Array Value) (p : BlockV → Bool)
    (eg : ∀ args w, (callFunc g args).run Tryz.prog w = .ok (.enter g args) w)
    (hp : ∀ w' x, Keeps Nil w w' → Calls Tryz.prog g (#[.agg x.cells] ++ lb) w' fun e w'' => e = .returned (.bool (p x)) ∧ Keeps Nil w' w'') :
    Calls Tryz.prog 78 #[v, .func (.func g) #[] lb] w fun e w' => e = .returned (.int .i64 (idxP p l)) ∧ Keeps Nil w w' := by
  by_cases hn : 0 < l.length
  · obtain ⟨b, o, cap, rfl, hc, hm, hb, _, hcell⟩ := h.pos hn
    obtain ⟨N, hN⟩ : ∃ N, N = l.length := ⟨_, rfl⟩
    have hNm : N ≤ 9223372036854775807 := by unfold maxLen at hm; omega
    rw [← hN]
    have HC := qH hcell
    have HL := qH hN
    have HP := qH hp
    have HE := qH eg
    clear hcell hc hm hn h hp hN
    go_enter Tryz.func78, Tryz.ntmps78
    go_wp2_with fail
    go_loopw [5, 8] (fun _ i wr => ∃ k : Nat, k ≤ N ∧ i = .int .i64 (k : Int) ∧ Keeps Nil w wr ∧ Hid (∀ j y, j < k → l[j]? = some y → p y = false)) (fun _ i _ => N - (intOf i).toNat)
    case atStart => exact ⟨0, by omega, rfl, Keeps.refl _ _, fun j y hj => by omega⟩
    case round =>
      obtain ⟨k, hk, rfl, hK, HS⟩ := hrel
      by_cases hlt : k < N
      · obtain ⟨x, hx⟩ : ∃ x, l[k]? = some x := ⟨l[k]'(by have := HL.out; omega), by have := HL.out; simp⟩
        obtain ⟨y0, y1, y2, y3, y4⟩ := View.cellB HC.out k x hx
        have c0 := (hK.cell hb (fun e => e) _).trans y0
        have c1 := (hK.cell hb (fun e => e) _).trans y1
        have c2 := (hK.cell hb (fun e => e) _).trans y2
        have c3 := (hK.cell hb (fun e => e) _).trans y3
        have c4 := (hK.cell hb (fun e => e) _).trans y4
        have HX := qH hx
        have HQ := qH (HP.out wr x hK)
        clear y0 y1 y2 y3 y4 hx
        go_wp2_with fail
        refine HQ.out.mono ?_
        rintro _ w2 ⟨rfl, k2⟩
        have HK := qH (hK.trans' k2)
        clear c0 c1 c2 c3 c4 k2 hK
        cases hpx : p x with
        | true =>
          have HPX := qH hpx
          clear hpx
          go_wp2_with fail
          go_ret
          exact ⟨by rw [idxP_some HX.out HPX.out HS.out]; rfl, HK.out⟩
        | false =>
          have HPX := qH hpx
          clear hpx
          go_wp2_with fail
          go_roundw
          case rel =>
            refine ⟨k + 1, by omega, by go_num, HK.out, fun j y hj hy => ?_⟩
            by_cases e : j = k
            · subst e; rw [HX.out] at hy; cases hy; exact HPX.out
            · exact HS.out j y (by omega) hy
          case measure => simp [intOf]; omega
      · go_wp2_with fail
        go_ret
        exact ⟨by rw [idxP_none (fun j y hj hy => HS.out j y (by have := HL.out; omega) hy)]; rfl, hK⟩
  · obtain ⟨a, cap, rfl, _⟩ := h.val
    have e1 : l = [] := List.eq_nil_of_length_eq_zero (by omega)
    subst e1
    clear h hn
    go_enter Tryz.func78, Tryz.ntmps78
    go_wp2_with fail
    go_loopw [5, 8] (fun _ i wr => i = .int .i64 0 ∧ w = wr) (fun _ _ _ => 0)
    case atStart => exact ⟨rfl, rfl⟩
    case round =>
      obtain ⟨rfl, rfl⟩ := hrel
      go_wp2_with fail
      go_ret
      exact ⟨rfl, Keeps.refl _ _⟩
end
end Go.Proofs.YtefpbljekfkefaaGreat
