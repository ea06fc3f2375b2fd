/- CoreA: written short. -/
import Derived.Test.YtefpbljekfkefaaGreatRows
import Derived.WalkKit
import Derived.WalkSpells
import Derived.WalkLawsBesides
import Derived.Lib.Hide
import Derived.OwnWalkIn
import Derived.TacticsInMore
import Derived.Maps.OwnOps
import Derived.Deep.QuietTactic
import Derived.BigQuiet
import Derived.StillTailTactics
import Derived.RangeFuncNested
import Derived.RangeFuncBound
import Derived.RangeFuncCalls
import Derived.RangeFuncLeaves
import Derived.RangeFuncBox
import Derived.Shelf.Abstract
import Derived.Shelf.RegionOpen
import Derived.LoopNIn
import Derived.LoopIn
import Derived.Test.YtefpbljekfkefaaGreatS01
set_option maxRecDepth 100000
set_option maxHeartbeats 8000000
namespace Go.Proofs.YtefpbljekfkefaaGreat
section
open Go.RowKit
structure Keeps (S : Nat → Prop) (w w' : World) : Prop where
 os : w'.os = w.os
 tape : w'.tape = w.tape
 output : w'.output = w.output
 size : w.heap.size ≤ w'.heap.size
 block : ∀ k, k < w.heap.size → ¬ S k → w'.heap[k]? = w.heap[k]?
def Nil : Nat → Prop := fun _ => False
theorem Keeps.refl (S : Nat → Prop) (w : World) : Keeps S w w := ⟨rfl, rfl, rfl, Nat.le_refl _, fun _ _ _ => rfl⟩
theorem Keeps.trans {S S' : Nat → Prop} {a b c : World} (h : Keeps S a b) (k : Keeps S' b c) (hs : ∀ i, i < a.heap.size → S' i → S i) : Keeps S a c :=
 ⟨k.os.trans h.os, k.tape.trans h.tape, k.output.trans h.output, Nat.le_trans h.size k.size,
  fun i hi hn => (k.block i (Nat.lt_of_lt_of_le hi h.size) (fun e => hn (hs i hi e))).trans (h.block i hi hn)⟩
theorem Keeps.trans' {S : Nat → Prop} {a b c : World} (h : Keeps S a b) (k : Keeps S b c) : Keeps S a c := h.trans k (fun _ _ e => e)
theorem Keeps.then_nil {S : Nat → Prop} {a b c : World} (h : Keeps S a b) (k : Keeps Nil b c) : Keeps S a c := h.trans k (fun _ _ e => e.elim)
theorem Keeps.of_nil {S : Nat → Prop} {a b : World} (h : Keeps Nil a b) : Keeps S a b := ⟨h.os, h.tape, h.output, h.size, fun k hk _ => h.block k hk (fun e => e)⟩
theorem Keeps.mono {S S' : Nat → Prop} {a b : World} (h : Keeps S a b) (hs : ∀ i, i < a.heap.size → S i → S' i) : Keeps S' a b :=
  ⟨h.os, h.tape, h.output, h.size, fun k hk hn => h.block k hk (fun e => hn (hs k hk e))⟩
theorem Keeps.drew {S : Nat → Prop} {a w : World} (h : Keeps S a w) : Keeps S a w.drew := ⟨h.os, h.tape, h.output, h.size, h.block⟩
theorem Keeps.alloc {S : Nat → Prop} {a w : World} (h : Keeps S a w) (o : Obj) : Keeps S a (w.alloc o) :=
  h.then_nil ⟨rfl, rfl, rfl, by simp, fun k hk _ => Below.heap_alloc w o k hk⟩
theorem Keeps.setCell {S : Nat → Prop} {a w : World} (h : Keeps S a w) {p : Addr} (hp : p.block < a.heap.size → S p.block) (u : Value) : Keeps S a (w.setCell p u) :=
  h.trans (S' := fun k => k = p.block) ⟨rfl, rfl, rfl, by simp [World.setCell], fun k _ hne => Below.heap_setCell _ _ _ _ hne⟩ (fun i hi e => by subst e; exact hp hi)
theorem Keeps.grown {S : Nat → Prop} {a w w' : World} {row : Option Nat} (h : Keeps S a w) (hg : w.grownBy w' row) (hr : ∀ k, row = some k → k < a.heap.size → S k) : Keeps S a w' :=
  h.trans (S' := fun k => some k = row) ⟨hg.os, hg.tape, hg.output, hg.size, fun k hk hne => hg.block k hk hne⟩ (fun i hi e => hr i e.symm hi)
theorem Keeps.below {w w' : World} (h : Keeps Nil w w') : Below w.heap.size w w' := ⟨h.os, h.tape, h.output, h.size, fun k hk => h.block k hk (fun e => e)⟩
theorem Keeps.of_below {w w' : World} (h : Below w.heap.size w w') : Keeps Nil w w' := ⟨h.os, h.tape, h.output, h.size, fun k hk _ => h.block k hk⟩
theorem Keeps.cell {S : Nat → Prop} {w w' : World} (h : Keeps S w w') {b : Nat} (hb : b < w.heap.size) (hS : ¬ S b) (o : Nat) : w'.cell? ⟨b, o, none⟩ = w.cell? ⟨b, o, none⟩ :=
  World.cell?_of_block (w := w) (a := ⟨b, o, none⟩) (h.block b hb hS)
theorem Keeps.frozen {S : Nat → Prop} {w w' : World} (h : Keeps S w w') {b : Nat} (hb : b < w.heap.size) (hS : ¬ S b) (o : Nat) : w'.frozen? ⟨b, o, none⟩ = w.frozen? ⟨b, o, none⟩ :=
 World.frozen?_of_block (w := w) (a := ⟨b, o, none⟩) (h.block b hb hS)
theorem getElem?_lt {w : World} {k : Nat} {o : Obj} (h : w.heap[k]? = some o) : k < w.heap.size := (Array.getElem?_eq_some_iff.1 h).1
theorem Keeps.at {S : Nat → Prop} {w w' : World} (h : Keeps S w w') {b : Nat} {o : Obj} (hb : w.heap[b]? = some o) (hS : ¬ S b) : w'.heap[b]? = some o :=
 (h.block b (getElem?_lt hb) hS).trans hb
theorem heap_new (w : World) (o : Obj) : (w.alloc o).heap[w.heap.size]? = some o := by
 show (w.heap.push o)[w.heap.size]? = some o
 simp
theorem heap_old (w : World) (o : Obj) {k : Nat} {x : Obj} (h : w.heap[k]? = some x) : (w.alloc o).heap[k]? = some x := (Below.heap_alloc w o k (getElem?_lt h)).trans h
theorem heap_setCell_eq {w : World} {b : Nat} {c : Array Value} {T : TypeId} {f : Nat × Nat} (h : w.heap[b]? = some (.cells c T f)) (o : Nat) (u : Value) : (w.setCell ⟨b, o, none⟩ u).heap[b]? = some (.cells (c.setIfInBounds o u) T f) := by
 have hlt := getElem?_lt h
 have h' : w.heap[b] = .cells c T f := by simpa [Array.getElem?_eq_getElem hlt] using h
 show (w.heap.modify b _)[b]? = _
 rw [Array.getElem?_eq_getElem (by simpa using hlt), Array.getElem_modify_self, h']
 rfl
theorem heap_setCell_ne {w : World} {k : Nat} {x : Obj} (h : w.heap[k]? = some x) (a : Addr) (u : Value) (hne : k ≠ a.block) : (w.setCell a u).heap[k]? = some x := (Below.heap_setCell w a u k hne).trans h
theorem keeps_setCell (w : World) (a : Addr) (u : Value) : Keeps (fun k => k = a.block) w (w.setCell a u) := Keeps.setCell (S := fun k => k = a.block) (Keeps.refl _ w) (fun _ => rfl) u
theorem Keeps.setNew {w0 w : World} (h : Keeps Nil w0 w) {a : Addr} (ha : w0.heap.size ≤ a.block) (u : Value) : Keeps Nil w0 (w.setCell a u) := h.setCell (fun e => by omega) u
def KeptOn (R : Nat → Prop) (w w' : World) : Prop := ∀ k, R k → w'.heap[k]? = w.heap[k]?
theorem KeptOn.refl (R : Nat → Prop) (w : World) : KeptOn R w w := fun _ _ => rfl
theorem KeptOn.trans {R : Nat → Prop} {a b c : World} (h : KeptOn R a b) (k : KeptOn R b c) : KeptOn R a c := fun i hi => (k i hi).trans (h i hi)
theorem KeptOn.cell {R : Nat → Prop} {w w' : World} (h : KeptOn R w w') {b : Nat} (hb : R b) (o : Nat) : w'.cell? ⟨b, o, none⟩ = w.cell? ⟨b, o, none⟩ := World.cell?_of_block (w := w) (a := ⟨b, o, none⟩) (h b hb)
theorem Keeps.on {S R : Nat → Prop} {w w' : World} (h : Keeps S w w') (hR : ∀ k, R k → k < w.heap.size ∧ ¬ S k) : KeptOn R w w' := fun k hk => h.block k (hR k hk).1 (hR k hk).2
section
variable {P : Program} {fn : Func} {tmps : Array Value} {w : World} {p u v : Tmp} {ty : TypeId} {g : Nat} {t : TypeId} {cs : Array Value} {fr : Nat × Nat} {d : TypeDesc}
theorem results_row (h : fn.results = #[.cell p ty]) (ht : tmps.getD p undef = .pointer (some ⟨g, 0, none⟩)) (hg : w.heap[g]? = some (.cells cs t fr))
  (hu : P.underlying ty = some d) (hd : (match d with | .struct _ | .array _ _ => true | _ => false) = true) (hi : (P.info? ty).map (·.size) = some cs.size) : (results fn tmps).run P w = .ok (.agg cs) w := by
 have hr := run_loadVar_row (P := P) w g t ty cs fr d hg hu hd hi
 have ht' : tmps[p]?.getD undef = .pointer (some ⟨g, 0, none⟩) := by simpa using ht
 simp only [results, h]
 simp [ht', asAddr, hr]
theorem results_row_tmp (h : fn.results = #[.cell p ty, .tmp u]) (ht : tmps.getD p undef = .pointer (some ⟨g, 0, none⟩)) (hg : w.heap[g]? = some (.cells cs t fr))
  (hu : P.underlying ty = some d) (hd : (match d with | .struct _ | .array _ _ => true | _ => false) = true) (hi : (P.info? ty).map (·.size) = some cs.size) : (results fn tmps).run P w = .ok (.tuple #[.agg cs, tmps.getD u undef]) w := by
 have hr := run_loadVar_row (P := P) w g t ty cs fr d hg hu hd hi
 have ht' : tmps[p]?.getD undef = .pointer (some ⟨g, 0, none⟩) := by simpa using ht
 simp only [results, h]
 simp [Result.andThen, ht', asAddr, hr]
theorem results_tmp_row (h : fn.results = #[.tmp u, .cell p ty]) (ht : tmps.getD p undef = .pointer (some ⟨g, 0, none⟩)) (hg : w.heap[g]? = some (.cells cs t fr))
  (hu : P.underlying ty = some d) (hd : (match d with | .struct _ | .array _ _ => true | _ => false) = true) (hi : (P.info? ty).map (·.size) = some cs.size) : (results fn tmps).run P w = .ok (.tuple #[tmps.getD u undef, .agg cs]) w := by
 have hr := run_loadVar_row (P := P) w g t ty cs fr d hg hu hd hi
 have ht' : tmps[p]?.getD undef = .pointer (some ⟨g, 0, none⟩) := by simpa using ht
 simp only [results, h]
 simp [Result.andThen, ht', asAddr, hr]
end
theorem u64_wf (x : UInt64) : (Lit.int .u64 (x.toNat : Int)).wf = true := WalkArith.wf_u64 (by have := x.toNat_lt; omega)
theorem u64_of (n : Nat) (x : UInt64) (h : x.toNat = n % 18446744073709551616) (i : Int) (hi : i = (n : Int)) : IntKind.u64.wrap i = (x.toNat : Int) := by
  rw [IntKind.wrap_u64, hi, h]; omega
theorem u64_add (a b : UInt64) : IntKind.u64.wrap ((a.toNat : Int) + (b.toNat : Int)) = ((a + b).toNat : Int) :=
  u64_of (a.toNat + b.toNat) _ (by simp [UInt64.toNat_add]) _ (by omega)
theorem u64_sub (a b : UInt64) : IntKind.u64.wrap ((a.toNat : Int) - (b.toNat : Int)) = ((a - b).toNat : Int) := by
 rw [IntKind.wrap_u64, UInt64.toNat_sub]
 have := a.toNat_lt; have := b.toNat_lt
 omega
theorem u64_mul (a b : UInt64) : IntKind.u64.wrap ((a.toNat : Int) * (b.toNat : Int)) = ((a * b).toNat : Int) :=
  u64_of (a.toNat * b.toNat) _ (by simp [UInt64.toNat_mul]) _ (by simp)
theorem u64_or (a b : UInt64) : bits .or .u64 (a.toNat : Int) (b.toNat : Int) = ((a ||| b).toNat : Int) := by
  rw [u64_or_nat _ _ a.toNat_lt b.toNat_lt, UInt64.toNat_or]
theorem u64_xor (a b : UInt64) : bits .xor .u64 (a.toNat : Int) (b.toNat : Int) = ((a ^^^ b).toNat : Int) := by
  rw [u64_xor_nat _ _ a.toNat_lt b.toNat_lt, UInt64.toNat_xor]
theorem u64_byte (x : UInt8) : IntKind.u64.wrap (x.toNat : Int) = (x.toUInt64.toNat : Int) := by
 have := x.toNat_lt
 rw [IntKind.wrap_u64]; simp; omega
theorem u64_shl8 (a : UInt64) : IntKind.u64.wrap ((a.toNat : Int) * 256) = ((a <<< 8).toNat : Int) :=
 u64_of (a.toNat * 256) _ (by simp [UInt64.toNat_shiftLeft, Nat.shiftLeft_eq]) _ (by omega)
end
section
open Go.RowKit
structure Kind (α : Type) where
 slice : TypeId
 elem : TypeId
 size : Nat
 bytes : Nat
 zero : Value
 enc : α → List Value
 len : ∀ x, (enc x).length = size
 one : ∀ x, ∀ u ∈ enc x, u.oneCell' = true
 und : Tryz.prog.underlying slice = some (.slice elem)
 info : (Tryz.prog.info? elem).map (fun i => (i.zero, i.size, i.bytes)) = some (some zero, size, bytes)
 zcells : zero.cells.size = size
 pos : 0 < size
 small : bytes ≤ 64
variable {α : Type}
def Kind.cells (K : Kind α) (l : List α) : List Value := l.flatMap K.enc
theorem Kind.cells_length (K : Kind α) (l : List α) : (K.cells l).length = l.length * K.size := by
 induction l with
 | nil => simp [Kind.cells]
 | cons x l ih => simp only [Kind.cells, List.flatMap_cons, List.length_append, List.length_cons, K.len] at ih ⊢; rw [ih, Nat.succ_mul]; omega
theorem Kind.cells_append (K : Kind α) (l m : List α) : K.cells (l ++ m) = K.cells l ++ K.cells m := by simp [Kind.cells]
theorem Kind.cells_get (K : Kind α) (l : List α) (i j : Nat) (hj : j < K.size) : (K.cells l)[i * K.size + j]? = (l[i]?).bind (fun x => (K.enc x)[j]?) := by
 induction l generalizing i with
 | nil => simp [Kind.cells]
 | cons x l ih =>
   have hl := K.len x
   simp only [Kind.cells, List.flatMap_cons] at ih ⊢
   cases i with
   | zero => rw [List.getElem?_append_left (by omega)]; simp
   | succ i => rw [List.getElem?_append_right (by rw [hl, Nat.succ_mul]; omega), hl, show (i + 1) * K.size + j - K.size = i * K.size + j by rw [Nat.succ_mul]; omega, ih i]; simp
def Own (K : Kind α) (w : World) (base : Nat) (v : Value) (l : List α) : Prop := w.ownsRow base K.elem K.size v l.length (K.cells l)
def View (K : Kind α) (S : Nat → Prop) (w : World) (v : Value) (l : List α) : Prop :=
 (v = .slice none 0 0 ∧ l = []) ∨ ∃ b off cap, v = .slice (some ⟨b, off, none⟩) l.length cap ∧ l.length ≤ cap ∧ cap ≤ maxLen ∧ b < w.heap.size ∧ ¬ S b ∧ ∀ i j, j < K.size → i < l.length → w.cell? ⟨b, off + (i * K.size + j), none⟩ = (l[i]?).bind (fun x => (K.enc x)[j]?)
theorem Own.nil (K : Kind α) (w : World) (base : Nat) : Own K w base (.slice none 0 0) [] := World.ownsRow_nil w base _ _
theorem Own.made (K : Kind α) (w : World) (base : Nat) (h : base ≤ w.heap.size) : Own K (w.alloc (.cells #[] K.elem)) base (.slice (some ⟨w.heap.size, 0, none⟩) 0 0) [] := World.ownsRow_made w #[] 0 h (Nat.zero_le _) (by simp)
theorem Own.keeps {K : Kind α} {S : Nat → Prop} {w w' : World} {base : Nat} {v : Value} {l : List α} (h : Own K w base v l) (k : Keeps S w w') (hS : ∀ g, base ≤ g → g < w.heap.size → ¬ S g) : Own K w' base v l := by
 obtain ⟨h1, h2⟩ := h
 refine ⟨h1, ?_⟩
 rcases h2 with h2 | ⟨g, cap, cur, hv, hg, hh, r⟩
 · exact .inl h2
 · exact .inr ⟨g, cap, cur, hv, hg, k.at hh (hS g hg (getElem?_lt hh)), r⟩
theorem Own.keeps_nil {K : Kind α} {w w' : World} {base : Nat} {v : Value} {l : List α} (h : Own K w base v l) (k : Keeps Nil w w') : Own K w' base v l := h.keeps k (fun _ _ _ e => e)
theorem Own.alloc {K : Kind α} {w : World} {base : Nat} {v : Value} {l : List α} (h : Own K w base v l) (o : Obj) : Own K (w.alloc o) base v l := World.ownsRow.alloc h o
theorem Own.block {K : Kind α} {w : World} {base : Nat} {v : Value} {l : List α} (h : Own K w base v l) {k : Nat} (hk : v.ownBlock = some k) : base ≤ k ∧ k < w.heap.size := by
 rcases h.2 with ⟨rfl, _⟩ | ⟨g, cap, cur, rfl, hg, hh, _⟩
 · simp [Value.ownBlock] at hk
 · simp [Value.ownBlock] at hk; subst hk; exact ⟨hg, getElem?_lt hh⟩
theorem Own.view {K : Kind α} {S : Nat → Prop} {w : World} {base : Nat} {v : Value} {l : List α} (h : Own K w base v l) (hS : ∀ g, base ≤ g → ¬ S g) : View K S w v l := by
 obtain ⟨h1, h2⟩ := h
 rcases h2 with ⟨rfl, h2⟩ | ⟨g, cap, cur, hv, hg, hh, hc, hm, hz, ht⟩
 ·exact .inl ⟨rfl, List.eq_nil_of_length_eq_zero h2⟩
 ·refine .inr ⟨g, 0, cap, hv, hc, hm, getElem?_lt hh, hS g hg, fun i j hj hi => ?_⟩
  rw [← K.cells_get l i j hj, ← ht]
  have hlt : i * K.size + j < l.length * K.size := by
   have := Nat.mul_le_mul_right K.size (show i + 1 ≤ l.length from hi)
   rw [Nat.succ_mul] at this; omega
  rw [List.getElem?_take_of_lt hlt]
  simp [World.cell?, hh]
theorem View.keeps {K : Kind α} {S S' : Nat → Prop} {w w' : World} {v : Value} {l : List α} (h : View K S w v l) (k : Keeps S' w w') (hS : ∀ g, S' g → S g) : View K S w' v l := by
 rcases h with h | ⟨b, off, cap, hv, hc, hm, hb, hn, hcell⟩
 · exact .inl h
 · exact .inr ⟨b, off, cap, hv, hc, hm, Nat.lt_of_lt_of_le hb k.size, hn, fun i j hj hi => (k.cell hb (fun e => hn (hS b e)) _).trans (hcell i j hj hi)⟩
theorem View.keeps_nil {K : Kind α} {S : Nat → Prop} {w w' : World} {v : Value} {l : List α} (h : View K S w v l) (k : Keeps Nil w w') : View K S w' v l := h.keeps k (fun _ e => e.elim)
theorem View.step {K : Kind α} {S S' : Nat → Prop} {w w' : World} {v : Value} {l : List α} (h : View K S w v l) (k : Keeps S w w') (hS : ∀ g, S' g → S g ∨ w.heap.size ≤ g) : View K S' w' v l := by
 rcases h with h | ⟨b, off, cap, hv, hc, hm, hb, hn, hcell⟩
 · exact .inl h
 · exact .inr ⟨b, off, cap, hv, hc, hm, Nat.lt_of_lt_of_le hb k.size, fun e => (hS b e).elim hn (fun e => by omega), fun i j hj hi => (k.cell hb hn _).trans (hcell i j hj hi)⟩
theorem View.shut {K : Kind α} {S S' : Nat → Prop} {w : World} {v : Value} {l : List α} (h : View K S w v l) (hS : ∀ g, g < w.heap.size → S' g → S g) : View K S' w v l := by
 rcases h with h | ⟨b, off, cap, hv, hc, hm, hb, hn, hcell⟩
 · exact .inl h
 · exact .inr ⟨b, off, cap, hv, hc, hm, hb, fun e => hn (hS b hb e), hcell⟩
theorem View.val {K : Kind α} {S : Nat → Prop} {w : World} {v : Value} {l : List α} (h : View K S w v l) : ∃ a cap, v = .slice a l.length cap ∧ l.length ≤ maxLen := by
 rcases h with ⟨rfl, rfl⟩ | ⟨b, off, cap, rfl, hc, hm, _⟩
 · exact ⟨none, 0, rfl, Nat.zero_le _⟩
 · exact ⟨_, cap, rfl, by omega⟩
theorem View.pos {K : Kind α} {S : Nat → Prop} {w : World} {v : Value} {l : List α} (h : View K S w v l) (hp : 0 < l.length) : ∃ b off cap, v = .slice (some ⟨b, off, none⟩) l.length cap ∧ l.length ≤ cap ∧ cap ≤ maxLen ∧ b < w.heap.size ∧ ¬ S b ∧ ∀ i j, j < K.size → i < l.length → w.cell? ⟨b, off + (i * K.size + j), none⟩ = (l[i]?).bind (fun x => (K.enc x)[j]?) := by
 rcases h with ⟨_, rfl⟩ | h
 · simp at hp
 · exact h
theorem View.at {K : Kind α} {S : Nat → Prop} {w : World} {b off n cap : Nat} {l : List α} (h : View K S w (.slice (some ⟨b, off, none⟩) n cap) l) : n = l.length ∧ l.length ≤ cap ∧ cap ≤ maxLen ∧ b < w.heap.size ∧ ¬ S b ∧ ∀ i j, j < K.size → i < l.length → w.cell? ⟨b, off + (i * K.size + j), none⟩ = (l[i]?).bind (fun x => (K.enc x)[j]?) := by
 rcases h with ⟨e, _⟩ | ⟨b', off', cap', e, h⟩
 ·cases e
 ·simp only [Value.slice.injEq, Option.some.injEq, Addr.mk.injEq, and_true] at e
  obtain ⟨⟨rfl, rfl⟩, rfl, rfl⟩ := e
  exact ⟨rfl, h⟩
theorem append_where (K : Kind α) (w : World) (base : Nat) {v : Value} {l : List α} (hown : Own K w base v l) (ty : TypeId) (ad : Addr) (m c : Nat) (news : List Value) (hl : news.length = m * K.size)
  (hnews : ∀ j u, news[j]? = some u → w.cell? (ad.add j) = some u) (h1 : ∀ u ∈ news, u.oneCell' = true) (hm : 0 < m) (h63 : l.length + m ≤ maxLen) (hbytes : (l.length + m) * K.bytes ≤ 140737488355328)
  {v' : Value} {w' : World} (hr : (Builtin.append_ #[K.slice, K.slice] ty #[v, .slice (some ad) m c]).run Tryz.prog w = .ok v' w') :
  ∃ g cap, v' = .slice (some ⟨g, 0, none⟩) (l.length + m) cap ∧ (v.ownBlock = some g ∨ g = w.heap.size) := by
 obtain ⟨i0, hi, hz0, hz1, hz2⟩ := info_parts K.info
 have h63' : l.length + m ≤ 9223372036854775807 := by simp only [maxLen] at h63; omega
 rw [← hz1] at hl
 rw [← hz2] at hbytes
 rcases hown.2 with ⟨rfl, h0⟩ | ⟨g, cap, cur, rfl, hbg, hg, hnc, hcm, hcs, htake⟩
 ·have h := run_append_nil (P := Tryz.prog) w K.slice ty K.elem i0 K.zero K.und hi hz0 ad m c news hl hnews hm (by omega) (by rw [h0] at hbytes; simp only [Nat.zero_add] at hbytes; omega)
  rw [h] at hr
  simp only [Result.ok.injEq] at hr
  exact ⟨w.heap.size, _, by rw [← hr.1, h0, Nat.zero_add], .inr rfl⟩
 ·by_cases hroom : l.length + m ≤ cap
  ·have hfit : l.length * i0.size + news.length ≤ cur.size := by rw [hl, hcs, ← hz1, ← Nat.add_mul]; exact Nat.mul_le_mul_right _ hroom
   have h := run_append_room (P := Tryz.prog) w K.slice ty K.elem i0 K.und hi g l.length cap cur hg ad m c news hl hnews h1 hroom hfit
   rw [h] at hr
   simp only [Result.ok.injEq] at hr
   exact ⟨g, cap, hr.1.symm, .inl rfl⟩
  ·have holds := World.ownsRow.cells hown (g := g) rfl
   have h := run_append_grow (P := Tryz.prog) w K.slice ty K.elem i0 K.zero K.und hi hz0 ⟨g, 0, none⟩ l.length cap (K.cells l) (by rw [hz1]; exact K.cells_length l) holds ad m c news hl hnews (by omega) (by omega) (growslice_fits (by omega) hbytes)
   rw [h] at hr
   simp only [Result.ok.injEq] at hr
   exact ⟨w.heap.size, _, hr.1.symm, .inr rfl⟩
theorem run_append_cells (K : Kind α) {w : World} (ty : TypeId) {base : Nat} {v : Value} {l l2 : List α} (hown : Own K w base v l) (ad : Addr) (c : Nat)
  (hnews : ∀ j u, (K.cells l2)[j]? = some u → w.cell? (ad.add j) = some u) (hm : 0 < l2.length) (h63 : l.length + l2.length ≤ maxLen) (hbytes : (l.length + l2.length) * K.bytes ≤ 140737488355328) (hbase : base ≤ w.heap.size) :
  ∃ v' w', (Builtin.append_ #[K.slice, K.slice] ty #[v, .slice (some ad) l2.length c]).run Tryz.prog w = .ok v' w' ∧ Own K w' base v' (l ++ l2) ∧ Keeps (fun k => v.ownBlock = some k) w w' ∧
    ∃ g cap, v' = .slice (some ⟨g, 0, none⟩) (l.length + l2.length) cap ∧ (v.ownBlock = some g ∨ g = w.heap.size) := by
 obtain ⟨i0, hi, hz0, hz1, hz2⟩ := info_parts K.info
 have hone : ∀ u ∈ K.cells l2, u.oneCell' = true := fun u hu => by obtain ⟨y, _, hy⟩ := List.mem_flatMap.1 hu; exact K.one y u hy
 obtain ⟨v', w', hr, h2, h3, h4⟩ := run_append_own (P := Tryz.prog) w base K.slice ty K.elem i0 K.zero K.size K.bytes K.und hi hz0 hz1 hz2 K.zcells K.pos v l.length (K.cells l) hown ad l2.length c (K.cells l2) (K.cells_length l2) hnews hone h63 hbytes hbase
 have hw := append_where K w base hown ty ad l2.length c (K.cells l2) (K.cells_length l2) hnews hone hm h63 hbytes hr
 have hown2 : Own K w' base v' (l ++ l2) := by
  unfold Own
  rw [K.cells_append, List.length_append]
  exact h2
 exact ⟨v', w', hr, hown2, (Keeps.refl _ w).grown h3 (fun k hk _ => hk), hw⟩
theorem run_append_zero (K : Kind α) (w : World) (ty : TypeId) {v : Value} {base : Nat} {l : List α} (hown : Own K w base v l) (a2 : Option Addr) (c2 : Nat) :
  (Builtin.append_ #[K.slice, K.slice] ty #[v, .slice a2 0 c2]).run Tryz.prog w = .ok v w := by
 obtain ⟨i0, hi, hz0, hz1, hz2⟩ := info_parts K.info
 have hf : ∀ s, (Builtin.firstCells s 0 (.slice a2 0 c2)).run Tryz.prog w = .ok #[] w := by
  intro s
  cases a2 with
  | none => simp [Builtin.firstCells]
  | some a => simp [Builtin.firstCells, loadCells, loadCellsFrom]
 rcases hown.2 with ⟨rfl, h0⟩ | ⟨g, cap, cur, rfl, hbg, hg, hnc, hcm, hcs, htake⟩
 · simp [Builtin.append_, run_underlying K.und, sizeOf, typeInfo, hi, Builtin.lenOf, hf]
 · simp [Builtin.append_, run_underlying K.und, sizeOf, typeInfo, hi, Builtin.lenOf, hnc, hf, storeCells]
theorem wpList_append_zero (K : Kind α) {w : World} {ops : Array Oper} {rest : List Oper} {o : Oper} {a : Act} {Q : Exit → Act → World → Prop} (hgd : o.guard = none) (s x : Operand)
  (ho : o.op = .call { callee := .builtin .append, args := #[s, x], argTypes := #[K.slice, K.slice] })
  {base : Nat} {v : Value} {l : List α} (hown : Own K w base v l) (hs : a.eval s = v) (a2 : Option Addr) (c : Nat) (hx : a.eval x = .slice a2 0 c)
  (h : wpList Tryz.prog ops Q rest (a.put o.dst v) w) : wpList Tryz.prog ops Q (o :: rest) a w := by
 refine wpList_plain hgd fun _ hK => ?_
 have hr := run_append_zero K w o.type hown a2 c
 unfold Oper.wp execOp
 simp only [ho, resolve, invoke, builtin, Sem.run_bind, Sem.run_pure, Result.andThen_ok, List.map_toArray, List.map_cons, List.map_nil, hs, hx, hr]
 exact hK _ _ h
theorem wpList_append_cells (K : Kind α) {w : World} {ops : Array Oper} {rest : List Oper} {o : Oper} {a : Act} {Q : Exit → Act → World → Prop} (hgd : o.guard = none) (s x : Operand)
  (ho : o.op = .call { callee := .builtin .append, args := #[s, x], argTypes := #[K.slice, K.slice] })
  {base : Nat} {v : Value} {l l2 : List α} (hown : Own K w base v l) (hs : a.eval s = v) (ad : Addr) (c : Nat) (hx : a.eval x = .slice (some ad) l2.length c)
  (hnews : ∀ j u, (K.cells l2)[j]? = some u → w.cell? (ad.add j) = some u) (hm : 0 < l2.length) (h63 : l.length + l2.length ≤ maxLen) (hbytes : (l.length + l2.length) * K.bytes ≤ 140737488355328) (hbase : base ≤ w.heap.size)
  (h : ∀ v' w', Own K w' base v' (l ++ l2) → Keeps (fun k => v.ownBlock = some k) w w' → (∃ g cap, v' = .slice (some ⟨g, 0, none⟩) (l.length + l2.length) cap ∧ (v.ownBlock = some g ∨ g = w.heap.size)) → wpList Tryz.prog ops Q rest (a.put o.dst v') w') :
  wpList Tryz.prog ops Q (o :: rest) a w := by
 refine wpList_plain hgd fun _ hK => ?_
 obtain ⟨v', w', hr, h1, h2, h3⟩ := run_append_cells K o.type hown ad c hnews hm h63 hbytes hbase
 unfold Oper.wp execOp
 simp only [ho, resolve, invoke, builtin, Sem.run_bind, Sem.run_pure, Result.andThen_ok, List.map_toArray, List.map_cons, List.map_nil, hs, hx, hr]
 exact hK _ _ (h v' w' h1 h2 h3)
theorem wpListIn_append_cells (K : Kind α) {F : Fence} {nF : Nat} {w : World} {ops : Array Oper} {rest : List Oper} {o : Oper} {a : Act} {Q : Exit → Act → World → Prop} (hgd : o.guard = none) (s x : Operand)
  (ho : o.op = .call { callee := .builtin .append, args := #[s, x], argTypes := #[K.slice, K.slice] })
  {base : Nat} {v : Value} {l l2 : List α} (hown : Own K w base v l) (hs : a.eval s = v) (ad : Addr) (c : Nat) (hx : a.eval x = .slice (some ad) l2.length c)
  (hnews : ∀ j u, (K.cells l2)[j]? = some u → w.cell? (ad.add j) = some u) (hm : 0 < l2.length) (h63 : l.length + l2.length ≤ maxLen) (hbytes : (l.length + l2.length) * K.bytes ≤ 140737488355328) (hbase : base ≤ w.heap.size)
  (h : ∀ v' w', Own K w' base v' (l ++ l2) → Keeps (fun k => v.ownBlock = some k) w w' → (∃ g cap, v' = .slice (some ⟨g, 0, none⟩) (l.length + l2.length) cap ∧ (v.ownBlock = some g ∨ g = w.heap.size)) → wpListIn F nF Tryz.prog ops Q rest (a.put o.dst v') w') :
  wpListIn F nF Tryz.prog ops Q (o :: rest) a w := by
 refine wpListIn_plain hgd fun _ hK => ?_
 obtain ⟨v', w', hr, h1, h2, h3⟩ := run_append_cells K o.type hown ad c hnews hm h63 hbytes hbase
 unfold Oper.wpIn
 refine ⟨by simp [Oper.about, ho, resolve, Target.leads, Sem.run_pure], ?_⟩
 rw [Oper.semAt_plain F _ _ (by rw [ho]; intro c hc'; cases hc')]
 unfold execOp
 simp only [ho, resolve, invoke, builtin, Sem.run_bind, Sem.run_pure, Result.andThen_ok, List.map_toArray, List.map_cons, List.map_nil, hs, hx, hr]
 exact hK _ _ (h v' w' h1 h2 h3)
theorem wpList_append_one (K : Kind α) {w : World} {ops : Array Oper} {rest : List Oper} {o : Oper} {a : Act} {Q : Exit → Act → World → Prop} (hgd : o.guard = none) (s x : Operand)
  (ho : o.op = .call { callee := .builtin .append, args := #[s, x], argTypes := #[K.slice, K.slice] })
  {base : Nat} {v : Value} {l : List α} (hown : Own K w base v l) (hs : a.eval s = v) (y : α) (c : Array Value) (hc : c.toList = K.enc y)
  (hx : a.eval x = .slice (some ⟨w.heap.size, 0, none⟩) 1 1) (hn : l.length < 4294967296) (hbase : base ≤ w.heap.size)
  (h : ∀ v' w', Own K w' base v' (l ++ [y]) → Keeps (fun k => v.ownBlock = some k) w w' → (∃ g cap, v' = .slice (some ⟨g, 0, none⟩) (l.length + 1) cap ∧ (v.ownBlock = some g ∨ w.heap.size ≤ g)) → wpList Tryz.prog ops Q rest (a.put o.dst v') w') :
  wpList Tryz.prog ops Q (o :: rest) a (w.alloc (.cells c K.elem)) := by
 have hsm := K.small
 refine wpList_append_cells K hgd s x ho (l2 := [y]) (hown.alloc _) hs ⟨w.heap.size, 0, none⟩ 1 hx ?_ (by simp) (by simp only [List.length_singleton]; unfold maxLen; omega) ?_ (by simp; omega) ?_
 ·intro j u hu
  rw [Addr.add_lit]
  simp only [World.cell?, heap_new w _]
  simp only [Kind.cells, List.flatMap_cons, List.flatMap_nil, List.append_nil, ← hc] at hu
  simpa using hu
 ·have : (l.length + 1) * K.bytes ≤ 4294967296 * 64 := Nat.mul_le_mul (by omega) hsm
  simp only [List.length_singleton]
  omega
 ·intro v' w' hown' hk hg
  obtain ⟨g, cap, rfl, hg⟩ := hg
  exact h _ w' hown' (((Keeps.refl Nil w).alloc _).of_nil.trans' hk) ⟨g, cap, rfl, hg.imp id (fun e => by simp at e; omega)⟩
theorem wpListIn_append_one (K : Kind α) {F : Fence} {nF : Nat} {w : World} {ops : Array Oper} {rest : List Oper} {o : Oper} {a : Act} {Q : Exit → Act → World → Prop} (hgd : o.guard = none) (s x : Operand)
  (ho : o.op = .call { callee := .builtin .append, args := #[s, x], argTypes := #[K.slice, K.slice] })
  {base : Nat} {v : Value} {l : List α} (hown : Own K w base v l) (hs : a.eval s = v) (y : α) (c : Array Value) (hc : c.toList = K.enc y)
  (hx : a.eval x = .slice (some ⟨w.heap.size, 0, none⟩) 1 1) (hn : l.length < 4294967296) (hbase : base ≤ w.heap.size)
  (h : ∀ v' w', Own K w' base v' (l ++ [y]) → Keeps (fun k => v.ownBlock = some k) w w' → (∃ g cap, v' = .slice (some ⟨g, 0, none⟩) (l.length + 1) cap ∧ (v.ownBlock = some g ∨ w.heap.size ≤ g)) → wpListIn F nF Tryz.prog ops Q rest (a.put o.dst v') w') :
  wpListIn F nF Tryz.prog ops Q (o :: rest) a (w.alloc (.cells c K.elem)) := by
 have hsm := K.small
 refine wpListIn_append_cells K hgd s x ho (l2 := [y]) (hown.alloc _) hs ⟨w.heap.size, 0, none⟩ 1 hx ?_ (by simp) (by simp only [List.length_singleton]; unfold maxLen; omega) ?_ (by simp; omega) ?_
 ·intro j u hu
  rw [Addr.add_lit]
  simp only [World.cell?, heap_new w _]
  simp only [Kind.cells, List.flatMap_cons, List.flatMap_nil, List.append_nil, ← hc] at hu
  simpa using hu
 ·have : (l.length + 1) * K.bytes ≤ 4294967296 * 64 := Nat.mul_le_mul (by omega) hsm
  simp only [List.length_singleton]
  omega
 ·intro v' w' hown' hk hg
  obtain ⟨g, cap, rfl, hg⟩ := hg
  exact h _ w' hown' (((Keeps.refl Nil w).alloc _).of_nil.trans' hk) ⟨g, cap, rfl, hg.imp id (fun e => by simp at e; omega)⟩
theorem wpList_append_all (K : Kind α) {w : World} {S : Nat → Prop} {ops : Array Oper} {rest : List Oper} {o : Oper} {a : Act} {Q : Exit → Act → World → Prop} (hgd : o.guard = none) (s x : Operand)
  (ho : o.op = .call { callee := .builtin .append, args := #[s, x], argTypes := #[K.slice, K.slice] })
  {base : Nat} {v v2 : Value} {l l2 : List α} (hown : Own K w base v l) (hs : a.eval s = v) (hx : a.eval x = v2) (hv : View K S w v2 l2) (hne : 0 < l2.length) (hn : (l.length + l2.length) * K.bytes ≤ 140737488355328) (hbase : base ≤ w.heap.size) (hb1 : 0 < K.bytes)
  (h : ∀ v' w', Own K w' base v' (l ++ l2) → Keeps (fun k => v.ownBlock = some k) w w' → (∃ g cap, v' = .slice (some ⟨g, 0, none⟩) (l.length + l2.length) cap ∧ (v.ownBlock = some g ∨ w.heap.size ≤ g)) → wpList Tryz.prog ops Q rest (a.put o.dst v') w') :
  wpList Tryz.prog ops Q (o :: rest) a w := by
 rcases hv with ⟨_, h0⟩ | ⟨b, off, cap, rfl, hcap, hmx, hb, hnS, hcell⟩
 · subst h0; simp at hne
 have : l.length + l2.length ≤ (l.length + l2.length) * K.bytes := Nat.le_mul_of_pos_right _ hb1
 refine wpList_append_cells K hgd s x ho hown hs ⟨b, off, none⟩ cap hx ?_ hne (by unfold maxLen; omega) hn hbase (fun v' w' h1 h2 ⟨g, cap, e, hg⟩ => h v' w' h1 h2 ⟨g, cap, e, hg.imp id (fun e => by omega)⟩)
 intro j u hu
 have hj : j < l2.length * K.size := by rw [← K.cells_length]; exact (List.getElem?_eq_some_iff.1 hu).1
 have hm : j / K.size < l2.length := Nat.div_lt_of_lt_mul (by rw [Nat.mul_comm]; exact hj)
 have e : j / K.size * K.size + j % K.size = j := by rw [Nat.mul_comm]; exact Nat.div_add_mod _ _
 have h1 := hcell (j / K.size) (j % K.size) (Nat.mod_lt _ K.pos) hm
 rw [← K.cells_get l2 _ _ (Nat.mod_lt _ K.pos), e] at h1
 rw [Addr.add_lit]
 exact h1.trans hu
abbrev kU : Kind UInt64 := { slice := 27, elem := 25, size := 1, bytes := 8, zero := .int .u64 0, enc := fun x => [.int .u64 ↑x.toNat], len := fun _ => rfl, one := fun _ u hu => by simp at hu; subst hu; rfl, und := Tryz.underlying27, info := by kernel_rfl, zcells := rfl, pos := by decide, small := by decide }
abbrev Put := UInt64 × UInt64
abbrev kP : Kind Put := { slice := 69, elem := 108, size := 2, bytes := 16, zero := .agg #[.int .u64 0, .int .u64 0], enc := fun x => [.int .u64 ↑x.1.toNat, .int .u64 ↑x.2.toNat], len := fun _ => rfl, one := fun _ u hu => by simp at hu; rcases hu with rfl | rfl <;> rfl, und := Tryz.underlying69, info := by kernel_rfl, zcells := rfl, pos := by decide, small := by decide }
theorem wpList_append_u64 {w : World} {ops : Array Oper} {rest : List Oper} {o : Oper} {a : Act} {Q : Exit → Act → World → Prop} (hgd : o.guard = none) (s x : Operand)
  (ho : o.op = .call { callee := .builtin .append, args := #[s, x], argTypes := #[27, 27] })
  {base : Nat} {v : Value} {l : List UInt64} (n : Nat) (hln : l.length = n) (hown : Own kU w base v l) (hs : a.eval s = v) (y : UInt64) (z : Int) (hz : z = (y.toNat : Int))
  (hx : a.eval x = .slice (some ⟨w.heap.size, 0, none⟩) 1 1) (hn : n < 4294967296) (hbase : base ≤ w.heap.size)
  (h : ∀ v' w', Own kU w' base v' (l ++ [y]) → Keeps (fun k => v.ownBlock = some k) w w' → (∃ g cap, v' = .slice (some ⟨g, 0, none⟩) (n + 1) cap ∧ (v.ownBlock = some g ∨ w.heap.size ≤ g)) → wpList Tryz.prog ops Q rest (a.put o.dst v') w') :
  wpList Tryz.prog ops Q (o :: rest) a (w.alloc (.cells #[.int .u64 z] 25)) := by
 subst hln; exact wpList_append_one kU hgd s x ho hown hs y #[.int .u64 z] (by subst hz; rfl) hx hn hbase h
theorem wpList_append_put {w : World} {ops : Array Oper} {rest : List Oper} {o : Oper} {a : Act} {Q : Exit → Act → World → Prop} (hgd : o.guard = none) (s x : Operand)
  (ho : o.op = .call { callee := .builtin .append, args := #[s, x], argTypes := #[69, 69] })
  {base : Nat} {v : Value} {l : List Put} (n : Nat) (hln : l.length = n) (hown : Own kP w base v l) (hs : a.eval s = v) (y : Put) (z z2 : Int) (hz : z = (y.1.toNat : Int)) (hz2 : z2 = (y.2.toNat : Int))
  (hx : a.eval x = .slice (some ⟨w.heap.size, 0, none⟩) 1 1) (hn : n < 4294967296) (hbase : base ≤ w.heap.size)
  (h : ∀ v' w', Own kP w' base v' (l ++ [y]) → Keeps (fun k => v.ownBlock = some k) w w' → (∃ g cap, v' = .slice (some ⟨g, 0, none⟩) (n + 1) cap ∧ (v.ownBlock = some g ∨ w.heap.size ≤ g)) → wpList Tryz.prog ops Q rest (a.put o.dst v') w') :
  wpList Tryz.prog ops Q (o :: rest) a (w.alloc (.cells #[.int .u64 z, .int .u64 z2] 108)) := by
 subst hln; exact wpList_append_one kP hgd s x ho hown hs y #[.int .u64 z, .int .u64 z2] (by subst hz hz2; rfl) hx hn hbase h
def Look {α : Type} (K : Kind α) (w : World) (v : Value) (l : List α) : Prop := View K Nil w v l ∨ ((∃ a cap, v = .slice a 0 cap) ∧ l = [])
section
variable {α : Type} {K : Kind α} {w w' : World} {v : Value} {l : List α}
theorem View.look {S : Nat → Prop} (h : View K S w v l) : Look K w v l := .inl (h.shut (fun _ _ e => e.elim))
theorem Look.nil : Look K w (.slice none 0 0) [] := .inl (.inl ⟨rfl, rfl⟩)
theorem Look.keeps_nil (h : Look K w v l) (k : Keeps Nil w w') : Look K w' v l := h.imp (fun h => h.keeps_nil k) id
theorem Look.val (h : Look K w v l) : ∃ a cap, v = .slice a l.length cap ∧ l.length ≤ maxLen := by
 rcases h with h | ⟨⟨a, cap, rfl⟩, rfl⟩
 · exact h.val
 · exact ⟨a, cap, rfl, Nat.zero_le _⟩
theorem Look.view (h : Look K w v l) (hp : 0 < l.length) : View K Nil w v l := by
 rcases h with h | ⟨_, rfl⟩
 · exact h
 · simp at hp
theorem Look.pos (h : Look K w v l) (hp : 0 < l.length) : ∃ b off cap, v = .slice (some ⟨b, off, none⟩) l.length cap ∧ l.length ≤ cap ∧ cap ≤ maxLen ∧ b < w.heap.size ∧ ¬ Nil b ∧ ∀ i j, j < K.size → i < l.length → w.cell? ⟨b, off + (i * K.size + j), none⟩ = (l[i]?).bind (fun x => (K.enc x)[j]?) := (h.view hp).pos hp
end
end
section
open Go.RowKit
def loadP : List Put → UInt64 → Option UInt64
 | [], _ => none
 | x :: l, off => if off = x.1 then some x.2 else loadP l off
def storeP : List Put → UInt64 → UInt64 → List Put
 | [], off, v => [(off, v)]
 | x :: l, off, v => if off = x.1 then (off, v) :: l else x :: storeP l off v
theorem storeP_new {l : List Put} {off : UInt64} (h : loadP l off = none) (v : UInt64) : storeP l off v = l ++ [(off, v)] := by
 induction l with
 | nil => rfl
 | cons x l ih =>
   simp only [loadP] at h
   split at h
   · cases h
   · rename_i hne; simp only [storeP, if_neg hne]; rw [ih h]; rfl
theorem storeP_keys {l : List Put} {off u : UInt64} (h : loadP l off = some u) (v : UInt64) : (storeP l off v).map (·.1) = l.map (·.1) := by
 induction l with
 | nil => cases h
 | cons x l ih =>
   simp only [loadP] at h
   split at h
   · rename_i he; simp only [storeP, if_pos he]; simp [he]
   · rename_i hne; simp only [storeP, if_neg hne, List.map_cons]; rw [ih h]
def encPut (x : Put) : Value × Value := (.int .u64 ↑x.1.toNat, .int .u64 ↑x.2.toNat)
def encEntry (e : MapEntry) : Value × Value := (e.key, e.val)
def MapAt (w : World) (m : Nat) (l : List Put) : Prop := ∃ (es : Array MapEntry) (clock : Nat), w.heap[m]? = some (.map es clock) ∧ es.toList.map encEntry = l.map encPut
theorem MapAt.keeps {S : Nat → Prop} {w w' : World} {m : Nat} {l : List Put} (h : MapAt w m l) (k : Keeps S w w') (hS : ¬ S m) : MapAt w' m l := by
 obtain ⟨es, clock, h1, h2⟩ := h
 exact ⟨es, clock, k.at h1 hS, h2⟩
theorem MapAt.on {R : Nat → Prop} {w w' : World} {m : Nat} {l : List Put} (h : MapAt w m l) (k : KeptOn R w w') (hR : R m) : MapAt w' m l := by
 obtain ⟨es, clock, h1, h2⟩ := h
 exact ⟨es, clock, (k m hR).trans h1, h2⟩
theorem MapAt.made (w : World) : MapAt (w.alloc (.map #[] 0)) w.heap.size [] := ⟨#[], 0, heap_new w _, rfl⟩
def placeP : List Put → UInt64 → Nat → Option (Nat × Value)
 | [], _, _ => none
 | x :: l, off, i => if off = x.1 then some (i, .int .u64 ↑x.2.toNat) else placeP l off (i + 1)
theorem toNat_beq (a b : UInt64) : ((a.toNat : Int) == (b.toNat : Int)) = decide (a = b) := by
 by_cases h : a = b
 · subst h; simp
 · rw [decide_eq_false h, beq_eq_false_iff_ne]; intro e; exact h (UInt64.toNat_inj.1 (by omega))
theorem findNow_u64 : ∀ (es : List MapEntry) (l : List Put) (_ : es.map encEntry = l.map encPut) (off : UInt64) (i : Nat), Instr.findNow (.int .u64) (.int .u64 ↑off.toNat) es i = some (placeP l off i)
  | [], [], _, off, i => rfl
  | [], _ :: _, h, _, _ => by cases h
  | _ :: _, [], h, _, _ => by cases h
  | e :: es, x :: l, h, off, i => by
    simp only [List.map_cons, List.cons.injEq] at h
    obtain ⟨h1, h2⟩ := h
    simp only [encEntry, encPut, Prod.mk.injEq] at h1
    simp only [Instr.findNow, h1.1, Instr.sameNow, if_true, toNat_beq, placeP]
    by_cases hx : off = x.1
    · simp [hx, h1.2]
    · simp only [hx, decide_false, if_false]
      exact findNow_u64 es l h2 off (i + 1)
theorem placeP_some {l : List Put} {off u : UInt64} (h : loadP l off = some u) : ∀ i, ∃ j, j < l.length ∧ placeP l off i = some (i + j, .int .u64 ↑u.toNat) ∧ (∀ v, storeP l off v = l.set j (off, v)) ∧ (l[j]?).map (·.1) = some off := by
 induction l with
 | nil => cases h
 | cons x l ih =>
   intro i
   simp only [loadP] at h
   split at h
   ·rename_i he
    cases h
    exact ⟨0, by simp, by simp [placeP, he], fun v => by simp [storeP, he], by simp [he]⟩
   ·rename_i hne
    obtain ⟨j, h1, h2, h3, h4⟩ := ih h (i + 1)
    exact ⟨j + 1, by simp; omega, by simp only [placeP, if_neg hne]; rw [h2]; simp; omega, fun v => by simp only [storeP, if_neg hne, h3]; rfl, by simpa using h4⟩
theorem placeP_none {l : List Put} {off : UInt64} (h : loadP l off = none) : ∀ i, placeP l off i = none := by
 induction l with
 | nil => intro i; rfl
 | cons x l ih =>
   intro i
   simp only [loadP] at h
   split at h
   · cases h
   · rename_i hne; simp only [placeP, if_neg hne]; exact ih h (i + 1)
theorem und_map : Tryz.prog.underlying 131 = some (.map 25 25) := Tryz.underlying131
theorem run_checkKey (b : Bool) (x : UInt64) (w : World) : (Instr.checkKey b 10000 25 (.int .u64 ↑x.toNat)).run Tryz.prog w = .ok () w :=
 (Maps.int_keyed Tryz.underlying25).check w b (Maps.keyOf_int_mk Tryz.underlying25 (u64_wf x))
theorem run_findKey {es : List MapEntry} {l : List Put} (h : es.map encEntry = l.map encPut) (off : UInt64) (w : World) : (Instr.findKey 25 (.int .u64 ↑off.toNat) es).run Tryz.prog w = .ok (placeP l off 0) w := by
 simp [Instr.findKey, run_underlying Tryz.underlying25, findNow_u64 es l h off 0]
theorem run_lookup_u64 {w : World} {m : Nat} {l : List Put} (h : MapAt w m l) (off : UInt64) (ok : Bool) :
   (Instr.lookup 131 (.map (some m)) (.int .u64 ↑off.toNat) ok).run Tryz.prog w = .ok (if ok then .tuple #[.int .u64 ↑((loadP l off).getD 0).toNat, .bool (loadP l off).isSome] else .int .u64 ↑((loadP l off).getD 0).toNat) w := by
 obtain ⟨es, clock, h1, h2⟩ := h
 have hf := run_findKey h2 off w
 have hz : (zeroValue 25).run Tryz.prog w = .ok (.int .u64 0) w := by kernel_rfl
 cases hl : loadP l off with
 | none =>
   rw [placeP_none hl 0] at hf
   cases ok <;> simp [Instr.lookup, run_underlying und_map, MapKept.run_getObj_map h1, Result.andThen, run_checkKey, hf, hz]
 | some u =>
   obtain ⟨j, _, hp, _, _⟩ := placeP_some hl 0
   rw [hp] at hf
   cases ok <;> simp [Instr.lookup, run_underlying und_map, MapKept.run_getObj_map h1, Result.andThen, run_checkKey, hf]
theorem run_update_u64 {w : World} {m : Nat} {l : List Put} (h : MapAt w m l) (off v : UInt64) :
    ∃ w', (Instr.mapUpdate 131 (.map (some m)) (.int .u64 ↑off.toNat) (.int .u64 ↑v.toNat)).run Tryz.prog w = .ok () w' ∧ MapAt w' m (storeP l off v) ∧ Keeps (fun k => k = m) w w' := by
  obtain ⟨es, clock, h1, h2⟩ := h
  have hf := run_findKey h2 off w
  have hlt := getElem?_lt h1
  have hkeep : ∀ o : Obj, Keeps (fun k => k = m) w { w with heap := w.heap.setIfInBounds m o } := fun o =>
    ⟨rfl, rfl, rfl, by simp, fun k hk hne => by simp [Array.getElem?_setIfInBounds_ne (Ne.symm hne)]⟩
  have hset : ∀ o : Obj, ({ w with heap := w.heap.setIfInBounds m o } : World).heap[m]? = some o := fun o => by simp [hlt]
  cases hl : loadP l off with
  | none =>
    rw [placeP_none hl 0] at hf
    refine ⟨{ w with heap := w.heap.setIfInBounds m (.map (es.push { key := .int .u64 ↑off.toNat, val := .int .u64 ↑v.toNat, born := clock }) (clock + 1)) }, ?_, ⟨_, _, hset _, ?_⟩, hkeep _⟩
    · simp [Instr.mapUpdate, run_underlying und_map, MapKept.run_getObj_map h1, Result.andThen, run_checkKey, hf, MapKept.run_setObj_map _ h1]
    · rw [storeP_new hl]; simp [h2, encEntry, encPut]
  | some u =>
    obtain ⟨j, hj, hp, hst, hk⟩ := placeP_some hl 0
    rw [hp] at hf
    have hlen : es.size = l.length := by have := congrArg List.length h2; simpa using this
    have hkey : ((es[j]?).map (·.key)).getD (.int .u64 ↑off.toNat) = .int .u64 ↑off.toNat := by
      have hx := congrArg (fun z => (z[j]?).map (·.1)) h2
      simp only [List.getElem?_map, Array.getElem?_toList, Option.map_map] at hx
      have hx2 : (es[j]?).map (·.key) = (l[j]?).map (fun x => Value.int .u64 ↑x.1.toNat) := hx
      rw [hx2]
      cases hlj : l[j]? with
      | none => rfl
      | some x => rw [hlj] at hk; simp at hk; simp [hk]
    have hbits : Instr.sameBits 10000 (.int .u64 ↑off.toNat) (.int .u64 ↑off.toNat) = true := by simp [Instr.sameBits]
    have hst' : (Instr.keyThatStays (.int .u64 ↑off.toNat) (.int .u64 ↑off.toNat)).run Tryz.prog w = .ok (.int .u64 ↑off.toNat) w := by simp [Instr.keyThatStays, hbits]
    refine ⟨{ w with heap := w.heap.setIfInBounds m (.map (es.modify j fun e => { e with key := .int .u64 ↑off.toNat, val := .int .u64 ↑v.toNat }) clock) }, ?_, ⟨_, _, hset _, ?_⟩, hkeep _⟩
    · simp only [Nat.zero_add] at hf
      simp [Instr.mapUpdate, run_underlying und_map, MapKept.run_getObj_map h1, Result.andThen, run_checkKey, hf]
      simp [hkey, hst', MapKept.run_setObj_map _ h1]
    · rw [hst v]
      apply List.ext_getElem?
      intro i
      have hx := congrArg (fun z => z[i]?) h2
      simp only [List.getElem?_map, Array.getElem?_toList] at hx ⊢
      rw [Array.getElem?_modify, List.getElem?_set]
      by_cases e : j = i
      · subst e
        rw [if_pos rfl, if_pos rfl, if_pos hj]
        have : es[j]? = some es[j] := by simp [hlen, hj]
        rw [this]; rfl
      · rw [if_neg e, if_neg e]; exact hx
theorem wpList_lookup_ok {w : World} {ops : Array Oper} {rest : List Oper} {o : Oper} {a : Act} {Q : Exit → Act → World → Prop} (hg : o.guard = none) (mo x : Operand) (ok : Bool) (hop : o.op = Op.lookup 131 mo x ok)
  {m : Nat} {l : List Put} (hm : a.eval mo = .map (some m)) (h : MapAt w m l) (off : UInt64) (hx : a.eval x = .int .u64 ↑off.toNat)
  (hK : wpList Tryz.prog ops Q rest (a.put o.dst (if ok then .tuple #[.int .u64 ↑((loadP l off).getD 0).toNat, .bool (loadP l off).isSome] else .int .u64 ↑((loadP l off).getD 0).toNat)) w) :
  wpList Tryz.prog ops Q (o :: rest) a w := by
 refine wpList_plain hg fun K' hK' => ?_
 have hrun := run_lookup_u64 h off ok
 unfold Oper.wp
 simp [execOp, hop, hm, hx, hrun, Result.andThen]
 exact hK' _ _ hK
theorem wpList_update {w : World} {ops : Array Oper} {rest : List Oper} {o : Oper} {a : Act} {Q : Exit → Act → World → Prop} (hg : o.guard = none) (mo x v : Operand) (hop : o.op = Op.mapUpdate 131 mo x v)
  {m : Nat} {l : List Put} (hm : a.eval mo = .map (some m)) (h : MapAt w m l) (off u : UInt64) (hx : a.eval x = .int .u64 ↑off.toNat) (hv : a.eval v = .int .u64 ↑u.toNat)
  (hK : ∀ w', MapAt w' m (storeP l off u) → Keeps (fun k => k = m) w w' → wpList Tryz.prog ops Q rest (a.put o.dst undef) w') :
  wpList Tryz.prog ops Q (o :: rest) a w := by
 refine wpList_plain hg fun K' hK' => ?_
 obtain ⟨w', hrun, h1, h2⟩ := run_update_u64 h off u
 unfold Oper.wp
 simp [execOp, hop, hm, hx, hv, hrun, Result.andThen]
 exact hK' _ _ (hK w' h1 h2)
def byteAt (ws : List UInt64) (i : Nat) : UInt8 := UInt8.ofNat ((ws.getD (i / 8) 0).toNat / 2 ^ (8 * (i % 8)))
theorem byteAt_toNat (ws : List UInt64) (i : Nat) : (byteAt ws i).toNat = (ws.getD (i / 8) 0).toNat / 2 ^ (8 * (i % 8)) % 256 := by simp [byteAt]
def SegAt (w : World) (p q : Nat) (ws : List UInt64) : Prop :=
  p ≠ q ∧ ws.length ≤ 131072 ∧ 0 < ws.length ∧ ∃ (cap : Nat) (c : Array Value), 8 * ws.length ≤ cap ∧ cap ≤ maxLen ∧ w.heap[p]? = some (.cells #[.slice (some ⟨q, 0, none⟩) (8 * ws.length) cap] 197 (0, 0)) ∧
    w.heap[q]? = some (.cells c 5 (0, 0)) ∧ c.size = cap ∧ ∀ i, i < 8 * ws.length → c[i]? = some (.int .u8 ↑(byteAt ws i).toNat)
theorem SegAt.keeps {S : Nat → Prop} {w w' : World} {p q : Nat} {ws : List UInt64} (h : SegAt w p q ws) (k : Keeps S w w') (hp : ¬ S p) (hq : ¬ S q) : SegAt w' p q ws := by
 obtain ⟨h1, h2, h3, cap, c, h4, h4', h5, h6, h7, h8⟩ := h
 exact ⟨h1, h2, h3, cap, c, h4, h4', k.at h5 hp, k.at h6 hq, h7, h8⟩
theorem SegAt.lt {w : World} {p q : Nat} {ws : List UInt64} (h : SegAt w p q ws) : p < w.heap.size ∧ q < w.heap.size := by
 obtain ⟨h1, h2, h3, cap, c, h4, h4', h5, h6, h7, h8⟩ := h
 exact ⟨getElem?_lt h5, getElem?_lt h6⟩
def inB (ws : List UInt64) (off : UInt64) : Bool := off.toNat % 8 = 0 && off.toNat < 8 * ws.length
theorem Size_some {w : World} {p q : Nat} {ws : List UInt64} (h : SegAt w p q ws) :
  Calls Tryz.prog 149 #[.pointer (some ⟨p, 0, none⟩)] w fun e w' => e = .returned (.int .u64 ((8 * ws.length : Nat) : Int)) ∧ w = w' := by
 obtain ⟨h1, h2, h3, cap, c, h4, h4', h5, h6, h7, h8⟩ := h
 have hc := cell_of_one h5
 clear h5 h6 h8
 go_enter Tryz.func149, Tryz.ntmps149
 go_wp2
 go_ret
 exact ⟨by go_num, rfl⟩
theorem in_some {w : World} {p q : Nat} {ws : List UInt64} (h : SegAt w p q ws) (off : UInt64) :
  Calls Tryz.prog 143 #[.pointer (some ⟨p, 0, none⟩), .int .u64 ↑off.toNat] w fun e w' => e = .returned (.bool (inB ws off)) ∧ w = w' := by
 by_cases hm : off.toNat % 8 = 0
 ·have hm' : (((off.toNat : Int) % 8) == 0) = true := by simp; omega
  go_enter Tryz.func143, Tryz.ntmps143
  go_wp2_with (go_at_call 149; refine (Size_some h).mono ?_; rintro e w' ⟨rfl, rfl⟩)
  go_ret
  exact ⟨by simp [inB, hm]; omega, rfl⟩
 ·have hm' : (((off.toNat : Int) % 8) == 0) = false := by simp; omega
  go_enter Tryz.func143, Tryz.ntmps143
  go_wp2_with fail
  go_ret
  exact ⟨by simp [inB, hm], rfl⟩
theorem Store1_any (v : UInt64) (i b : Nat) (hi : i < 8) (w : World) (hb : w.cell? ⟨b, 0, none⟩ = some (.int .u64 ↑v.toNat)) :
  Calls Tryz.prog 188 #[.int .i64 ↑i, .pointer (some ⟨b, 0, none⟩)] w fun e w' => e = .returned (.int .u8 ↑(v.toNat / 2 ^ (8 * i) % 256)) ∧ w = w' := by
 have hv := v.toNat_lt
 go_enter Tryz.func188, Tryz.ntmps188
 go_wp2
 go_ret
 exact ⟨by go_num, rfl⟩
def Part (w0 w : World) (q : Nat) (c : Array Value) (o k : Nat) (v : UInt64) : Prop :=
 Keeps (fun b => b = q) w0 w ∧ ∃ c' : Array Value, w.heap[q]? = some (.cells c' 5 (0, 0)) ∧ c'.size = c.size ∧
    ∀ i, i < c.size → c'[i]? = if o ≤ i ∧ i < o + k then some (.int .u8 ((v.toNat / 2 ^ (8 * (i - o)) % 256 : Nat) : Int)) else c[i]?
theorem Part.step {w0 w : World} {q : Nat} {c : Array Value} {o k : Nat} {v : UInt64} (h : Part w0 w q c o k v) (hk : o + k < c.size) :
  Part w0 (w.setCell ⟨q, o + k, none⟩ (.int .u8 ((v.toNat / 2 ^ (8 * k) % 256 : Nat) : Int))) q c o (k + 1) v := by
 obtain ⟨h1, c', h2, h3, h4⟩ := h
 refine ⟨h1.setCell (p := ⟨q, o + k, none⟩) (fun _ => rfl) _, c'.setIfInBounds (o + k) (.int .u8 ((v.toNat / 2 ^ (8 * k) % 256 : Nat) : Int)), ?_, by simp [h3], ?_⟩
 ·have hlt := getElem?_lt h2
  have h' : w.heap[q] = .cells c' 5 (0, 0) := by simpa [Array.getElem?_eq_getElem hlt] using h2
  show (w.heap.modify q _)[q]? = _
  rw [Array.getElem?_eq_getElem (by simpa using hlt), Array.getElem_modify_self, h']
  rfl
 ·intro i hi
  rw [Array.getElem?_setIfInBounds]
  by_cases e : o + k = i
  ·subst e
   rw [if_pos rfl, if_pos (by omega), if_pos (by omega)]
   simp
  ·rw [if_neg e, h4 i hi]
   by_cases e1 : o ≤ i ∧ i < o + k
   · rw [if_pos e1, if_pos (by omega)]
   · rw [if_neg e1, if_neg (by omega)]
theorem Part.drew {w0 w : World} {q : Nat} {c : Array Value} {o k : Nat} {v : UInt64} (h : Part w0 w q c o k v) : Part w0 w.drew q c o k v := ⟨h.1.drew, h.2⟩
theorem Part.cell {w0 w : World} {q : Nat} {c : Array Value} {o k : Nat} {v : UInt64} (h : Part w0 w q c o k v) (i : Nat) (hi : i < c.size) :
  ∃ u, w.cell? ⟨q, i, none⟩ = some u ∧ w.frozen? ⟨q, i, none⟩ = false := by
 obtain ⟨h1, c', h2, h3, h4⟩ := h
 have hi' : i < c'.size := by omega
 exact ⟨c'[i], by simp [World.cell?, h2, hi'], by simp [World.frozen?, h2]⟩
theorem Store_yes {w : World} {p q : Nat} {ws : List UInt64} (h : SegAt w p q ws) (off v : UInt64) (hin : inB ws off = true) :
    Calls Tryz.prog 173 #[.pointer (some ⟨p, 0, none⟩), .int .u64 ↑off.toNat, .int .u64 ↑v.toNat] w fun e w' =>
      e = .returned (.int .i64 0) ∧ SegAt w' p q (ws.set (off.toNat / 8) v) ∧ Keeps (fun k => k = q) w w' := by
  have h0 := h
  obtain ⟨h1, h2, h3, cap, c, h4, h4', h5, h6, h7, h8⟩ := h
  have hin2 : off.toNat % 8 = 0 ∧ off.toNat < 8 * ws.length := by simpa [inB] using hin
  have hlim : off.toNat + 8 ≤ 8 * ws.length := by omega
  have hcs : 8 * ws.length ≤ c.size := by omega
  have hp := cell_of_one h5
  have hpl := getElem?_lt h5
  have hql := getElem?_lt h6
  have HC := qH (And.intro h7 h8)
  have HM := qH hin2.1
  have HI := qH hin
  have H5 := qH h5
  have H6 := qH h6
  clear hin2 h7 h8 hin h5 h6
  go_enter Tryz.func173, Tryz.ntmps173
  go_wp2_with (go_at_call 143; refine (in_some (h0.keeps ((Keeps.refl Nil w).alloc _) (fun e => e) (fun e => e)) off).mono ?_; rintro e w' ⟨rfl, rfl⟩; rw [HI.out])
  obtain ⟨W, hW⟩ : ∃ W : World, W = w.alloc (.cells #[.int .u64 ↑v.toNat] 25) := ⟨_, rfl⟩
  rw [← hW]
  have HW := qH hW
  have HB := qH (heap_new w (.cells #[.int .u64 ↑v.toNat] 25))
  have H5' := qH (heap_old w (.cells #[.int .u64 ↑v.toNat] 25) H5.out)
  have H6' := qH (heap_old w (.cells #[.int .u64 ↑v.toNat] 25) H6.out)
  rw [← hW] at H5' H6' HB
  clear hW hp
  go_loopw [14] (fun i wr => ∃ k : Nat, k ≤ 8 ∧ i = .int .i64 ↑k ∧ Part W wr q c off.toNat k v) (fun i _ => 8 - (intOf i).toNat)
  case atStart => exact ⟨0, by omega, rfl, Keeps.refl _ _, c, H6'.out, rfl, fun i _ => by rw [if_neg (by omega)]⟩
  case round =>
    obtain ⟨k, hk, rfl, hP⟩ := hrel
    by_cases hlt : k < 8
    · have hsz : off.toNat + k < c.size := by omega
      have hidx : off.toNat + k < 8 * ws.length := by omega
      have hp : wr.cell? ⟨p, 0, none⟩ = some (.slice (some ⟨q, 0, none⟩) (8 * ws.length) cap) := cell_of_one (hP.1.at H5'.out h1)
      have hv : wr.cell? ⟨w.heap.size, 0, none⟩ = some (.int .u64 ↑v.toNat) := cell_of_one (hP.1.at HB.out (by omega))
      obtain ⟨u, hq1, hq2⟩ := hP.cell (off.toNat + k) hsz
      go_wp2
      have e1 : IntKind.u64.wrap (k : Int) = (k : Int) := IntWalk.u64_in _ (by omega)
      have e2 : IntKind.u64.wrap ((off.toNat : Int) + (k : Int)) = (off.toNat : Int) + (k : Int) := IntWalk.u64_in _ (by omega)
      have e3 : ((off.toNat : Int) + (k : Int)).toNat = off.toNat + k := by omega
      have e4 : (off.toNat : Int) + (k : Int) < 8 * (ws.length : Int) := by omega
      have e5 : (0 : Int) ≤ (off.toNat : Int) + (k : Int) := by omega
      go_still_tail 12, (by kernel_rfl)
      refine wpStill_step (fun K hK => ?_)
      go_simp
      refine ⟨_, (Store1_any v k w.heap.size hlt wr.drew hv).mono (fun e w' (hh : _ ∧ wr.drew = w') => ⟨hh.1, hh.2.symm⟩), hK _ ?_⟩
      clear hK K
      still_step
      refine wpStill_nil ?_
      clear e1 e2 e3 e4 e5
      change wpList _ _ _ _ _ wr.drew
      go_wp2
      go_roundw
      case rel => exact ⟨k + 1, by omega, by go_num, by first | exact (hP.step hsz).drew | exact hP.drew.step hsz⟩
      case measure => simp [intOf]; omega
    · go_wp2
      have hk8 : k = 8 := by omega
      subst hk8
      go_ret
      obtain ⟨hK, c', hq1, hq2, hq3⟩ := hP
      have hWw : Keeps Nil w W := by rw [HW.out]; exact (Keeps.refl Nil w).alloc _
      have hKw : Keeps (fun k => k = q) w wr := (hWw.of_nil).trans' hK
      refine ⟨rfl, ⟨h1, by simpa using h2, by simpa using h3, cap, c', by simpa using h4, h4', by simpa using hK.at H5'.out h1, hq1, by rw [hq2]; exact HC.out.1, ?_⟩, hKw⟩
      intro i hi
      rw [List.length_set] at hi
      rw [hq3 i (by omega)]
      have hm := HM.out
      by_cases e : off.toNat ≤ i ∧ i < off.toNat + 8
      · rw [if_pos e]
        have e1 : i / 8 = off.toNat / 8 := by omega
        have e2 : i % 8 = i - off.toNat := by omega
        have e3 : off.toNat / 8 < ws.length := by omega
        simp only [byteAt_toNat, e1, e2]
        rw [List.getD_eq_getElem?_getD, List.getElem?_set_self e3]
        rfl
      · rw [if_neg e, HC.out.2 i (by omega)]
        have e1 : off.toNat / 8 ≠ i / 8 := by omega
        simp only [byteAt_toNat]
        rw [List.getD_eq_getElem?_getD, List.getD_eq_getElem?_getD, List.getElem?_set_ne e1]
theorem Store_no {w : World} {p q : Nat} {ws : List UInt64} (h : SegAt w p q ws) (off v : UInt64) (hin : inB ws off = false) :
  Calls Tryz.prog 173 #[.pointer (some ⟨p, 0, none⟩), .int .u64 ↑off.toNat, .int .u64 ↑v.toNat] w fun e w' =>
   e = .returned (.int .i64 1) ∧ Keeps Nil w w' := by
 have HI := qH hin
 clear hin
 go_enter Tryz.func173, Tryz.ntmps173
 go_wp2_with (go_at_call 143; refine (in_some (h.keeps ((Keeps.refl Nil w).alloc _) (fun e => e) (fun e => e)) off).mono ?_; rintro e w' ⟨rfl, rfl⟩; rw [HI.out])
 go_ret
 exact ⟨rfl, (Keeps.refl Nil w).alloc _⟩
def loadV (ws : List UInt64) (off : UInt64) : UInt64 := if inB ws off then ws[off.toNat / 8]?.getD 0 else 0
def errV (ws : List UInt64) (off : UInt64) : Int := if inB ws off then 0 else 1
def putW (ws : List UInt64) (off v : UInt64) : List UInt64 := if inB ws off then ws.set (off.toNat / 8) v else ws
theorem Store_any {w : World} {p q : Nat} {ws : List UInt64} (h : SegAt w p q ws) (off v : UInt64) (x y : Int) (hx : x = (off.toNat : Int)) (hy : y = (v.toNat : Int)) :
  Calls Tryz.prog 173 #[.pointer (some ⟨p, 0, none⟩), .int .u64 x, .int .u64 y] w fun e w' =>
   e = .returned (.int .i64 (errV ws off)) ∧ SegAt w' p q (putW ws off v) ∧ Keeps (fun k => k = q) w w' := by
 subst hx hy
 cases hin : inB ws off with
 | true => refine (Store_yes h off v hin).mono ?_; rintro e w' ⟨rfl, hs, hk⟩; exact ⟨by simp [errV, hin], by simpa [putW, hin] using hs, hk⟩
 | false => refine (Store_no h off v hin).mono ?_; rintro e w' ⟨rfl, hk⟩; exact ⟨by simp [errV, hin], by simpa [putW, hin] using h.keeps hk (fun e => e) (fun e => e), hk.of_nil⟩
end
section
open Go.RowKit Go.Shelf
attribute [local go_sem] Oper.semAt_some
theorem cell_new_l (W : World) (v : Value) (t : TypeId) : (W.alloc (.cells #[v] t)).cell? ⟨W.heap.size, 0, none⟩ = some v ∧ (W.alloc (.cells #[v] t)).frozen? ⟨W.heap.size, 0, none⟩ = false :=
  ⟨cell_of_one (heap_new W _), free_of_one (heap_new W _)⟩
theorem cell_alloc_l {W : World} {a : Addr} {v : Value} (o : Obj) (h : W.cell? a = some v) : (W.alloc o).cell? a = some v := cell_kept h (World.grownBy_alloc W o none) (fun r e => by cases e)
theorem frozen_alloc_l {W : World} {a : Addr} {v : Value} (o : Obj) (h : W.cell? a = some v) (hf : W.frozen? a = false) : (W.alloc o).frozen? a = false := (frozen_kept h (World.grownBy_alloc W o none) (fun r e => by cases e)).trans hf
theorem keptOn_put {R : Nat → Prop} {w : World} (hR : ∀ k, R k → k < w.heap.size) (W : World) (l : Nat) (o o' : Obj) (hl : w.heap.size ≤ l) (_ : W.heap[l]? = some o) (_ : o.isCells = false) (_ : o.isWalk = false) : KeptOn R W (W.putObj l o') :=
 fun k hk => World.putObj_heap_other (by have := hR k hk; omega)
def upto {α : Type} (f : Nat → α) (k : Nat) : List α := (List.range k).map f
theorem upto_succ {α : Type} (f : Nat → α) (k : Nat) : upto f (k + 1) = upto f k ++ [f k] := by simp [upto, List.range_succ]
theorem upto_length {α : Type} (f : Nat → α) (k : Nat) : (upto f k).length = k := by simp [upto]
theorem backward1_in (F : Fence) (n : Nat) (h7 : F.fn 179) (hro : F.round = none) (hn : 1 ≤ n) (l Bs b off len cap : Nat) (zs : Nat → UInt8) (hreach : len * 8 ≤ 140737488351232) (J Jx : List (Nat × UInt8) → World → Prop)
    (hY : ∀ pre x W, J pre W → pre.length < len → YieldAt F (n - 1) Tryz.prog l #[.int .i64 (x.1 : Int), .int .u8 ↑x.2.toNat] W fun e W' =>
      (e = .returned (.bool true) ∧ J (pre ++ [x]) W' ∧ KeptOn (fun k => k = Bs ∨ k = b) W W') ∨ (e = .returned (.bool false) ∧ Jx (pre ++ [x]) W'))
    (W : World) (hBs : W.cell? ⟨Bs, 0, none⟩ = some (.slice (some ⟨b, off, none⟩) len cap)) (hc : ∀ j, j < len → W.cell? ⟨b, off + j, none⟩ = some (.int .u8 ↑(zs j).toNat)) (h0 : J [] W) :
    CallsIn F n Tryz.prog 179 #[.func (.yield l) #[] #[], .pointer (some ⟨Bs, 0, none⟩)] W fun e W' => (∃ v, e = .returned v) ∧
      ((∃ ys, ys = upto (fun i => (len - 1 - i, zs (len - 1 - i))) len ∧ J ys W') ∨ (∃ pre, (∃ k, k ≤ len ∧ pre = upto (fun i => (len - 1 - i, zs (len - 1 - i))) k) ∧ Jx pre W')) := by
  refine callsIn_of_wp Tryz.func179 rfl h7 ?_ hro
  simp only [Tryz.ntmps179, List.size_toArray, List.length_cons, List.length_nil, Nat.reduceAdd, Nat.reduceSub, Array.replicate_succ, Array.replicate_zero, List.push_toArray, List.append_toArray, List.nil_append, List.cons_append]
  gi_wp2
  gi_loopw [3] (fun i wr => ∃ k : Nat, k ≤ len ∧ i = .int .i64 ((len : Int) - 1 - k) ∧ J (upto (fun i => (len - 1 - i, zs (len - 1 - i))) k) wr ∧ KeptOn (fun k => k = Bs ∨ k = b) W wr)
    (fun i _ => (intOf i + 1).toNat)
  case atStart => exact ⟨0, Nat.zero_le _, by simp, h0, KeptOn.refl _ _⟩
  case round =>
    obtain ⟨k, hk, rfl, hJs, hnx⟩ := hrel
    have hBs' : wr.cell? ⟨Bs, 0, none⟩ = some (.slice (some ⟨b, off, none⟩) len cap) := (hnx.cell (.inl rfl) 0).trans hBs
    by_cases hlt : k < len
    · obtain ⟨m, hm⟩ : ∃ m, m = len - 1 - k := ⟨_, rfl⟩
      have hmi : (len : Int) - 1 - k = m := by omega
      have hml : m < len := by omega
      have hcx : wr.cell? ⟨b, off + m, none⟩ = some (.int .u8 ↑(zs m).toNat) := (hnx.cell (.inr rfl) (off + m)).trans (hc m hml)
      obtain ⟨fn, tmps, assign, body, hy, hR⟩ := hY _ (m, zs m) wr hJs (by rw [upto_length]; exact hlt)
      dsimp only at hy
      rw [hmi]
      have HM := qH (And.intro hm hmi)
      clear hm hmi hc
      gi_wp2
      refine hR.mono ?_
      rintro e W3 (⟨rfl, hJ3, hk3⟩ | ⟨rfl, hJx3⟩)
      · gi_wp2
        go_roundw
        case rel =>
          have h1 := HM.out.1
          exact ⟨k + 1, by omega, by first | go_num | (congr 1; omega), by rw [upto_succ, ← h1]; exact hJ3, hnx.trans hk3⟩
        case measure => simp [intOf] <;> omega
      · gi_wp2
        refine bodyPost_ret (results_none rfl _ _ _) rfl ?_
        exact ⟨⟨_, rfl⟩, .inr ⟨_, ⟨k + 1, by omega, rfl⟩, by rw [upto_succ, ← HM.out.1]; exact hJx3⟩⟩
    · obtain rfl : k = len := by omega
      have hneg : (k : Int) - 1 - k = -1 := by omega
      rw [hneg]
      clear hneg
      gi_wp2
      go_end0
      exact ⟨⟨_, rfl⟩, .inl ⟨_, rfl, hJs⟩⟩
theorem backward_stops (n : Nat) (hn : 1 ≤ n) (Bs b off len cap : Nat) (zs : Nat → UInt8) (hreach : len * 8 ≤ 140737488351232) (w : World) (hBs : Bs < w.heap.size) (hb : b < w.heap.size)
  (hc : w.cell? ⟨Bs, 0, none⟩ = some (.slice (some ⟨b, off, none⟩) len cap)) (hI : ∀ j, j < len → w.cell? ⟨b, off + j, none⟩ = some (.int .u8 ↑(zs j).toNat)) :
  SeqStopsK Fence.wide n Tryz.prog 179 #[.pointer (some ⟨Bs, 0, none⟩)] (fun x : Nat × UInt8 => #[Value.int .i64 (x.1 : Int), Value.int .u8 ↑x.2.toNat]) (KeptOn (fun k => k = Bs ∨ k = b)) (fun ys => ys = upto (fun i => (len - 1 - i, zs (len - 1 - i))) len)
   (fun pre => ∃ k, k ≤ len ∧ pre = upto (fun i => (len - 1 - i, zs (len - 1 - i))) k) len w := fun l J Jx W hW _ _ hY h0 =>
 backward1_in Fence.wide n trivial rfl hn l Bs b off len cap zs hreach J Jx hY W ((hW.cell (p := ⟨Bs, 0, none⟩) hBs).trans hc) (fun j hj => (hW.cell (p := ⟨b, off + j, none⟩) hb).trans (hI j hj)) h0
theorem Backward_any (a : Option Addr) (len cap : Nat) (w : World) :
  Calls Tryz.prog 144 #[.slice a len cap] w fun e w' => e = .returned (.func (.func 179) #[] #[.pointer (some ⟨w.heap.size, 0, none⟩)]) ∧ w' = w.alloc (.cells #[.slice a len cap] 81) := by
 go_enter Tryz.func144, Tryz.ntmps144
 go_wp2
 go_ret
 exact ⟨rfl, rfl⟩
def accU (l : List (Nat × UInt8)) : UInt64 := l.foldl (fun a x => (a <<< 8) ||| x.2.toUInt64) 0
theorem accU_snoc (l : List (Nat × UInt8)) (x : Nat × UInt8) : accU (l ++ [x]) = (accU l <<< 8) ||| x.2.toUInt64 := by simp [accU]
theorem accU_step (a : UInt64) (b : UInt8) : ((a <<< 8) ||| b.toUInt64).toNat = a.toNat * 256 % 18446744073709551616 + b.toNat := by
 have hb := b.toNat_lt
 have e : (a <<< 8).toNat = (a.toNat * 256 % 18446744073709551616 / 256) <<< 8 := by
  simp [UInt64.toNat_shiftLeft, Nat.shiftLeft_eq]; omega
 rw [UInt64.toNat_or, e, UInt8.toNat_toUInt64, ← Nat.shiftLeft_add_eq_or_of_lt (by omega), Nat.shiftLeft_eq]
 omega
theorem accU_word (v : UInt64) (f : Nat → Nat) : accU (upto (fun i => (f i, UInt8.ofNat (v.toNat / 2 ^ (8 * (7 - i))))) 8) = v := by
 apply UInt64.toNat_inj.1
 have hv := v.toNat_lt
 have h : upto (fun i => (f i, UInt8.ofNat (v.toNat / 2 ^ (8 * (7 - i))))) 8 = [(f 0, UInt8.ofNat (v.toNat / 2 ^ 56)), (f 1, UInt8.ofNat (v.toNat / 2 ^ 48)), (f 2, UInt8.ofNat (v.toNat / 2 ^ 40)), (f 3, UInt8.ofNat (v.toNat / 2 ^ 32)), (f 4, UInt8.ofNat (v.toNat / 2 ^ 24)), (f 5, UInt8.ofNat (v.toNat / 2 ^ 16)), (f 6, UInt8.ofNat (v.toNat / 2 ^ 8)), (f 7, UInt8.ofNat (v.toNat / 2 ^ 0))] := rfl
 rw [h]
 simp only [accU, List.foldl_cons, List.foldl_nil, accU_step]
 simp only [UInt8.toNat_ofNat', UInt64.toNat_zero, Nat.reducePow]
 omega
theorem Load_yes {w : World} {p q : Nat} {ws : List UInt64} (h : SegAt w p q ws) (off : UInt64) (hin : inB ws off = true) :
  Calls Tryz.prog 88 #[.pointer (some ⟨p, 0, none⟩), .int .u64 ↑off.toNat] w fun e w' =>
   e = .returned (.tuple #[.int .u64 ↑(ws[off.toNat / 8]?.getD 0).toNat, .int .i64 0]) ∧ Keeps Nil w w' := by
 have h0 := h
 obtain ⟨h1, h2, h3, cap, c, h4, h4', h5, h6, h7, h8⟩ := h
 have hin2 : off.toNat % 8 = 0 ∧ off.toNat < 8 * ws.length := by simpa [inB] using hin
 have hlim : off.toNat + 8 ≤ 8 * ws.length := by omega
 have hcap : off.toNat + 8 ≤ cap := by omega
 have hp := cell_of_one h5
 have hpl := getElem?_lt h5
 have hql := getElem?_lt h6
 have HC := qH (And.intro h7 h8)
 have HM := qH hin2.1
 have HI := qH hin
 have H6 := qH h6
 clear hin2 h7 h8 hin h5 h6
 refine (callsIn_wide (n := 4)).1 ?_
 refine callsIn_of_wp_marks Tryz.func88 rfl trivial ?_ rfl
 simp only [Tryz.ntmps88, List.size_toArray, List.length_cons, List.length_nil, Nat.reduceAdd, Nat.reduceSub, Array.replicate_succ, Array.replicate_zero, List.push_toArray, List.append_toArray, List.nil_append, List.cons_append]
 gi_wp2_with (refine ⟨trivial, ?_⟩; gi_at_call 143; refine (callsIn_wide.2 (in_some h0 off)).mono ?_; rintro e w' ⟨rfl, rfl⟩; rw [HI.out])
 gi_wp2_with (refine ⟨trivial, ?_⟩; gi_at_call 144; refine (callsIn_wide.2 (Backward_any _ _ _ _)).mono ?_; rintro e w' ⟨rfl, rfl⟩)
 have hs := cell_new_l w (.int .u64 0) 25
 have hb := cell_new_l (w.alloc (.cells #[.int .u64 0] 25)) (.slice (some ⟨q, off.toNat, none⟩) 8 (cap - off.toNat)) 81
 rw [World.size_alloc] at hb
 have hcc : ∀ j, j < 8 → ((w.alloc (.cells #[.int .u64 0] 25)).alloc (.cells #[.slice (some ⟨q, off.toNat, none⟩) 8 (cap - off.toNat)] 81)).cell? ⟨q, off.toNat + j, none⟩ = some (.int .u8 ↑(byteAt ws (off.toNat + j)).toNat) := by
  intro j hj
  have e := heap_old (w.alloc (.cells #[.int .u64 0] 25)) (.cells #[.slice (some ⟨q, off.toNat, none⟩) 8 (cap - off.toNat)] 81) (heap_old w (.cells #[.int .u64 0] 25) H6.out)
  simp only [World.cell?, e]
  have := HC.out.2 (off.toNat + j) (by omega)
  simpa using this
 refine wpIn_rangeFunc_ownF rfl (by omega) (gf := 179) (lb := #[.pointer (some ⟨w.heap.size + 1, 0, none⟩)]) rfl trivial (enters_of Tryz.func179 (by kernel_rfl) rfl)
  (backward_stops (4 - 1) (by omega) (w.heap.size + 1) q off.toNat 8 (cap - off.toNat) (fun j => byteAt ws (off.toNat + j)) (by omega) _ (by simp) (by simp; omega) hb.1 hcc) KeptOn.trans (keptOn_put (by rintro k (rfl | rfl) <;> simp; omega)) (Below.refl _ _) (fun _ => rfl)
  (fun pre W => (W.cell? ⟨w.heap.size, 0, none⟩ = some (.int .u64 ↑(accU pre).toNat) ∧ W.frozen? ⟨w.heap.size, 0, none⟩ = false) ∧ Below w.heap.size w W)
  (fun _ _ _ => False)
  (OwnFrom.and (Own.from (fun s A B row hs hg hr => ⟨cell_kept hs.1 hg hr, (frozen_kept hs.1 hg hr).trans hs.2⟩) _) (ownFrom_below (Nat.le_refl _) (by simp; omega)))
  (fun _ _ _ _ _ hs _ _ => hs)
  ⟨⟨cell_alloc_l _ hs.1, frozen_alloc_l _ hs.1 hs.2⟩, ((Below.refl _ w).alloc (Nat.le_refl _) _).alloc (by simp) _⟩
  (fun x => { tmps := #[.pointer (some ⟨p, 0, none⟩), .int .u64 ↑off.toNat, undef, undef, .int .u64 0, .int .i64 0, .pointer (some ⟨w.heap.size, 0, none⟩), undef, .int .u8 ↑x.2.toNat, .pointer (some ⟨p, 0, none⟩), .int .u64 ↑off.toNat, .bool true, .bool false, .pointer (some ⟨p, 0, none⟩), .pointer (some ⟨p, 0, none⟩), .pointer (some ⟨p, 0, none⟩), .slice (some ⟨q, 0, none⟩) (8 * ws.length) cap, .int .u64 ↑off.toNat, .int .u64 ↑off.toNat, .int .u64 (↑off.toNat + 8), .slice (some ⟨q, off.toNat, none⟩) 8 (cap - off.toNat), .func (.func 179) #[] #[.pointer (some ⟨w.heap.size + 1, 0, none⟩)], .int .i64 x.1, .int .u8 ↑x.2.toNat, undef, undef, undef, undef, undef, undef], defers := [] }) ?assign ?body ?done ?stop
 case assign =>
  intro l x W K hK
  gi_wp2
  exact hK
 case body =>
  rintro l pre x W ⟨⟨hc, hf⟩, hB⟩ _
  gi_wp2
  have e : bits BinOp.or IntKind.u64 (IntKind.u64.wrap (↑(accU pre).toNat * 256)) (IntKind.u64.wrap ↑x.2.toNat) = ((accU (pre ++ [x])).toNat : Int) := by
   rw [accU_snoc, u64_shl8, u64_byte, Go.Proofs.YtefpbljekfkefaaGreat.u64_or]
  rw [e]
  refine ⟨KeepsOthers.setCell _ _ _, ?_, ⟨World.cell?_setCell_same' _ _ _ (by rw [hc]; rfl), by rw [World.frozen?_setCell]; exact hf⟩, hB.setCell (p := ⟨w.heap.size, 0, none⟩) (Nat.le_refl _) _⟩
  rintro k (rfl | rfl)
  · exact Below.heap_setCell _ _ _ _ (by simp)
  · exact Below.heap_setCell _ _ _ _ (by simp; omega)
 case done =>
  rintro D ys W hD rfl ⟨⟨hc, hf⟩, hB⟩ hK
  have hv : accU (upto (fun i => (8 - 1 - i, byteAt ws (off.toNat + (8 - 1 - i)))) 8) = ws.getD (off.toNat / 8) 0 := by
   rw [← accU_word (ws.getD (off.toNat / 8) 0) (fun i => 8 - 1 - i)]
   congr 1
   unfold upto
   apply List.map_congr_left
   intro i hi
   have hi' : i < 8 := by simpa using hi
   have hm := HM.out
   have e1 : (off.toNat + (8 - 1 - i)) / 8 = off.toNat / 8 := by omega
   have e2 : (off.toNat + (8 - 1 - i)) % 8 = 7 - i := by omega
   simp only [byteAt, e1, e2]
  rw [hv] at hc
  gi_wp2
  refine ⟨by simp, .inl ⟨_, _, rfl, run_takeDeferred hK, ?_⟩⟩
  exact ⟨_, results_tmp2 rfl _ _ _, rfl, Keeps.of_below (hB.trans (belowK_b (w := w) (Nat.le_refl _) W D _ _ (by simp at hD; omega) hK rfl rfl))⟩
 case stop =>
  rintro D c pre W _ _ h _
  exact h.elim
theorem Load_no {w : World} {p q : Nat} {ws : List UInt64} (h : SegAt w p q ws) (off : UInt64) (hin : inB ws off = false) :
  Calls Tryz.prog 88 #[.pointer (some ⟨p, 0, none⟩), .int .u64 ↑off.toNat] w fun e w' =>
   e = .returned (.tuple #[.int .u64 0, .int .i64 1]) ∧ w = w' := by
 have HI := qH hin
 clear hin
 go_enter Tryz.func88, Tryz.ntmps88
 go_wp2_with (go_at_call 143; refine (in_some h off).mono ?_; rintro e w' ⟨rfl, rfl⟩; rw [HI.out])
 go_ret2
 exact ⟨rfl, rfl⟩
theorem Load_any {w : World} {p q : Nat} {ws : List UInt64} (h : SegAt w p q ws) (off : UInt64) (x : Int) (hx : x = (off.toNat : Int)) :
  Calls Tryz.prog 88 #[.pointer (some ⟨p, 0, none⟩), .int .u64 x] w fun e w' =>
   e = .returned (.tuple #[.int .u64 ↑(loadV ws off).toNat, .int .i64 (errV ws off)]) ∧ Keeps Nil w w' := by
 subst hx
 cases hin : inB ws off with
 | true => refine (Load_yes h off hin).mono ?_; rintro e w' ⟨rfl, hk⟩; exact ⟨by simp [loadV, errV, hin], hk⟩
 | false => refine (Load_no h off hin).mono ?_; rintro e w' ⟨rfl, rfl⟩; exact ⟨by simp [loadV, errV, hin], Keeps.refl _ _⟩
end
section
open Go.RowKit
theorem info_u8 : (Tryz.prog.info? 5).map (fun i => (i.zero, i.size, i.bytes)) = some (some (.int .u8 0), 1, 1) := by kernel_rfl
def mayB (size : UInt64) : Bool := size.toNat != 0 && size.toNat % 8 == 0 && decide (size.toNat ≤ 1048576)
theorem byteAt_zeros (n i : Nat) : byteAt (List.replicate n 0) i = 0 := by
 unfold byteAt
 have e : (List.replicate n (0 : UInt64)).getD (i / 8) 0 = 0 := by
  rw [List.getD_eq_getElem?_getD, List.getElem?_replicate]; split <;> rfl
 rw [e]; simp
theorem made_get (z : Value) (n i : Nat) (h : i < n) : (madeCells #[z] n)[i]? = some z := by
 simp [madeCells, h, Nat.mod_one]
theorem New_yes (w : World) (size : UInt64) (h : mayB size = true) (x : Int) (hx : x = (size.toNat : Int)) :
  Calls Tryz.prog 127 #[.int .u64 x] w fun e w' =>
   e = .returned (.pointer (some ⟨w.heap.size + 1, 0, none⟩)) ∧ SegAt w' (w.heap.size + 1) w.heap.size (List.replicate (size.toNat / 8) 0) ∧ Keeps Nil w w' ∧ w'.heap.size = w.heap.size + 2 := by
 subst hx
 simp [mayB] at h
 obtain ⟨⟨h1, h2⟩, h3⟩ := h
 obtain ⟨i0, hi, hz0, hz1, hz2⟩ := info_parts info_u8
 obtain ⟨n, hn⟩ : ∃ n, n = size.toNat := ⟨_, rfl⟩
 rw [← hn] at h1 h2 h3 ⊢
 have hmk : ∀ w : World, (Instr.makeSlice 81 (.int .u64 (n : Int)) (.int .u64 (n : Int))).run Tryz.prog w = .ok (.slice (some ⟨w.heap.size, 0, none⟩) n n) (w.alloc (.cells (madeCells #[.int .u8 0] n) 5)) := fun w => by
  have := run_make (P := Tryz.prog) w 81 5 i0 (.int .u8 0) Tryz.underlying81 hi hz0 .u64 .u64 n n (by omega) (by omega) (by rw [hz2]; omega) (by omega)
  simpa [hz1, Value.cells] using this
 have t1 : ((n : Int) == 0) = false := by simp; omega
 have t2 : ((n : Int) % 8 != 0) = false := by simp; omega
 have t3 : ¬ (1048576 < (n : Int)) := by omega
 have HN := qH (And.intro h1 h2)
 have HI := qH (And.intro hi (And.intro hz1 hz2))
 have HNN := qH hn
 clear hn h1 h2 hi hz0 hz1 hz2
 go_enter Tryz.func127, Tryz.ntmps127
 go_wp2
 go_ret
 obtain ⟨h1, h2⟩ := HN.out
 have e8 : 8 * (n / 8) = n := by omega
 refine ⟨by simp, ⟨by omega, by simp; omega, by simp; omega, n, madeCells #[.int .u8 0] n, by simp; omega, by unfold maxLen; omega, ?_, ?_, by simp [madeCells], ?_⟩, (((Keeps.refl Nil w).alloc _).alloc _), by simp⟩
 ·have := heap_new (w.alloc (.cells (madeCells #[.int .u8 0] n) 5)) (.cells #[.slice (some ⟨w.heap.size, 0, none⟩) n n] 197)
  simpa [e8] using this
 ·exact heap_old _ _ (heap_new w _)
 ·intro i hi'
  rw [List.length_replicate, e8] at hi'
  rw [made_get _ _ _ hi', byteAt_zeros]; rfl
def offU (k : Nat) : UInt64 := UInt64.ofNat (8 * k)
theorem off_ofNat {k : Nat} (h : k ≤ 131072) : (offU k).toNat = 8 * k := by
 simp [offU]; omega
end
end Go.Proofs.YtefpbljekfkefaaGreat
