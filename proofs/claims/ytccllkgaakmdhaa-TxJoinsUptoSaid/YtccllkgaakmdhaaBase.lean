/- What a call may turn in memory ('Keeps'), and small facts on words of 64 bits: no program in sight. -/
import Derived.Test.YtccllkgaakmdhaaRows
import Derived.WalkKit
import Derived.WalkSpells
import Derived.WalkLawsBesides
import Derived.Lib.Hide
namespace Go.Proofs.Ytccllkgaakmdhaa
open Go.RowKit

/-- Of the blocks that are there, none outside of S turns; none goes. -/
structure Keeps (S : Nat → Prop) (w w' : World) : Prop where
  os : w'.os = w.os
  tape : w'.tape = w.tape
  output : w'.output = w.output
  size : w.heap.size ≤ w'.heap.size
  block : ∀ k, k < w.heap.size → ¬ S k → w'.heap[k]? = w.heap[k]?

def Nil : Nat → Prop := fun _ => False

theorem Keeps.refl (S : Nat → Prop) (w : World) : Keeps S w w := ⟨rfl, rfl, rfl, Nat.le_refl _, fun _ _ _ => rfl⟩
/-- The second step may turn blocks of its own set, as far as they are new or of the first one's. -/
theorem Keeps.trans {S S' : Nat → Prop} {a b c : World} (h : Keeps S a b) (k : Keeps S' b c) (hs : ∀ i, i < a.heap.size → S' i → S i) : Keeps S a c :=
  ⟨k.os.trans h.os, k.tape.trans h.tape, k.output.trans h.output, Nat.le_trans h.size k.size,
    fun i hi hn => (k.block i (Nat.lt_of_lt_of_le hi h.size) (fun e => hn (hs i hi e))).trans (h.block i hi hn)⟩
theorem Keeps.trans' {S : Nat → Prop} {a b c : World} (h : Keeps S a b) (k : Keeps S b c) : Keeps S a c := h.trans k (fun _ _ e => e)
theorem Keeps.then_nil {S : Nat → Prop} {a b c : World} (h : Keeps S a b) (k : Keeps Nil b c) : Keeps S a c := h.trans k (fun _ _ e => e.elim)
theorem Keeps.of_nil {S : Nat → Prop} {a b : World} (h : Keeps Nil a b) : Keeps S a b := ⟨h.os, h.tape, h.output, h.size, fun k hk _ => h.block k hk (fun e => e)⟩
theorem Keeps.mono {S S' : Nat → Prop} {a b : World} (h : Keeps S a b) (hs : ∀ i, i < a.heap.size → S i → S' i) : Keeps S' a b :=
  ⟨h.os, h.tape, h.output, h.size, fun k hk hn => h.block k hk (fun e => hn (hs k hk e))⟩
theorem Keeps.drew {S : Nat → Prop} {a w : World} (h : Keeps S a w) : Keeps S a w.drew := ⟨h.os, h.tape, h.output, h.size, h.block⟩
theorem Keeps.alloc {S : Nat → Prop} {a w : World} (h : Keeps S a w) (o : Obj) : Keeps S a (w.alloc o) :=
  h.then_nil ⟨rfl, rfl, rfl, by simp, fun k hk _ => Below.heap_alloc w o k hk⟩
theorem Keeps.setCell {S : Nat → Prop} {a w : World} (h : Keeps S a w) {p : Addr} (hp : p.block < a.heap.size → S p.block) (u : Value) : Keeps S a (w.setCell p u) :=
  h.trans (S' := fun k => k = p.block) ⟨rfl, rfl, rfl, by simp [World.setCell], fun k _ hne => Below.heap_setCell _ _ _ _ hne⟩ (fun i hi e => by subst e; exact hp hi)
theorem Keeps.grown {S : Nat → Prop} {a w w' : World} {row : Option Nat} (h : Keeps S a w) (hg : w.grownBy w' row) (hr : ∀ k, row = some k → k < a.heap.size → S k) : Keeps S a w' :=
  h.trans (S' := fun k => some k = row) ⟨hg.os, hg.tape, hg.output, hg.size, fun k hk hne => hg.block k hk hne⟩ (fun i hi e => hr i e.symm hi)
theorem Keeps.below {w w' : World} (h : Keeps Nil w w') : Below w.heap.size w w' := ⟨h.os, h.tape, h.output, h.size, fun k hk => h.block k hk (fun e => e)⟩
theorem Keeps.belowOf {S : Nat → Prop} {B : Nat} {w w' : World} (h : Keeps S w w') (hB : B ≤ w.heap.size) (hs : ∀ k, k < B → ¬ S k) : Below B w w' :=
  ⟨h.os, h.tape, h.output, h.size, fun k hk => h.block k (by omega) (hs k hk)⟩
theorem Keeps.of_below {w w' : World} (h : Below w.heap.size w w') : Keeps Nil w w' := ⟨h.os, h.tape, h.output, h.size, fun k hk _ => h.block k hk⟩
theorem Keeps.cell {S : Nat → Prop} {w w' : World} (h : Keeps S w w') {b : Nat} (hb : b < w.heap.size) (hS : ¬ S b) (o : Nat) : w'.cell? ⟨b, o, none⟩ = w.cell? ⟨b, o, none⟩ :=
  World.cell?_of_block (w := w) (a := ⟨b, o, none⟩) (h.block b hb hS)
theorem Keeps.frozen {S : Nat → Prop} {w w' : World} (h : Keeps S w w') {b : Nat} (hb : b < w.heap.size) (hS : ¬ S b) (o : Nat) : w'.frozen? ⟨b, o, none⟩ = w.frozen? ⟨b, o, none⟩ :=
  World.frozen?_of_block (w := w) (a := ⟨b, o, none⟩) (h.block b hb hS)

theorem getElem?_lt {w : World} {k : Nat} {o : Obj} (h : w.heap[k]? = some o) : k < w.heap.size := (Array.getElem?_eq_some_iff.1 h).1
theorem Keeps.at {S : Nat → Prop} {w w' : World} (h : Keeps S w w') {b : Nat} {o : Obj} (hb : w.heap[b]? = some o) (hS : ¬ S b) : w'.heap[b]? = some o :=
  (h.block b (getElem?_lt hb) hS).trans hb

theorem heap_new (w : World) (o : Obj) : (w.alloc o).heap[w.heap.size]? = some o := by
  show (w.heap.push o)[w.heap.size]? = some o
  simp
theorem heap_old (w : World) (o : Obj) {k : Nat} {x : Obj} (h : w.heap[k]? = some x) : (w.alloc o).heap[k]? = some x := (Below.heap_alloc w o k (getElem?_lt h)).trans h

theorem heap_setCell_eq {w : World} {b : Nat} {c : Array Value} {T : TypeId} {f : Nat × Nat} (h : w.heap[b]? = some (.cells c T f)) (o : Nat) (u : Value) : (w.setCell ⟨b, o, none⟩ u).heap[b]? = some (.cells (c.setIfInBounds o u) T f) := by
  have hlt := getElem?_lt h
  have h' : w.heap[b] = .cells c T f := by simpa [Array.getElem?_eq_getElem hlt] using h
  show (w.heap.modify b _)[b]? = _
  rw [Array.getElem?_eq_getElem (by simpa using hlt), Array.getElem_modify_self, h']
  rfl
theorem heap_setCell_ne {w : World} {k : Nat} {x : Obj} (h : w.heap[k]? = some x) (a : Addr) (u : Value) (hne : k ≠ a.block) : (w.setCell a u).heap[k]? = some x := (Below.heap_setCell w a u k hne).trans h
theorem keeps_setCell (w : World) (a : Addr) (u : Value) : Keeps (fun k => k = a.block) w (w.setCell a u) := Keeps.setCell (S := fun k => k = a.block) (Keeps.refl _ w) (fun _ => rfl) u
/-- a store into a block that is new since w0 -/
theorem Keeps.setNew {w0 w : World} (h : Keeps Nil w0 w) {a : Addr} (ha : w0.heap.size ≤ a.block) (u : Value) : Keeps Nil w0 (w.setCell a u) := h.setCell (fun e => by omega) u

/-- the blocks of R are as they were -/
def KeptOn (R : Nat → Prop) (w w' : World) : Prop := ∀ k, R k → w'.heap[k]? = w.heap[k]?
theorem KeptOn.refl (R : Nat → Prop) (w : World) : KeptOn R w w := fun _ _ => rfl
theorem KeptOn.trans {R : Nat → Prop} {a b c : World} (h : KeptOn R a b) (k : KeptOn R b c) : KeptOn R a c := fun i hi => (k i hi).trans (h i hi)
theorem KeptOn.cell {R : Nat → Prop} {w w' : World} (h : KeptOn R w w') {b : Nat} (hb : R b) (o : Nat) : w'.cell? ⟨b, o, none⟩ = w.cell? ⟨b, o, none⟩ := World.cell?_of_block (w := w) (a := ⟨b, o, none⟩) (h b hb)
theorem Keeps.on {S R : Nat → Prop} {w w' : World} (h : Keeps S w w') (hR : ∀ k, R k → k < w.heap.size ∧ ¬ S k) : KeptOn R w w' := fun k hk => h.block k (hR k hk).1 (hR k hk).2

/-! ### results that lie in memory -/
section
variable {P : Program} {fn : Func} {tmps : Array Value} {w : World} {p u v : Tmp} {ty : TypeId} {g : Nat} {t : TypeId} {cs : Array Value} {fr : Nat × Nat} {d : TypeDesc}
theorem results_row (h : fn.results = #[.cell p ty]) (ht : tmps.getD p undef = .pointer (some ⟨g, 0, none⟩)) (hg : w.heap[g]? = some (.cells cs t fr))
    (hu : P.underlying ty = some d) (hd : (match d with | .struct _ | .array _ _ => true | _ => false) = true) (hi : (P.info? ty).map (·.size) = some cs.size) : (results fn tmps).run P w = .ok (.agg cs) w := by
  have hr := run_loadVar_row (P := P) w g t ty cs fr d hg hu hd hi
  have ht' : tmps[p]?.getD undef = .pointer (some ⟨g, 0, none⟩) := by simpa using ht
  simp only [results, h]
  simp [Sem.run_bind, Result.andThen, ht', asAddr, hr]
theorem results_row_tmp (h : fn.results = #[.cell p ty, .tmp u]) (ht : tmps.getD p undef = .pointer (some ⟨g, 0, none⟩)) (hg : w.heap[g]? = some (.cells cs t fr))
    (hu : P.underlying ty = some d) (hd : (match d with | .struct _ | .array _ _ => true | _ => false) = true) (hi : (P.info? ty).map (·.size) = some cs.size) : (results fn tmps).run P w = .ok (.tuple #[.agg cs, tmps.getD u undef]) w := by
  have hr := run_loadVar_row (P := P) w g t ty cs fr d hg hu hd hi
  have ht' : tmps[p]?.getD undef = .pointer (some ⟨g, 0, none⟩) := by simpa using ht
  simp only [results, h]
  simp [Sem.run_bind, Result.andThen, ht', asAddr, hr]
theorem results_tmp_row (h : fn.results = #[.tmp u, .cell p ty]) (ht : tmps.getD p undef = .pointer (some ⟨g, 0, none⟩)) (hg : w.heap[g]? = some (.cells cs t fr))
    (hu : P.underlying ty = some d) (hd : (match d with | .struct _ | .array _ _ => true | _ => false) = true) (hi : (P.info? ty).map (·.size) = some cs.size) : (results fn tmps).run P w = .ok (.tuple #[tmps.getD u undef, .agg cs]) w := by
  have hr := run_loadVar_row (P := P) w g t ty cs fr d hg hu hd hi
  have ht' : tmps[p]?.getD undef = .pointer (some ⟨g, 0, none⟩) := by simpa using ht
  simp only [results, h]
  simp [Sem.run_bind, Result.andThen, ht', asAddr, hr]
theorem results_tmp2_row (h : fn.results = #[.tmp u, .tmp v, .cell p ty]) (ht : tmps.getD p undef = .pointer (some ⟨g, 0, none⟩)) (hg : w.heap[g]? = some (.cells cs t fr))
    (hu : P.underlying ty = some d) (hd : (match d with | .struct _ | .array _ _ => true | _ => false) = true) (hi : (P.info? ty).map (·.size) = some cs.size) : (results fn tmps).run P w = .ok (.tuple #[tmps.getD u undef, tmps.getD v undef, .agg cs]) w := by
  have hr := run_loadVar_row (P := P) w g t ty cs fr d hg hu hd hi
  have ht' : tmps[p]?.getD undef = .pointer (some ⟨g, 0, none⟩) := by simpa using ht
  simp only [results, h]
  simp [Sem.run_bind, Result.andThen, ht', asAddr, hr]
end

/-! ### words of 64 bits -/
theorem u64_wf (x : UInt64) : (Lit.int .u64 (x.toNat : Int)).wf = true := WalkArith.wf_u64 (by have := x.toNat_lt; omega)

theorem u64_of (n : Nat) (x : UInt64) (h : x.toNat = n % 18446744073709551616) (i : Int) (hi : i = (n : Int)) : IntKind.u64.wrap i = (x.toNat : Int) := by
  rw [IntKind.wrap_u64, hi, h]; omega
theorem u64_add (a b : UInt64) : IntKind.u64.wrap ((a.toNat : Int) + (b.toNat : Int)) = ((a + b).toNat : Int) :=
  u64_of (a.toNat + b.toNat) _ (by simp [UInt64.toNat_add]) _ (by omega)
theorem u64_sub (a b : UInt64) : IntKind.u64.wrap ((a.toNat : Int) - (b.toNat : Int)) = ((a - b).toNat : Int) := by
  rw [IntKind.wrap_u64, UInt64.toNat_sub]
  have := a.toNat_lt; have := b.toNat_lt
  omega
theorem u64_mul (a b : UInt64) : IntKind.u64.wrap ((a.toNat : Int) * (b.toNat : Int)) = ((a * b).toNat : Int) :=
  u64_of (a.toNat * b.toNat) _ (by simp [UInt64.toNat_mul]) _ (by simp)
theorem u64_or (a b : UInt64) : bits .or .u64 (a.toNat : Int) (b.toNat : Int) = ((a ||| b).toNat : Int) := by
  rw [u64_or_nat _ _ a.toNat_lt b.toNat_lt, UInt64.toNat_or]
theorem u64_xor (a b : UInt64) : bits .xor .u64 (a.toNat : Int) (b.toNat : Int) = ((a ^^^ b).toNat : Int) := by
  rw [u64_xor_nat _ _ a.toNat_lt b.toNat_lt, UInt64.toNat_xor]
theorem u64_self (x : UInt64) : IntKind.u64.wrap (x.toNat : Int) = (x.toNat : Int) := u64_of x.toNat x (by have := x.toNat_lt; omega) _ rfl
theorem u64_byte (x : UInt8) : IntKind.u64.wrap (x.toNat : Int) = (x.toUInt64.toNat : Int) := by
  have := x.toNat_lt
  rw [IntKind.wrap_u64]; simp; omega
theorem u64_shl8 (a : UInt64) : IntKind.u64.wrap ((a.toNat : Int) * 256) = ((a <<< 8).toNat : Int) :=
  u64_of (a.toNat * 256) _ (by simp [UInt64.toNat_shiftLeft, Nat.shiftLeft_eq]) _ (by omega)

end Go.Proofs.Ytccllkgaakmdhaa
