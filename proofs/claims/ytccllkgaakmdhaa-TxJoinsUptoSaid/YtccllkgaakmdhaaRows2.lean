/- Slices that read as lists: rows that a call owns, rows that it only reads; what append leaves. -/
import Derived.OwnWalkIn
import Derived.TacticsInMore
import Derived.Test.YtccllkgaakmdhaaBase
namespace Go.Proofs.Ytccllkgaakmdhaa
open Go.RowKit

/-- A kind of element: its cells. -/
structure Kind (α : Type) where
  slice : TypeId
  elem : TypeId
  size : Nat
  bytes : Nat
  zero : Value
  enc : α → List Value
  len : ∀ x, (enc x).length = size
  one : ∀ x, ∀ u ∈ enc x, u.oneCell' = true
  und : Try.prog.underlying slice = some (.slice elem)
  info : (Try.prog.info? elem).map (fun i => (i.zero, i.size, i.bytes)) = some (some zero, size, bytes)
  zcells : zero.cells.size = size
  pos : 0 < size
  small : bytes ≤ 64

variable {α : Type}

/-- the cells of a list -/
def Kind.cells (K : Kind α) (l : List α) : List Value := l.flatMap K.enc
theorem Kind.cells_length (K : Kind α) (l : List α) : (K.cells l).length = l.length * K.size := by
  induction l with
  | nil => simp [Kind.cells]
  | cons x l ih => simp only [Kind.cells, List.flatMap_cons, List.length_append, List.length_cons, K.len] at ih ⊢; rw [ih, Nat.succ_mul]; omega
theorem Kind.cells_append (K : Kind α) (l m : List α) : K.cells (l ++ m) = K.cells l ++ K.cells m := by simp [Kind.cells]
theorem Kind.cells_get (K : Kind α) (l : List α) (i j : Nat) (hj : j < K.size) : (K.cells l)[i * K.size + j]? = (l[i]?).bind (fun x => (K.enc x)[j]?) := by
  induction l generalizing i with
  | nil => simp [Kind.cells]
  | cons x l ih =>
    have hl := K.len x
    simp only [Kind.cells, List.flatMap_cons] at ih ⊢
    cases i with
    | zero => rw [List.getElem?_append_left (by omega)]; simp
    | succ i => rw [List.getElem?_append_right (by rw [hl, Nat.succ_mul]; omega), hl, show (i + 1) * K.size + j - K.size = i * K.size + j by rw [Nat.succ_mul]; omega, ih i]; simp

/-- A row of the call's own (blocks from 'base' on), that reads as a list. -/
def Own (K : Kind α) (w : World) (base : Nat) (v : Value) (l : List α) : Prop := w.ownsRow base K.elem K.size v l.length (K.cells l)
/-- A slice that reads as a list; its block is none of S. -/
def View (K : Kind α) (S : Nat → Prop) (w : World) (v : Value) (l : List α) : Prop :=
  (v = .slice none 0 0 ∧ l = []) ∨ ∃ b off cap, v = .slice (some ⟨b, off, none⟩) l.length cap ∧ l.length ≤ cap ∧ cap ≤ maxLen ∧ b < w.heap.size ∧ ¬ S b ∧ ∀ i j, j < K.size → i < l.length → w.cell? ⟨b, off + (i * K.size + j), none⟩ = (l[i]?).bind (fun x => (K.enc x)[j]?)

theorem Own.nil (K : Kind α) (w : World) (base : Nat) : Own K w base (.slice none 0 0) [] := World.ownsRow_nil w base _ _
theorem Own.made (K : Kind α) (w : World) (base : Nat) (h : base ≤ w.heap.size) : Own K (w.alloc (.cells #[] K.elem)) base (.slice (some ⟨w.heap.size, 0, none⟩) 0 0) [] := World.ownsRow_made w #[] 0 h (Nat.zero_le _) (by simp)
theorem Own.keeps {K : Kind α} {S : Nat → Prop} {w w' : World} {base : Nat} {v : Value} {l : List α} (h : Own K w base v l) (k : Keeps S w w') (hS : ∀ g, base ≤ g → g < w.heap.size → ¬ S g) : Own K w' base v l := by
  obtain ⟨h1, h2⟩ := h
  refine ⟨h1, ?_⟩
  rcases h2 with h2 | ⟨g, cap, cur, hv, hg, hh, r⟩
  · exact .inl h2
  · exact .inr ⟨g, cap, cur, hv, hg, k.at hh (hS g hg (getElem?_lt hh)), r⟩
theorem Own.keeps_nil {K : Kind α} {w w' : World} {base : Nat} {v : Value} {l : List α} (h : Own K w base v l) (k : Keeps Nil w w') : Own K w' base v l := h.keeps k (fun _ _ _ e => e)
theorem Own.alloc {K : Kind α} {w : World} {base : Nat} {v : Value} {l : List α} (h : Own K w base v l) (o : Obj) : Own K (w.alloc o) base v l := World.ownsRow.alloc h o
/-- its block, or none -/
theorem Own.block {K : Kind α} {w : World} {base : Nat} {v : Value} {l : List α} (h : Own K w base v l) {k : Nat} (hk : v.ownBlock = some k) : base ≤ k ∧ k < w.heap.size := by
  rcases h.2 with ⟨rfl, _⟩ | ⟨g, cap, cur, rfl, hg, hh, _⟩
  · simp [Value.ownBlock] at hk
  · simp [Value.ownBlock] at hk; subst hk; exact ⟨hg, getElem?_lt hh⟩
theorem Own.view {K : Kind α} {S : Nat → Prop} {w : World} {base : Nat} {v : Value} {l : List α} (h : Own K w base v l) (hS : ∀ g, base ≤ g → ¬ S g) : View K S w v l := by
  obtain ⟨h1, h2⟩ := h
  rcases h2 with ⟨rfl, h2⟩ | ⟨g, cap, cur, hv, hg, hh, hc, hm, hz, ht⟩
  · exact .inl ⟨rfl, List.eq_nil_of_length_eq_zero h2⟩
  · refine .inr ⟨g, 0, cap, hv, hc, hm, getElem?_lt hh, hS g hg, fun i j hj hi => ?_⟩
    rw [← K.cells_get l i j hj, ← ht]
    have hlt : i * K.size + j < l.length * K.size := by
      have := Nat.mul_le_mul_right K.size (show i + 1 ≤ l.length from hi)
      rw [Nat.succ_mul] at this; omega
    rw [List.getElem?_take_of_lt hlt]
    simp [World.cell?, hh]
theorem View.keeps {K : Kind α} {S S' : Nat → Prop} {w w' : World} {v : Value} {l : List α} (h : View K S w v l) (k : Keeps S' w w') (hS : ∀ g, S' g → S g) : View K S w' v l := by
  rcases h with h | ⟨b, off, cap, hv, hc, hm, hb, hn, hcell⟩
  · exact .inl h
  · exact .inr ⟨b, off, cap, hv, hc, hm, Nat.lt_of_lt_of_le hb k.size, hn, fun i j hj hi => (k.cell hb (fun e => hn (hS b e)) _).trans (hcell i j hj hi)⟩
theorem View.keeps_nil {K : Kind α} {S : Nat → Prop} {w w' : World} {v : Value} {l : List α} (h : View K S w v l) (k : Keeps Nil w w') : View K S w' v l := h.keeps k (fun _ e => e.elim)
theorem View.step {K : Kind α} {S S' : Nat → Prop} {w w' : World} {v : Value} {l : List α} (h : View K S w v l) (k : Keeps S w w') (hS : ∀ g, S' g → S g ∨ w.heap.size ≤ g) : View K S' w' v l := by
  rcases h with h | ⟨b, off, cap, hv, hc, hm, hb, hn, hcell⟩
  · exact .inl h
  · exact .inr ⟨b, off, cap, hv, hc, hm, Nat.lt_of_lt_of_le hb k.size, fun e => (hS b e).elim hn (fun e => by omega), fun i j hj hi => (k.cell hb hn _).trans (hcell i j hj hi)⟩
/-- another set of blocks that are shut out, as far as they are old or shut out already -/
theorem View.shut {K : Kind α} {S S' : Nat → Prop} {w : World} {v : Value} {l : List α} (h : View K S w v l) (hS : ∀ g, g < w.heap.size → S' g → S g) : View K S' w v l := by
  rcases h with h | ⟨b, off, cap, hv, hc, hm, hb, hn, hcell⟩
  · exact .inl h
  · exact .inr ⟨b, off, cap, hv, hc, hm, hb, fun e => hn (hS b hb e), hcell⟩

theorem View.val {K : Kind α} {S : Nat → Prop} {w : World} {v : Value} {l : List α} (h : View K S w v l) : ∃ a cap, v = .slice a l.length cap ∧ l.length ≤ maxLen := by
  rcases h with ⟨rfl, rfl⟩ | ⟨b, off, cap, rfl, hc, hm, _⟩
  · exact ⟨none, 0, rfl, Nat.zero_le _⟩
  · exact ⟨_, cap, rfl, by omega⟩
theorem View.pos {K : Kind α} {S : Nat → Prop} {w : World} {v : Value} {l : List α} (h : View K S w v l) (hp : 0 < l.length) : ∃ b off cap, v = .slice (some ⟨b, off, none⟩) l.length cap ∧ l.length ≤ cap ∧ cap ≤ maxLen ∧ b < w.heap.size ∧ ¬ S b ∧ ∀ i j, j < K.size → i < l.length → w.cell? ⟨b, off + (i * K.size + j), none⟩ = (l[i]?).bind (fun x => (K.enc x)[j]?) := by
  rcases h with ⟨_, rfl⟩ | h
  · simp at hp
  · exact h

theorem View.at {K : Kind α} {S : Nat → Prop} {w : World} {b off n cap : Nat} {l : List α} (h : View K S w (.slice (some ⟨b, off, none⟩) n cap) l) : n = l.length ∧ l.length ≤ cap ∧ cap ≤ maxLen ∧ b < w.heap.size ∧ ¬ S b ∧ ∀ i j, j < K.size → i < l.length → w.cell? ⟨b, off + (i * K.size + j), none⟩ = (l[i]?).bind (fun x => (K.enc x)[j]?) := by
  rcases h with ⟨e, _⟩ | ⟨b', off', cap', e, h⟩
  · cases e
  · simp only [Value.slice.injEq, Option.some.injEq, Addr.mk.injEq, and_true] at e
    obtain ⟨⟨rfl, rfl⟩, rfl, rfl⟩ := e
    exact ⟨rfl, h⟩

/-- where append leaves the row: where it was, or in a new block -/
theorem append_where (K : Kind α) (w : World) (base : Nat) {v : Value} {l : List α} (hown : Own K w base v l) (ty : TypeId) (ad : Addr) (m c : Nat) (news : List Value) (hl : news.length = m * K.size)
    (hnews : ∀ j u, news[j]? = some u → w.cell? (ad.add j) = some u) (h1 : ∀ u ∈ news, u.oneCell' = true) (hm : 0 < m) (h63 : l.length + m ≤ maxLen) (hbytes : (l.length + m) * K.bytes ≤ 140737488355328)
    {v' : Value} {w' : World} (hr : (Builtin.append_ #[K.slice, K.slice] ty #[v, .slice (some ad) m c]).run Try.prog w = .ok v' w') :
    ∃ g cap, v' = .slice (some ⟨g, 0, none⟩) (l.length + m) cap ∧ (v.ownBlock = some g ∨ g = w.heap.size) := by
  obtain ⟨i0, hi, hz0, hz1, hz2⟩ := info_parts K.info
  have h63' : l.length + m ≤ 9223372036854775807 := by simp only [maxLen] at h63; omega
  rw [← hz1] at hl
  rw [← hz2] at hbytes
  rcases hown.2 with ⟨rfl, h0⟩ | ⟨g, cap, cur, rfl, hbg, hg, hnc, hcm, hcs, htake⟩
  · have h := run_append_nil (P := Try.prog) w K.slice ty K.elem i0 K.zero K.und hi hz0 ad m c news hl hnews hm (by omega) (by rw [h0] at hbytes; simp only [Nat.zero_add] at hbytes; omega)
    rw [h] at hr
    simp only [Result.ok.injEq] at hr
    exact ⟨w.heap.size, _, by rw [← hr.1, h0, Nat.zero_add], .inr rfl⟩
  · by_cases hroom : l.length + m ≤ cap
    · have hfit : l.length * i0.size + news.length ≤ cur.size := by rw [hl, hcs, ← hz1, ← Nat.add_mul]; exact Nat.mul_le_mul_right _ hroom
      have h := run_append_room (P := Try.prog) w K.slice ty K.elem i0 K.und hi g l.length cap cur hg ad m c news hl hnews h1 hroom hfit
      rw [h] at hr
      simp only [Result.ok.injEq] at hr
      exact ⟨g, cap, hr.1.symm, .inl rfl⟩
    · have holds := World.ownsRow.cells hown (g := g) rfl
      have h := run_append_grow (P := Try.prog) w K.slice ty K.elem i0 K.zero K.und hi hz0 ⟨g, 0, none⟩ l.length cap (K.cells l) (by rw [hz1]; exact K.cells_length l) holds ad m c news hl hnews (by omega) (by omega) (growslice_fits (by omega) hbytes)
      rw [h] at hr
      simp only [Result.ok.injEq] at hr
      exact ⟨w.heap.size, _, hr.1.symm, .inr rfl⟩

theorem run_append_cells (K : Kind α) {w : World} (ty : TypeId) {base : Nat} {v : Value} {l l2 : List α} (hown : Own K w base v l) (ad : Addr) (c : Nat)
    (hnews : ∀ j u, (K.cells l2)[j]? = some u → w.cell? (ad.add j) = some u) (hm : 0 < l2.length) (h63 : l.length + l2.length ≤ maxLen) (hbytes : (l.length + l2.length) * K.bytes ≤ 140737488355328) (hbase : base ≤ w.heap.size) :
    ∃ v' w', (Builtin.append_ #[K.slice, K.slice] ty #[v, .slice (some ad) l2.length c]).run Try.prog w = .ok v' w' ∧ Own K w' base v' (l ++ l2) ∧ Keeps (fun k => v.ownBlock = some k) w w' ∧
      ∃ g cap, v' = .slice (some ⟨g, 0, none⟩) (l.length + l2.length) cap ∧ (v.ownBlock = some g ∨ g = w.heap.size) := by
  obtain ⟨i0, hi, hz0, hz1, hz2⟩ := info_parts K.info
  have hone : ∀ u ∈ K.cells l2, u.oneCell' = true := fun u hu => by obtain ⟨y, _, hy⟩ := List.mem_flatMap.1 hu; exact K.one y u hy
  obtain ⟨v', w', hr, h2, h3, h4⟩ := run_append_own (P := Try.prog) w base K.slice ty K.elem i0 K.zero K.size K.bytes K.und hi hz0 hz1 hz2 K.zcells K.pos v l.length (K.cells l) hown ad l2.length c (K.cells l2) (K.cells_length l2) hnews hone h63 hbytes hbase
  have hw := append_where K w base hown ty ad l2.length c (K.cells l2) (K.cells_length l2) hnews hone hm h63 hbytes hr
  have hown2 : Own K w' base v' (l ++ l2) := by
    unfold Own
    rw [K.cells_append, List.length_append]
    exact h2
  exact ⟨v', w', hr, hown2, (Keeps.refl _ w).grown h3 (fun k hk _ => hk), hw⟩

theorem run_append_zero (K : Kind α) (w : World) (ty : TypeId) {v : Value} {base : Nat} {l : List α} (hown : Own K w base v l) (a2 : Option Addr) (c2 : Nat) :
    (Builtin.append_ #[K.slice, K.slice] ty #[v, .slice a2 0 c2]).run Try.prog w = .ok v w := by
  obtain ⟨i0, hi, hz0, hz1, hz2⟩ := info_parts K.info
  have hf : ∀ s, (Builtin.firstCells s 0 (.slice a2 0 c2)).run Try.prog w = .ok #[] w := by
    intro s
    cases a2 with
    | none => simp [Builtin.firstCells]
    | some a => simp [Builtin.firstCells, loadCells, loadCellsFrom]
  rcases hown.2 with ⟨rfl, h0⟩ | ⟨g, cap, cur, rfl, hbg, hg, hnc, hcm, hcs, htake⟩
  · simp [Builtin.append_, run_underlying K.und, sizeOf, typeInfo, hi, Builtin.lenOf, hf]
  · simp [Builtin.append_, run_underlying K.und, sizeOf, typeInfo, hi, Builtin.lenOf, hnc, hf, storeCells]

/-- append of nothing -/
theorem wpList_append_zero (K : Kind α) {w : World} {ops : Array Oper} {rest : List Oper} {o : Oper} {a : Act} {Q : Exit → Act → World → Prop} (hgd : o.guard = none) (s x : Operand)
    (ho : o.op = .call { callee := .builtin .append, args := #[s, x], argTypes := #[K.slice, K.slice] })
    {base : Nat} {v : Value} {l : List α} (hown : Own K w base v l) (hs : a.eval s = v) (a2 : Option Addr) (c : Nat) (hx : a.eval x = .slice a2 0 c)
    (h : wpList Try.prog ops Q rest (a.put o.dst v) w) : wpList Try.prog ops Q (o :: rest) a w := by
  refine wpList_plain hgd fun _ hK => ?_
  have hr := run_append_zero K w o.type hown a2 c
  unfold Oper.wp execOp
  simp only [ho, resolve, invoke, builtin, Sem.run_bind, Sem.run_pure, Result.andThen_ok, List.map_toArray, List.map_cons, List.map_nil, hs, hx, hr]
  exact hK _ _ h

/-- append of cells that lie somewhere -/
theorem wpList_append_cells (K : Kind α) {w : World} {ops : Array Oper} {rest : List Oper} {o : Oper} {a : Act} {Q : Exit → Act → World → Prop} (hgd : o.guard = none) (s x : Operand)
    (ho : o.op = .call { callee := .builtin .append, args := #[s, x], argTypes := #[K.slice, K.slice] })
    {base : Nat} {v : Value} {l l2 : List α} (hown : Own K w base v l) (hs : a.eval s = v) (ad : Addr) (c : Nat) (hx : a.eval x = .slice (some ad) l2.length c)
    (hnews : ∀ j u, (K.cells l2)[j]? = some u → w.cell? (ad.add j) = some u) (hm : 0 < l2.length) (h63 : l.length + l2.length ≤ maxLen) (hbytes : (l.length + l2.length) * K.bytes ≤ 140737488355328) (hbase : base ≤ w.heap.size)
    (h : ∀ v' w', Own K w' base v' (l ++ l2) → Keeps (fun k => v.ownBlock = some k) w w' → (∃ g cap, v' = .slice (some ⟨g, 0, none⟩) (l.length + l2.length) cap ∧ (v.ownBlock = some g ∨ g = w.heap.size)) → wpList Try.prog ops Q rest (a.put o.dst v') w') :
    wpList Try.prog ops Q (o :: rest) a w := by
  refine wpList_plain hgd fun _ hK => ?_
  obtain ⟨v', w', hr, h1, h2, h3⟩ := run_append_cells K o.type hown ad c hnews hm h63 hbytes hbase
  unfold Oper.wp execOp
  simp only [ho, resolve, invoke, builtin, Sem.run_bind, Sem.run_pure, Result.andThen_ok, List.map_toArray, List.map_cons, List.map_nil, hs, hx, hr]
  exact hK _ _ (h v' w' h1 h2 h3)

/-- the same within a fence -/
theorem wpListIn_append_cells (K : Kind α) {F : Fence} {nF : Nat} {w : World} {ops : Array Oper} {rest : List Oper} {o : Oper} {a : Act} {Q : Exit → Act → World → Prop} (hgd : o.guard = none) (s x : Operand)
    (ho : o.op = .call { callee := .builtin .append, args := #[s, x], argTypes := #[K.slice, K.slice] })
    {base : Nat} {v : Value} {l l2 : List α} (hown : Own K w base v l) (hs : a.eval s = v) (ad : Addr) (c : Nat) (hx : a.eval x = .slice (some ad) l2.length c)
    (hnews : ∀ j u, (K.cells l2)[j]? = some u → w.cell? (ad.add j) = some u) (hm : 0 < l2.length) (h63 : l.length + l2.length ≤ maxLen) (hbytes : (l.length + l2.length) * K.bytes ≤ 140737488355328) (hbase : base ≤ w.heap.size)
    (h : ∀ v' w', Own K w' base v' (l ++ l2) → Keeps (fun k => v.ownBlock = some k) w w' → (∃ g cap, v' = .slice (some ⟨g, 0, none⟩) (l.length + l2.length) cap ∧ (v.ownBlock = some g ∨ g = w.heap.size)) → wpListIn F nF Try.prog ops Q rest (a.put o.dst v') w') :
    wpListIn F nF Try.prog ops Q (o :: rest) a w := by
  refine wpListIn_plain hgd fun _ hK => ?_
  obtain ⟨v', w', hr, h1, h2, h3⟩ := run_append_cells K o.type hown ad c hnews hm h63 hbytes hbase
  unfold Oper.wpIn
  refine ⟨by simp [Oper.about, ho, resolve, Target.leads, Sem.run_pure], ?_⟩
  rw [Oper.semAt_plain F _ _ (by rw [ho]; intro c hc'; cases hc')]
  unfold execOp
  simp only [ho, resolve, invoke, builtin, Sem.run_bind, Sem.run_pure, Result.andThen_ok, List.map_toArray, List.map_cons, List.map_nil, hs, hx, hr]
  exact hK _ _ (h v' w' h1 h2 h3)

/-- append(v, x): one element. -/
theorem wpList_append_one (K : Kind α) {w : World} {ops : Array Oper} {rest : List Oper} {o : Oper} {a : Act} {Q : Exit → Act → World → Prop} (hgd : o.guard = none) (s x : Operand)
    (ho : o.op = .call { callee := .builtin .append, args := #[s, x], argTypes := #[K.slice, K.slice] })
    {base : Nat} {v : Value} {l : List α} (hown : Own K w base v l) (hs : a.eval s = v) (y : α) (c : Array Value) (hc : c.toList = K.enc y)
    (hx : a.eval x = .slice (some ⟨w.heap.size, 0, none⟩) 1 1) (hn : l.length < 4294967296) (hbase : base ≤ w.heap.size)
    (h : ∀ v' w', Own K w' base v' (l ++ [y]) → Keeps (fun k => v.ownBlock = some k) w w' → (∃ g cap, v' = .slice (some ⟨g, 0, none⟩) (l.length + 1) cap ∧ (v.ownBlock = some g ∨ w.heap.size ≤ g)) → wpList Try.prog ops Q rest (a.put o.dst v') w') :
    wpList Try.prog ops Q (o :: rest) a (w.alloc (.cells c K.elem)) := by
  have hsm := K.small
  refine wpList_append_cells K hgd s x ho (l2 := [y]) (hown.alloc _) hs ⟨w.heap.size, 0, none⟩ 1 hx ?_ (by simp) (by simp only [List.length_singleton]; unfold maxLen; omega) ?_ (by simp; omega) ?_
  · intro j u hu
    rw [Addr.add_lit]
    simp only [World.cell?, heap_new w _]
    simp only [Kind.cells, List.flatMap_cons, List.flatMap_nil, List.append_nil, ← hc] at hu
    simpa using hu
  · have : (l.length + 1) * K.bytes ≤ 4294967296 * 64 := Nat.mul_le_mul (by omega) hsm
    simp only [List.length_singleton]
    omega
  · intro v' w' hown' hk hg
    obtain ⟨g, cap, rfl, hg⟩ := hg
    exact h _ w' hown' (((Keeps.refl Nil w).alloc _).of_nil.trans' hk) ⟨g, cap, rfl, hg.imp id (fun e => by simp at e; omega)⟩

/-- the same within a fence -/
theorem wpListIn_append_one (K : Kind α) {F : Fence} {nF : Nat} {w : World} {ops : Array Oper} {rest : List Oper} {o : Oper} {a : Act} {Q : Exit → Act → World → Prop} (hgd : o.guard = none) (s x : Operand)
    (ho : o.op = .call { callee := .builtin .append, args := #[s, x], argTypes := #[K.slice, K.slice] })
    {base : Nat} {v : Value} {l : List α} (hown : Own K w base v l) (hs : a.eval s = v) (y : α) (c : Array Value) (hc : c.toList = K.enc y)
    (hx : a.eval x = .slice (some ⟨w.heap.size, 0, none⟩) 1 1) (hn : l.length < 4294967296) (hbase : base ≤ w.heap.size)
    (h : ∀ v' w', Own K w' base v' (l ++ [y]) → Keeps (fun k => v.ownBlock = some k) w w' → (∃ g cap, v' = .slice (some ⟨g, 0, none⟩) (l.length + 1) cap ∧ (v.ownBlock = some g ∨ w.heap.size ≤ g)) → wpListIn F nF Try.prog ops Q rest (a.put o.dst v') w') :
    wpListIn F nF Try.prog ops Q (o :: rest) a (w.alloc (.cells c K.elem)) := by
  have hsm := K.small
  refine wpListIn_append_cells K hgd s x ho (l2 := [y]) (hown.alloc _) hs ⟨w.heap.size, 0, none⟩ 1 hx ?_ (by simp) (by simp only [List.length_singleton]; unfold maxLen; omega) ?_ (by simp; omega) ?_
  · intro j u hu
    rw [Addr.add_lit]
    simp only [World.cell?, heap_new w _]
    simp only [Kind.cells, List.flatMap_cons, List.flatMap_nil, List.append_nil, ← hc] at hu
    simpa using hu
  · have : (l.length + 1) * K.bytes ≤ 4294967296 * 64 := Nat.mul_le_mul (by omega) hsm
    simp only [List.length_singleton]
    omega
  · intro v' w' hown' hk hg
    obtain ⟨g, cap, rfl, hg⟩ := hg
    exact h _ w' hown' (((Keeps.refl Nil w).alloc _).of_nil.trans' hk) ⟨g, cap, rfl, hg.imp id (fun e => by simp at e; omega)⟩

/-- append(v, l...): all of another slice. -/
theorem wpList_append_all (K : Kind α) {w : World} {S : Nat → Prop} {ops : Array Oper} {rest : List Oper} {o : Oper} {a : Act} {Q : Exit → Act → World → Prop} (hgd : o.guard = none) (s x : Operand)
    (ho : o.op = .call { callee := .builtin .append, args := #[s, x], argTypes := #[K.slice, K.slice] })
    {base : Nat} {v v2 : Value} {l l2 : List α} (hown : Own K w base v l) (hs : a.eval s = v) (hx : a.eval x = v2) (hv : View K S w v2 l2) (hne : 0 < l2.length) (hn : (l.length + l2.length) * K.bytes ≤ 140737488355328) (hbase : base ≤ w.heap.size) (hb1 : 0 < K.bytes)
    (h : ∀ v' w', Own K w' base v' (l ++ l2) → Keeps (fun k => v.ownBlock = some k) w w' → (∃ g cap, v' = .slice (some ⟨g, 0, none⟩) (l.length + l2.length) cap ∧ (v.ownBlock = some g ∨ w.heap.size ≤ g)) → wpList Try.prog ops Q rest (a.put o.dst v') w') :
    wpList Try.prog ops Q (o :: rest) a w := by
  rcases hv with ⟨_, h0⟩ | ⟨b, off, cap, rfl, hcap, hmx, hb, hnS, hcell⟩
  · subst h0; simp at hne
  have : l.length + l2.length ≤ (l.length + l2.length) * K.bytes := Nat.le_mul_of_pos_right _ hb1
  refine wpList_append_cells K hgd s x ho hown hs ⟨b, off, none⟩ cap hx ?_ hne (by unfold maxLen; omega) hn hbase (fun v' w' h1 h2 ⟨g, cap, e, hg⟩ => h v' w' h1 h2 ⟨g, cap, e, hg.imp id (fun e => by omega)⟩)
  intro j u hu
  have hj : j < l2.length * K.size := by rw [← K.cells_length]; exact (List.getElem?_eq_some_iff.1 hu).1
  have hm : j / K.size < l2.length := Nat.div_lt_of_lt_mul (by rw [Nat.mul_comm]; exact hj)
  have e : j / K.size * K.size + j % K.size = j := by rw [Nat.mul_comm]; exact Nat.div_add_mod _ _
  have h1 := hcell (j / K.size) (j % K.size) (Nat.mod_lt _ K.pos) hm
  rw [← K.cells_get l2 _ _ (Nat.mod_lt _ K.pos), e] at h1
  rw [Addr.add_lit]
  exact h1.trans hu

/-! ### words -/
abbrev kU : Kind UInt64 := { slice := 26, elem := 36, size := 1, bytes := 8, zero := .int .u64 0, enc := fun x => [.int .u64 ↑x.toNat], len := fun _ => rfl, one := fun _ u hu => by simp at hu; subst hu; rfl, und := Try.underlying26, info := by kernel_rfl, zcells := rfl, pos := by decide, small := by decide }
/-- an api.Put -/
abbrev Put := UInt64 × UInt64
abbrev kP : Kind Put := { slice := 22, elem := 38, size := 2, bytes := 16, zero := .agg #[.int .u64 0, .int .u64 0], enc := fun x => [.int .u64 ↑x.1.toNat, .int .u64 ↑x.2.toNat], len := fun _ => rfl, one := fun _ u hu => by simp at hu; rcases hu with rfl | rfl <;> rfl, und := Try.underlying22, info := by kernel_rfl, zcells := rfl, pos := by decide, small := by decide }

/-- append(v, x) of a word -/
theorem wpList_append_u64 {w : World} {ops : Array Oper} {rest : List Oper} {o : Oper} {a : Act} {Q : Exit → Act → World → Prop} (hgd : o.guard = none) (s x : Operand)
    (ho : o.op = .call { callee := .builtin .append, args := #[s, x], argTypes := #[26, 26] })
    {base : Nat} {v : Value} {l : List UInt64} (n : Nat) (hln : l.length = n) (hown : Own kU w base v l) (hs : a.eval s = v) (y : UInt64) (z : Int) (hz : z = (y.toNat : Int))
    (hx : a.eval x = .slice (some ⟨w.heap.size, 0, none⟩) 1 1) (hn : n < 4294967296) (hbase : base ≤ w.heap.size)
    (h : ∀ v' w', Own kU w' base v' (l ++ [y]) → Keeps (fun k => v.ownBlock = some k) w w' → (∃ g cap, v' = .slice (some ⟨g, 0, none⟩) (n + 1) cap ∧ (v.ownBlock = some g ∨ w.heap.size ≤ g)) → wpList Try.prog ops Q rest (a.put o.dst v') w') :
    wpList Try.prog ops Q (o :: rest) a (w.alloc (.cells #[.int .u64 z] 36)) := by
  subst hln; exact wpList_append_one kU hgd s x ho hown hs y #[.int .u64 z] (by subst hz; rfl) hx hn hbase h
/-- append(v, x) of a Put -/
theorem wpList_append_put {w : World} {ops : Array Oper} {rest : List Oper} {o : Oper} {a : Act} {Q : Exit → Act → World → Prop} (hgd : o.guard = none) (s x : Operand)
    (ho : o.op = .call { callee := .builtin .append, args := #[s, x], argTypes := #[22, 22] })
    {base : Nat} {v : Value} {l : List Put} (n : Nat) (hln : l.length = n) (hown : Own kP w base v l) (hs : a.eval s = v) (y : Put) (z z2 : Int) (hz : z = (y.1.toNat : Int)) (hz2 : z2 = (y.2.toNat : Int))
    (hx : a.eval x = .slice (some ⟨w.heap.size, 0, none⟩) 1 1) (hn : n < 4294967296) (hbase : base ≤ w.heap.size)
    (h : ∀ v' w', Own kP w' base v' (l ++ [y]) → Keeps (fun k => v.ownBlock = some k) w w' → (∃ g cap, v' = .slice (some ⟨g, 0, none⟩) (n + 1) cap ∧ (v.ownBlock = some g ∨ w.heap.size ≤ g)) → wpList Try.prog ops Q rest (a.put o.dst v') w') :
    wpList Try.prog ops Q (o :: rest) a (w.alloc (.cells #[.int .u64 z, .int .u64 z2] 38)) := by
  subst hln; exact wpList_append_one kP hgd s x ho hown hs y #[.int .u64 z, .int .u64 z2] (by subst hz hz2; rfl) hx hn hbase h

/-- the same within a fence -/
theorem wpListIn_append_put {F : Fence} {nF : Nat} {w : World} {ops : Array Oper} {rest : List Oper} {o : Oper} {a : Act} {Q : Exit → Act → World → Prop} (hgd : o.guard = none) (s x : Operand)
    (ho : o.op = .call { callee := .builtin .append, args := #[s, x], argTypes := #[22, 22] })
    {base : Nat} {v : Value} {l : List Put} (n : Nat) (hln : l.length = n) (hown : Own kP w base v l) (hs : a.eval s = v) (y : Put) (z z2 : Int) (hz : z = (y.1.toNat : Int)) (hz2 : z2 = (y.2.toNat : Int))
    (hx : a.eval x = .slice (some ⟨w.heap.size, 0, none⟩) 1 1) (hn : n < 4294967296) (hbase : base ≤ w.heap.size)
    (h : ∀ v' w', Own kP w' base v' (l ++ [y]) → Keeps (fun k => v.ownBlock = some k) w w' → (∃ g cap, v' = .slice (some ⟨g, 0, none⟩) (n + 1) cap ∧ (v.ownBlock = some g ∨ w.heap.size ≤ g)) → wpListIn F nF Try.prog ops Q rest (a.put o.dst v') w') :
    wpListIn F nF Try.prog ops Q (o :: rest) a (w.alloc (.cells #[.int .u64 z, .int .u64 z2] 38)) := by
  subst hln; exact wpListIn_append_one kP hgd s x ho hown hs y #[.int .u64 z, .int .u64 z2] (by subst hz hz2; rfl) hx hn hbase h

end Go.Proofs.Ytccllkgaakmdhaa
