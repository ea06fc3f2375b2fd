/- phys.one: the block at an offset. -/
import Derived.Test.YtccllkgaakmdhaaTagR
import Derived.Test.YtccllkgaakmdhaaWordN
namespace Go.Proofs.Ytccllkgaakmdhaa
open Go.RowKit

structure BlockV where
  off : UInt64
  tag : TagV
  len : UInt64
deriving DecidableEq
def BlockV.zero : BlockV := ⟨0, TagV.zero, 0⟩
def BlockV.cells (b : BlockV) : Array Value := #[.int .u64 (b.off.toNat : Int), .int .u64 (b.tag.size.toNat : Int), .bool b.tag.used, .int .i64 b.tag.owner, .int .u64 (b.len.toNat : Int)]
/-- what a used block says of its bytes fits -/
def lenB (f : UInt64 → UInt64) (off : UInt64) : Bool := needB (f (off + 8)) && decide ((needU (f (off + 8))).toNat ≤ (readT f off).size.toNat)
def oneB (f : UInt64 → UInt64) (off : UInt64) : Bool := readB f off && (!(readT f off).used || lenB f off)
def oneT (f : UInt64 → UInt64) (off : UInt64) : BlockV := ⟨off, readT f off, if (readT f off).used then f (off + 8) else 0⟩

theorem row5 {w : World} {m : Nat} {a b c d e : Value} {T : TypeId} (h : w.heap[m]? = some (.cells #[a, b, c, d, e] T (0, 0))) : w.cell? ⟨m, 0, none⟩ = some a ∧ w.cell? ⟨m, 1, none⟩ = some b ∧ w.cell? ⟨m, 2, none⟩ = some c ∧ w.cell? ⟨m, 3, none⟩ = some d ∧ w.cell? ⟨m, 4, none⟩ = some e :=
  ⟨by simp [World.cell?, h], by simp [World.cell?, h], by simp [World.cell?, h], by simp [World.cell?, h], by simp [World.cell?, h]⟩
theorem setRow5 {w : World} {m : Nat} {a b c d e x y z u v : Value} {T : TypeId} (h : w.heap[m]? = some (.cells #[a, b, c, d, e] T (0, 0))) :
    (((((w.setCell ⟨m, 0, none⟩ x).setCell ⟨m, 1, none⟩ y).setCell ⟨m, 2, none⟩ z).setCell ⟨m, 3, none⟩ u).setCell ⟨m, 4, none⟩ v).heap[m]? = some (.cells #[x, y, z, u, v] T (0, 0)) := by
  have := heap_setCell_eq (heap_setCell_eq (heap_setCell_eq (heap_setCell_eq (heap_setCell_eq h 0 x) 1 y) 2 z) 3 u) 4 v
  simpa using this
theorem keepsRow5 {w0 w : World} (k : Keeps Nil w0 w) {m : Nat} (hm : w0.heap.size ≤ m) (x y z u v : Value) : Keeps Nil w0 (((((w.setCell ⟨m, 0, none⟩ x).setCell ⟨m, 1, none⟩ y).setCell ⟨m, 2, none⟩ z).setCell ⟨m, 3, none⟩ u).setCell ⟨m, 4, none⟩ v) :=
  ((((k.setNew (a := ⟨m, 0, none⟩) hm x).setNew (a := ⟨m, 1, none⟩) hm y).setNew (a := ⟨m, 2, none⟩) hm z).setNew (a := ⟨m, 3, none⟩) hm u).setNew (a := ⟨m, 4, none⟩) hm v

/-- what 'one' tells -/
def OneP (f : UInt64 → UInt64) (off : UInt64) (w : World) (e : Ending) (w' : World) : Prop := ∃ b : BlockV, e = .returned (.tuple #[.agg b.cells, .int .i64 (codeOf (oneB f off))]) ∧ (oneB f off = true → b = oneT f off) ∧ Keeps Nil w w'

set_option maxRecDepth 100000 in
set_option maxHeartbeats 4000000 in
theorem one_any {T : Value} {f : UInt64 → UInt64} {N : Nat} {w : World} (h : Reads T f N w) (off : UInt64) (x : Int) (hx : x = (off.toNat : Int)) :
    Calls Try.prog 116 #[T, .int .u64 x] w (OneP f off w) := by
  subst hx
  have H := Lib.hid h
  obtain ⟨B, hB⟩ : ∃ B, B = w.heap.size := ⟨_, rfl⟩
  obtain ⟨w0, hw0⟩ : ∃ w0, w0 = w.alloc (.cells #[.int .u64 0, .int .u64 0, .bool false, .int .i64 0, .int .u64 0] 103) := ⟨_, rfl⟩
  have hk0 : Keeps Nil w w0 := by rw [hw0]; exact (Keeps.refl Nil w).alloc _
  have hb0 : w0.heap[B]? = some (.cells #[.int .u64 0, .int .u64 0, .bool false, .int .i64 0, .int .u64 0] 103 (0, 0)) := by rw [hw0, hB]; exact heap_new w _
  obtain ⟨s, u, o, hg⟩ : ∃ s u o, readT f off = ⟨s, u, o⟩ := ⟨_, _, _, rfl⟩
  obtain ⟨y8, hy8⟩ : ∃ y, y = off + 8 := ⟨_, rfl⟩
  have q8 : IntKind.u64.wrap ((off.toNat : Int) + 8) = (y8.toNat : Int) := by rw [hy8]; exact u64_add off 8
  have ho1 : oneB f off = (readB f off && (!u || (needB (f y8) && decide ((needU (f y8)).toNat ≤ s.toNat)))) := by unfold oneB lenB; rw [hg, hy8]
  have ho2 : oneT f off = ⟨off, ⟨s, u, o⟩, if u then f y8 else 0⟩ := by unfold oneT; rw [hg, hy8]
  have HG := Lib.hid hg
  have HO := Lib.hid (And.intro ho1 ho2)
  have HW0 := Lib.hid hw0
  have HB := Lib.hid hB
  have K0 := Lib.hid (And.intro hk0 hb0)
  clear h hg hy8 ho1 ho2 hw0 hB hk0 hb0
  cases hr : readB f off with
  | false =>
    have HR := Lib.hid hr
    clear hr q8
    go_enter Try.func116, Try.ntmps116
    go_wp2_with fail
    rw [← HW0.out, ← HB.out]
    refine (Read_any (H.out.keeps K0.out.1) off _ rfl).mono ?_
    rintro e w1 ⟨rfl, k1⟩
    rw [HR.out, HG.out, TagV.cells_def, codeOf_false]
    obtain ⟨w2, hw2⟩ : ∃ w2, w2 = w1.alloc (.cells #[.int .u64 (s.toNat : Int), .bool u, .int .i64 o] 70) := ⟨_, rfl⟩
    have k2 : Keeps Nil w0 w2 := by rw [hw2]; exact k1.alloc _
    have b2 : w2.heap[w1.heap.size]? = some (.cells #[.int .u64 (s.toNat : Int), .bool u, .int .i64 o] 70 (0, 0)) := by rw [hw2]; exact heap_new _ _
    have r1 := k1.at K0.out.2 (fun e => e)
    have hlt : B < w1.heap.size := getElem?_lt r1
    have K1 := Lib.hid (And.intro (K0.out.1.trans' k1) r1)
    have K2 := Lib.hid (And.intro (K0.out.1.trans' k2) (And.intro b2 (k2.at K0.out.2 (fun e => e))))
    have HW2 := Lib.hid hw2
    have c0 := (row5 r1).1
    have c1 := (row5 r1).2.1
    have c2 := (row5 r1).2.2.1
    have c3 := (row5 r1).2.2.2.1
    have c4 := (row5 r1).2.2.2.2
    have f0 := frz r1 0
    have f1 := frz r1 1
    have f2 := frz r1 2
    have f3 := frz r1 3
    have f4 := frz r1 4
    clear k1 k2 b2 r1 hw2
    go_wp2_with fail
    refine bodyPost_ret (results_row_tmp rfl rfl (heap_old _ _ (setRow5 K1.out.2)) Try.underlying103 rfl (by kernel_rfl)) rfl ?_
    have hbf : oneB f off = false := by rw [HO.out.1, HR.out]; rfl
    have HP : oneB f off = true → (⟨off, ⟨s, u, o⟩, 0⟩ : BlockV) = oneT f off := fun e => by rw [hbf] at e; cases e
    exact ⟨⟨off, ⟨s, u, o⟩, 0⟩, by rw [hbf]; rfl, HP, (keepsRow5 K1.out.1 (by rw [HB.out]; exact Nat.le_refl _) _ _ _ _ _).alloc _⟩
  | true =>
    have HR := Lib.hid hr
    clear hr
    cases u with
    | false =>
      clear q8
      go_enter Try.func116, Try.ntmps116
      go_wp2_with fail
      rw [← HW0.out, ← HB.out]
      refine (Read_any (H.out.keeps K0.out.1) off _ rfl).mono ?_
      rintro e w1 ⟨rfl, k1⟩
      rw [HR.out, HG.out, TagV.cells_def, codeOf_true]
      obtain ⟨w2, hw2⟩ : ∃ w2, w2 = w1.alloc (.cells #[.int .u64 (s.toNat : Int), .bool false, .int .i64 o] 70) := ⟨_, rfl⟩
      have k2 : Keeps Nil w0 w2 := by rw [hw2]; exact k1.alloc _
      have b2 : w2.heap[w1.heap.size]? = some (.cells #[.int .u64 (s.toNat : Int), .bool false, .int .i64 o] 70 (0, 0)) := by rw [hw2]; exact heap_new _ _
      have r1 := k1.at K0.out.2 (fun e => e)
      have hlt : B < w1.heap.size := getElem?_lt r1
      have K1 := Lib.hid (And.intro (K0.out.1.trans' k1) r1)
      have K2 := Lib.hid (And.intro (K0.out.1.trans' k2) (And.intro b2 (k2.at K0.out.2 (fun e => e))))
      have HW2 := Lib.hid hw2
      have c0 := (row5 r1).1
      have c1 := (row5 r1).2.1
      have c2 := (row5 r1).2.2.1
      have c3 := (row5 r1).2.2.2.1
      have c4 := (row5 r1).2.2.2.2
      have f0 := frz r1 0
      have f1 := frz r1 1
      have f2 := frz r1 2
      have f3 := frz r1 3
      have f4 := frz r1 4
      clear k1 k2 b2 r1 hw2
      go_wp2_with fail
      refine bodyPost_ret (results_row_tmp rfl rfl (heap_old _ _ (setRow5 K1.out.2)) Try.underlying103 rfl (by kernel_rfl)) rfl ?_
      have hbf : oneB f off = true := by rw [HO.out.1, HR.out]; rfl
      have HP : oneB f off = true → (⟨off, ⟨s, false, o⟩, 0⟩ : BlockV) = oneT f off := fun e => by rw [HO.out.2]; rfl
      exact ⟨⟨off, ⟨s, false, o⟩, 0⟩, by rw [hbf]; rfl, HP, (keepsRow5 K1.out.1 (by rw [HB.out]; exact Nat.le_refl _) _ _ _ _ _).alloc _⟩
    | true =>
      cases hnb : needB (f y8) with
      | false =>
        have HNB := Lib.hid hnb
        clear hnb
        go_enter Try.func116, Try.ntmps116
        go_wp2_with fail
        rw [← HW0.out, ← HB.out]
        refine (Read_any (H.out.keeps K0.out.1) off _ rfl).mono ?_
        rintro e w1 ⟨rfl, k1⟩
        rw [HR.out, HG.out, TagV.cells_def, codeOf_true]
        obtain ⟨w2, hw2⟩ : ∃ w2, w2 = w1.alloc (.cells #[.int .u64 (s.toNat : Int), .bool true, .int .i64 o] 70) := ⟨_, rfl⟩
        have k2 : Keeps Nil w0 w2 := by rw [hw2]; exact k1.alloc _
        have b2 : w2.heap[w1.heap.size]? = some (.cells #[.int .u64 (s.toNat : Int), .bool true, .int .i64 o] 70 (0, 0)) := by rw [hw2]; exact heap_new _ _
        have r1 := k1.at K0.out.2 (fun e => e)
        have hlt : B < w1.heap.size := getElem?_lt r1
        have K1 := Lib.hid (And.intro (K0.out.1.trans' k1) r1)
        have K2 := Lib.hid (And.intro (K0.out.1.trans' k2) (And.intro b2 (k2.at K0.out.2 (fun e => e))))
        have HW2 := Lib.hid hw2
        have c0 := (row5 r1).1
        have c1 := (row5 r1).2.1
        have c2 := (row5 r1).2.2.1
        have c3 := (row5 r1).2.2.2.1
        have c4 := (row5 r1).2.2.2.2
        have f0 := frz r1 0
        have f1 := frz r1 1
        have f2 := frz r1 2
        have f3 := frz r1 3
        have f4 := frz r1 4
        clear k1 k2 b2 r1 hw2
        go_wp2_with fail
        rw [← HW2.out]
        refine (H.out.load w2 K2.out.1 y8 _ rfl).mono ?_
        rintro e w3 ⟨rfl, k3⟩
        have K3 := Lib.hid (And.intro (K2.out.1.trans' k3) (And.intro (k3.at K2.out.2.1 (fun e => e)) (k3.at K2.out.2.2 (fun e => e))))
        clear k3 c0 c1 c2 c3 c4 f0 f1 f2 f3 f4 hlt
        have c0 := (row5 K3.out.2.2).1
        have c1 := (row5 K3.out.2.2).2.1
        have c2 := (row5 K3.out.2.2).2.2.1
        have c3 := (row5 K3.out.2.2).2.2.2.1
        have c4 := (row5 K3.out.2.2).2.2.2.2
        have f0 := frz K3.out.2.2 0
        have f1 := frz K3.out.2.2 1
        have f2 := frz K3.out.2.2 2
        have f3 := frz K3.out.2.2 3
        have f4 := frz K3.out.2.2 4
        have d0 := (row3 K3.out.2.1).1
        have d1 := (row3 K3.out.2.1).2.1
        have d2 := (row3 K3.out.2.1).2.2
        go_wp2_with fail
        refine (wNeed_any w3 (f y8) _ rfl).mono ?_
        rintro e w' ⟨rfl, rfl⟩
        rw [HNB.out]
        go_wp2_with fail
        refine bodyPost_ret (results_row_tmp rfl rfl (setRow5 K3.out.2.2) Try.underlying103 rfl (by kernel_rfl)) rfl ?_
        have hbf : oneB f off = false := by rw [HO.out.1, HR.out, HNB.out]; rfl
        exact ⟨BlockV.zero, by rw [hbf]; rfl, (fun e => by rw [hbf] at e; cases e), keepsRow5 K3.out.1 (by rw [HB.out]; exact Nat.le_refl _) _ _ _ _ _⟩
      | true =>
        have HNB := Lib.hid hnb
        clear hnb
        by_cases hle : (needU (f y8)).toNat ≤ s.toNat
        · have tst : decide (s.toNat < (needU (f y8)).toNat) = false := decide_eq_false (by omega)
          have HLE := Lib.hid hle
          clear hle
          go_enter Try.func116, Try.ntmps116
          go_wp2_with fail
          rw [← HW0.out, ← HB.out]
          refine (Read_any (H.out.keeps K0.out.1) off _ rfl).mono ?_
          rintro e w1 ⟨rfl, k1⟩
          rw [HR.out, HG.out, TagV.cells_def, codeOf_true]
          obtain ⟨w2, hw2⟩ : ∃ w2, w2 = w1.alloc (.cells #[.int .u64 (s.toNat : Int), .bool true, .int .i64 o] 70) := ⟨_, rfl⟩
          have k2 : Keeps Nil w0 w2 := by rw [hw2]; exact k1.alloc _
          have b2 : w2.heap[w1.heap.size]? = some (.cells #[.int .u64 (s.toNat : Int), .bool true, .int .i64 o] 70 (0, 0)) := by rw [hw2]; exact heap_new _ _
          have r1 := k1.at K0.out.2 (fun e => e)
          have hlt : B < w1.heap.size := getElem?_lt r1
          have K1 := Lib.hid (And.intro (K0.out.1.trans' k1) r1)
          have K2 := Lib.hid (And.intro (K0.out.1.trans' k2) (And.intro b2 (k2.at K0.out.2 (fun e => e))))
          have HW2 := Lib.hid hw2
          have c0 := (row5 r1).1
          have c1 := (row5 r1).2.1
          have c2 := (row5 r1).2.2.1
          have c3 := (row5 r1).2.2.2.1
          have c4 := (row5 r1).2.2.2.2
          have f0 := frz r1 0
          have f1 := frz r1 1
          have f2 := frz r1 2
          have f3 := frz r1 3
          have f4 := frz r1 4
          clear k1 k2 b2 r1 hw2
          go_wp2_with fail
          rw [← HW2.out]
          refine (H.out.load w2 K2.out.1 y8 _ rfl).mono ?_
          rintro e w3 ⟨rfl, k3⟩
          have K3 := Lib.hid (And.intro (K2.out.1.trans' k3) (And.intro (k3.at K2.out.2.1 (fun e => e)) (k3.at K2.out.2.2 (fun e => e))))
          clear k3 c0 c1 c2 c3 c4 f0 f1 f2 f3 f4 hlt
          have c0 := (row5 K3.out.2.2).1
          have c1 := (row5 K3.out.2.2).2.1
          have c2 := (row5 K3.out.2.2).2.2.1
          have c3 := (row5 K3.out.2.2).2.2.2.1
          have c4 := (row5 K3.out.2.2).2.2.2.2
          have f0 := frz K3.out.2.2 0
          have f1 := frz K3.out.2.2 1
          have f2 := frz K3.out.2.2 2
          have f3 := frz K3.out.2.2 3
          have f4 := frz K3.out.2.2 4
          have d0 := (row3 K3.out.2.1).1
          have d1 := (row3 K3.out.2.1).2.1
          have d2 := (row3 K3.out.2.1).2.2
          go_wp2_with fail
          refine (wNeed_any w3 (f y8) _ rfl).mono ?_
          rintro e w' ⟨rfl, rfl⟩
          rw [HNB.out]
          go_wp2_with fail
          refine bodyPost_ret (results_row_tmp rfl rfl (setRow5 K3.out.2.2) Try.underlying103 rfl (by kernel_rfl)) rfl ?_
          have hbf : oneB f off = true := by rw [HO.out.1, HR.out, HNB.out, decide_eq_true HLE.out]; rfl
          exact ⟨⟨off, ⟨s, true, o⟩, f y8⟩, by rw [hbf]; rfl, fun _ => by rw [HO.out.2]; rfl, keepsRow5 K3.out.1 (by rw [HB.out]; exact Nat.le_refl _) _ _ _ _ _⟩
        · have tst : decide (s.toNat < (needU (f y8)).toNat) = true := decide_eq_true (by omega)
          have HLE := Lib.hid hle
          clear hle
          go_enter Try.func116, Try.ntmps116
          go_wp2_with fail
          rw [← HW0.out, ← HB.out]
          refine (Read_any (H.out.keeps K0.out.1) off _ rfl).mono ?_
          rintro e w1 ⟨rfl, k1⟩
          rw [HR.out, HG.out, TagV.cells_def, codeOf_true]
          obtain ⟨w2, hw2⟩ : ∃ w2, w2 = w1.alloc (.cells #[.int .u64 (s.toNat : Int), .bool true, .int .i64 o] 70) := ⟨_, rfl⟩
          have k2 : Keeps Nil w0 w2 := by rw [hw2]; exact k1.alloc _
          have b2 : w2.heap[w1.heap.size]? = some (.cells #[.int .u64 (s.toNat : Int), .bool true, .int .i64 o] 70 (0, 0)) := by rw [hw2]; exact heap_new _ _
          have r1 := k1.at K0.out.2 (fun e => e)
          have hlt : B < w1.heap.size := getElem?_lt r1
          have K1 := Lib.hid (And.intro (K0.out.1.trans' k1) r1)
          have K2 := Lib.hid (And.intro (K0.out.1.trans' k2) (And.intro b2 (k2.at K0.out.2 (fun e => e))))
          have HW2 := Lib.hid hw2
          have c0 := (row5 r1).1
          have c1 := (row5 r1).2.1
          have c2 := (row5 r1).2.2.1
          have c3 := (row5 r1).2.2.2.1
          have c4 := (row5 r1).2.2.2.2
          have f0 := frz r1 0
          have f1 := frz r1 1
          have f2 := frz r1 2
          have f3 := frz r1 3
          have f4 := frz r1 4
          clear k1 k2 b2 r1 hw2
          go_wp2_with fail
          rw [← HW2.out]
          refine (H.out.load w2 K2.out.1 y8 _ rfl).mono ?_
          rintro e w3 ⟨rfl, k3⟩
          have K3 := Lib.hid (And.intro (K2.out.1.trans' k3) (And.intro (k3.at K2.out.2.1 (fun e => e)) (k3.at K2.out.2.2 (fun e => e))))
          clear k3 c0 c1 c2 c3 c4 f0 f1 f2 f3 f4 hlt
          have c0 := (row5 K3.out.2.2).1
          have c1 := (row5 K3.out.2.2).2.1
          have c2 := (row5 K3.out.2.2).2.2.1
          have c3 := (row5 K3.out.2.2).2.2.2.1
          have c4 := (row5 K3.out.2.2).2.2.2.2
          have f0 := frz K3.out.2.2 0
          have f1 := frz K3.out.2.2 1
          have f2 := frz K3.out.2.2 2
          have f3 := frz K3.out.2.2 3
          have f4 := frz K3.out.2.2 4
          have d0 := (row3 K3.out.2.1).1
          have d1 := (row3 K3.out.2.1).2.1
          have d2 := (row3 K3.out.2.1).2.2
          go_wp2_with fail
          refine (wNeed_any w3 (f y8) _ rfl).mono ?_
          rintro e w' ⟨rfl, rfl⟩
          rw [HNB.out]
          go_wp2_with fail
          refine bodyPost_ret (results_row_tmp rfl rfl (setRow5 K3.out.2.2) Try.underlying103 rfl (by kernel_rfl)) rfl ?_
          have hbf : oneB f off = false := by rw [HO.out.1, HR.out, HNB.out, decide_eq_false HLE.out]; rfl
          exact ⟨BlockV.zero, by rw [hbf]; rfl, (fun e => by rw [hbf] at e; cases e), keepsRow5 K3.out.1 (by rw [HB.out]; exact Nat.le_refl _) _ _ _ _ _⟩
end Go.Proofs.Ytccllkgaakmdhaa
