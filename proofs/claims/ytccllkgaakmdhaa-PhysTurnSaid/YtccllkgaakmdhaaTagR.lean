/- tag.Read, and the document's. -/
import Derived.Test.YtccllkgaakmdhaaTagIO
namespace Go.Proofs.Ytccllkgaakmdhaa
open Go.RowKit

theorem readT_yes {f : UInt64 → UInt64} {off : UInt64} (h : readB f off = true) : readT f off = unpackT (f off) := if_pos h
theorem readT_no {f : UInt64 → UInt64} {off : UInt64} (h : readB f off = false) : readT f off = TagV.zero := if_neg (by rw [h]; decide)
theorem codeOf_true : codeOf true = 0 := rfl
theorem codeOf_false : codeOf false = 12 := rfl
theorem last_eq (a s : UInt64) : IntKind.u64.wrap (IntKind.u64.wrap ((a.toNat : Int) + (s.toNat : Int)) - 8) = ((a + s - 8).toNat : Int) := by
  rw [u64_add]; exact u64_sub (a + s) 8
theorem add_eq (a s : UInt64) : IntKind.u64.wrap ((a.toNat : Int) + (s.toNat : Int)) = ((a + s).toNat : Int) := u64_add a s
theorem sub8_eq (a : UInt64) : IntKind.u64.wrap ((a.toNat : Int) - 8) = ((a - 8).toNat : Int) := u64_sub a 8

set_option maxRecDepth 100000 in
set_option maxHeartbeats 4000000 in
theorem Read_any {T : Value} {f : UInt64 → UInt64} {N : Nat} {w : World} (h : Reads T f N w) (off : UInt64) (x : Int) (hx : x = (off.toNat : Int)) :
    Calls Try.prog 69 #[T, .int .u64 x] w fun e w' => e = .returned (.tuple #[.agg (readT f off).cells, .int .i64 (codeOf (readB f off))]) ∧ Keeps Nil w w' := by
  subst hx
  have H := Lib.hid h
  obtain ⟨B, hB⟩ : ∃ B, B = w.heap.size := ⟨_, rfl⟩
  obtain ⟨w0, hw0⟩ : ∃ w0, w0 = w.alloc (.cells #[.int .u64 0, .bool false, .int .i64 0] 70) := ⟨_, rfl⟩
  have hk0 : Keeps Nil w w0 := by rw [hw0]; exact (Keeps.refl Nil w).alloc _
  have hb0 : w0.heap[B]? = some (.cells #[.int .u64 0, .bool false, .int .i64 0] 70 (0, 0)) := by rw [hw0, hB]; exact heap_new w _
  obtain ⟨s, u, o, hu⟩ : ∃ s u o, unpackT (f off) = ⟨s, u, o⟩ := ⟨_, _, _, rfl⟩
  obtain ⟨b, hb⟩ : ∃ b, b = readB f off := ⟨_, rfl⟩
  obtain ⟨g, hg⟩ : ∃ g, g = readT f off := ⟨_, rfl⟩
  have hrb : readB f off = (isTag (f off) && inT (f 16) off s && f (off + s - 8) == f off) := by unfold readB; rw [hu]
  rw [← hb, ← hg]
  obtain ⟨v, hv⟩ : ∃ v, v = f off := ⟨_, rfl⟩
  obtain ⟨v2, hv2⟩ : ∃ v2, v2 = f (off + s - 8) := ⟨_, rfl⟩
  obtain ⟨y1, hy1⟩ : ∃ y, y = off + s := ⟨_, rfl⟩
  obtain ⟨y2, hy2⟩ : ∃ y, y = off + s - 8 := ⟨_, rfl⟩
  have q1 := add_eq off s
  have q2 := sub8_eq (off + s)
  rw [← hy1] at q1 q2
  rw [← hy1] at hy2
  rw [← hy2] at q2
  rw [← hy1, ← hy2] at hrb hv2
  have HU := Lib.hid (And.intro hu (And.intro hv (And.intro hv2 (And.intro hw0 (And.intro hB (And.intro hk0 (And.intro hb0 (And.intro hb (And.intro hg hrb)))))))))
  have HL := Lib.hid (h.load w0 hk0 off _ rfl)
  have HF := Lib.hid (And.intro q1 q2)
  rw [← hv] at HL hrb hu
  rw [← hv2] at hrb
  have HRB := Lib.hid hrb
  have HUU := Lib.hid hu
  clear h hu hv hv2 hw0 hB hk0 hb0 hb hg hrb q1 q2 hy1 hy2
  have hw0 := HU.out.2.2.2.1
  have hB := HU.out.2.2.2.2.1
  have hk0 := HU.out.2.2.2.2.2.1
  have hb0 := HU.out.2.2.2.2.2.2.1
  have HW0 := Lib.hid hw0
  have HB := Lib.hid hB
  have K0 := Lib.hid (And.intro hk0 hb0)
  clear hw0 hB hk0 hb0
  cases hi : isTag v with
  | false =>
    have HI := Lib.hid hi
    clear hi
    go_enter Try.func69, Try.ntmps69
    go_wp2_with fail
    rw [← HW0.out, ← HB.out]
    refine HL.out.mono ?_
    rintro e w1 ⟨rfl, k1⟩
    have K1 := Lib.hid k1
    clear k1
    go_wp2_with fail
    refine (Unpack_any w1 v).mono ?_
    rintro e w2 ⟨rfl, k2⟩
    rw [HUU.out, TagV.cells_def, HI.out]
    have hb2 := (K1.out.trans' k2).at K0.out.2 (fun e => e)
    obtain ⟨c0, c1, c2⟩ := row3 hb2
    have f0 := frz hb2 0
    have f1 := frz hb2 1
    have f2 := frz hb2 2
    have hlt : B < w2.heap.size := getElem?_lt hb2
    have K2 := Lib.hid (And.intro (K1.out.trans' k2) hb2)
    clear k2 hb2
    go_wp2_with fail
    refine bodyPost_ret (results_row_tmp rfl rfl (heap_old _ _ (setRow3 K2.out.2)) Try.underlying70 rfl (by kernel_rfl)) rfl ?_
    have hbf : b = false := by rw [HU.out.2.2.2.2.2.2.2.1, HU.out.2.2.2.2.2.2.2.2.2, ← HU.out.2.1]; simp [HI.out]
    have hgz : g = TagV.zero := by rw [HU.out.2.2.2.2.2.2.2.2.1]; exact readT_no (by rw [← HU.out.2.2.2.2.2.2.2.1]; exact hbf)
    refine ⟨by rw [hbf, hgz]; rfl, (keepsRow3 (K0.out.1.trans' K2.out.1) (by rw [HB.out]; exact Nat.le_refl _) _ _ _).alloc _⟩
  | true =>
    have HI := Lib.hid hi
    clear hi
    cases hn : inT (f 16) off s with
    | false =>
      have HN := Lib.hid hn
      clear hn
      go_enter Try.func69, Try.ntmps69
      go_wp2_with fail
      rw [← HW0.out, ← HB.out]
      refine HL.out.mono ?_
      rintro e w1 ⟨rfl, k1⟩
      have K1 := Lib.hid k1
      clear k1
      go_wp2_with fail
      refine (Unpack_any w1 v).mono ?_
      rintro e w2 ⟨rfl, k2⟩
      rw [HUU.out, TagV.cells_def, HI.out]
      have hb2 := (K1.out.trans' k2).at K0.out.2 (fun e => e)
      obtain ⟨c0, c1, c2⟩ := row3 hb2
      have f0 := frz hb2 0
      have f1 := frz hb2 1
      have f2 := frz hb2 2
      have hlt : B < w2.heap.size := getElem?_lt hb2
      have K2 := Lib.hid (And.intro (K1.out.trans' k2) hb2)
      clear k2 hb2
      obtain ⟨w3, hw3⟩ : ∃ w3, w3 = w2.alloc (.cells #[.int .u64 (s.toNat : Int), .bool u, .int .i64 o] 70) := ⟨_, rfl⟩
      have hk3 : Keeps Nil w2 w3 := by rw [hw3]; exact (Keeps.refl Nil w2).alloc _
      have hb3 : w3.heap[w2.heap.size]? = some (.cells #[.int .u64 (s.toNat : Int), .bool u, .int .i64 o] 70 (0, 0)) := by rw [hw3]; exact heap_new w2 _
      have K3 := Lib.hid (And.intro (K2.out.1.trans' hk3) (And.intro hb3 (hk3.at K2.out.2 (fun e => e))))
      have HW3 := Lib.hid hw3
      clear hk3 hb3 hw3
      go_wp2_with fail
      rw [← HW3.out]
      refine (in_any (H.out.keeps (K0.out.1.trans' K3.out.1)) off s _ _ rfl rfl).mono ?_
      rintro e w4 ⟨rfl, k4⟩
      rw [HN.out]
      have hb4 := k4.at K3.out.2.2 (fun e => e)
      have hs4 := k4.at K3.out.2.1 (fun e => e)
      clear c0 c1 c2 f0 f1 f2
      obtain ⟨c0, c1, c2⟩ := row3 hb4
      have f0 := frz hb4 0
      have f1 := frz hb4 1
      have f2 := frz hb4 2
      obtain ⟨d0, d1, d2⟩ := row3 hs4
      have K4 := Lib.hid (And.intro (K3.out.1.trans' k4) (And.intro hs4 hb4))
      clear k4 hb4 hs4
      go_wp2_with fail
      refine bodyPost_ret (results_row_tmp rfl rfl (setRow3 K4.out.2.2) Try.underlying70 rfl (by kernel_rfl)) rfl ?_
      have hbf : b = false := by rw [HU.out.2.2.2.2.2.2.2.1, HU.out.2.2.2.2.2.2.2.2.2, ← HU.out.2.1]; simp [HI.out, HN.out]
      have hgz : g = TagV.zero := by rw [HU.out.2.2.2.2.2.2.2.2.1]; exact readT_no (by rw [← HU.out.2.2.2.2.2.2.2.1]; exact hbf)
      refine ⟨by rw [hbf, hgz]; rfl, keepsRow3 (K0.out.1.trans' K4.out.1) (by rw [HB.out]; exact Nat.le_refl _) _ _ _⟩
    | true =>
      have HN := Lib.hid hn
      clear hn
      by_cases hlast : v2 = v
      · have tst := (same_u64 hlast).1
        have HE := Lib.hid hlast
        clear hlast
        have q1 := HF.out.1
        have q2 := HF.out.2
        go_enter Try.func69, Try.ntmps69
        go_wp2_with fail
        rw [← HW0.out, ← HB.out]
        refine HL.out.mono ?_
        rintro e w1 ⟨rfl, k1⟩
        have K1 := Lib.hid k1
        clear k1
        go_wp2_with fail
        refine (Unpack_any w1 v).mono ?_
        rintro e w2 ⟨rfl, k2⟩
        rw [HUU.out, TagV.cells_def, HI.out]
        have hb2 := (K1.out.trans' k2).at K0.out.2 (fun e => e)
        obtain ⟨c0, c1, c2⟩ := row3 hb2
        have f0 := frz hb2 0
        have f1 := frz hb2 1
        have f2 := frz hb2 2
        have hlt : B < w2.heap.size := getElem?_lt hb2
        have K2 := Lib.hid (And.intro (K1.out.trans' k2) hb2)
        clear k2 hb2
        obtain ⟨w3, hw3⟩ : ∃ w3, w3 = w2.alloc (.cells #[.int .u64 (s.toNat : Int), .bool u, .int .i64 o] 70) := ⟨_, rfl⟩
        have hk3 : Keeps Nil w2 w3 := by rw [hw3]; exact (Keeps.refl Nil w2).alloc _
        have hb3 : w3.heap[w2.heap.size]? = some (.cells #[.int .u64 (s.toNat : Int), .bool u, .int .i64 o] 70 (0, 0)) := by rw [hw3]; exact heap_new w2 _
        have K3 := Lib.hid (And.intro (K2.out.1.trans' hk3) (And.intro hb3 (hk3.at K2.out.2 (fun e => e))))
        have HW3 := Lib.hid hw3
        clear hk3 hb3 hw3
        go_wp2_with fail
        rw [← HW3.out]
        refine (in_any (H.out.keeps (K0.out.1.trans' K3.out.1)) off s _ _ rfl rfl).mono ?_
        rintro e w4 ⟨rfl, k4⟩
        rw [HN.out]
        have hb4 := k4.at K3.out.2.2 (fun e => e)
        have hs4 := k4.at K3.out.2.1 (fun e => e)
        clear c0 c1 c2 f0 f1 f2
        obtain ⟨c0, c1, c2⟩ := row3 hb4
        have f0 := frz hb4 0
        have f1 := frz hb4 1
        have f2 := frz hb4 2
        obtain ⟨d0, d1, d2⟩ := row3 hs4
        have K4 := Lib.hid (And.intro (K3.out.1.trans' k4) (And.intro hs4 hb4))
        clear k4 hb4 hs4
        go_wp2_with fail
        refine (H.out.load _ (K0.out.1.trans' K4.out.1) y2 _ rfl).mono ?_
        rintro e w5 ⟨rfl, k5⟩
        rw [← HU.out.2.2.1]
        have hb5 := k5.at K4.out.2.2 (fun e => e)
        have hs5 := k5.at K4.out.2.1 (fun e => e)
        clear c0 c1 c2 f0 f1 f2 d0 d1 d2
        obtain ⟨c0, c1, c2⟩ := row3 hb5
        have f0 := frz hb5 0
        have f1 := frz hb5 1
        have f2 := frz hb5 2
        obtain ⟨d0, d1, d2⟩ := row3 hs5
        have K5 := Lib.hid (And.intro (K4.out.1.trans' k5) hb5)
        clear k5 hb5 hs5
        go_wp2_with fail
        refine bodyPost_ret (results_row_tmp rfl rfl (setRow3 K5.out.2) Try.underlying70 rfl (by kernel_rfl)) rfl ?_
        have hbf : b = true := by rw [HU.out.2.2.2.2.2.2.2.1, HU.out.2.2.2.2.2.2.2.2.2, ← HU.out.2.1, ← HU.out.2.2.1]; simp [HI.out, HN.out, HE.out]
        have hgz : g = ⟨s, u, o⟩ := by rw [HU.out.2.2.2.2.2.2.2.2.1, readT_yes (by rw [← HU.out.2.2.2.2.2.2.2.1]; exact hbf), ← HU.out.2.1]; exact HUU.out
        refine ⟨by rw [hbf, hgz]; rfl, keepsRow3 (K0.out.1.trans' K5.out.1) (by rw [HB.out]; exact Nat.le_refl _) _ _ _⟩
      · have tst := (unlike_u64 hlast).1
        have HE := Lib.hid hlast
        clear hlast
        have q1 := HF.out.1
        have q2 := HF.out.2
        go_enter Try.func69, Try.ntmps69
        go_wp2_with fail
        rw [← HW0.out, ← HB.out]
        refine HL.out.mono ?_
        rintro e w1 ⟨rfl, k1⟩
        have K1 := Lib.hid k1
        clear k1
        go_wp2_with fail
        refine (Unpack_any w1 v).mono ?_
        rintro e w2 ⟨rfl, k2⟩
        rw [HUU.out, TagV.cells_def, HI.out]
        have hb2 := (K1.out.trans' k2).at K0.out.2 (fun e => e)
        obtain ⟨c0, c1, c2⟩ := row3 hb2
        have f0 := frz hb2 0
        have f1 := frz hb2 1
        have f2 := frz hb2 2
        have hlt : B < w2.heap.size := getElem?_lt hb2
        have K2 := Lib.hid (And.intro (K1.out.trans' k2) hb2)
        clear k2 hb2
        obtain ⟨w3, hw3⟩ : ∃ w3, w3 = w2.alloc (.cells #[.int .u64 (s.toNat : Int), .bool u, .int .i64 o] 70) := ⟨_, rfl⟩
        have hk3 : Keeps Nil w2 w3 := by rw [hw3]; exact (Keeps.refl Nil w2).alloc _
        have hb3 : w3.heap[w2.heap.size]? = some (.cells #[.int .u64 (s.toNat : Int), .bool u, .int .i64 o] 70 (0, 0)) := by rw [hw3]; exact heap_new w2 _
        have K3 := Lib.hid (And.intro (K2.out.1.trans' hk3) (And.intro hb3 (hk3.at K2.out.2 (fun e => e))))
        have HW3 := Lib.hid hw3
        clear hk3 hb3 hw3
        go_wp2_with fail
        rw [← HW3.out]
        refine (in_any (H.out.keeps (K0.out.1.trans' K3.out.1)) off s _ _ rfl rfl).mono ?_
        rintro e w4 ⟨rfl, k4⟩
        rw [HN.out]
        have hb4 := k4.at K3.out.2.2 (fun e => e)
        have hs4 := k4.at K3.out.2.1 (fun e => e)
        clear c0 c1 c2 f0 f1 f2
        obtain ⟨c0, c1, c2⟩ := row3 hb4
        have f0 := frz hb4 0
        have f1 := frz hb4 1
        have f2 := frz hb4 2
        obtain ⟨d0, d1, d2⟩ := row3 hs4
        have K4 := Lib.hid (And.intro (K3.out.1.trans' k4) (And.intro hs4 hb4))
        clear k4 hb4 hs4
        go_wp2_with fail
        refine (H.out.load _ (K0.out.1.trans' K4.out.1) y2 _ rfl).mono ?_
        rintro e w5 ⟨rfl, k5⟩
        rw [← HU.out.2.2.1]
        have hb5 := k5.at K4.out.2.2 (fun e => e)
        have hs5 := k5.at K4.out.2.1 (fun e => e)
        clear c0 c1 c2 f0 f1 f2 d0 d1 d2
        obtain ⟨c0, c1, c2⟩ := row3 hb5
        have f0 := frz hb5 0
        have f1 := frz hb5 1
        have f2 := frz hb5 2
        obtain ⟨d0, d1, d2⟩ := row3 hs5
        have K5 := Lib.hid (And.intro (K4.out.1.trans' k5) hb5)
        clear k5 hb5 hs5
        go_wp2_with fail
        refine bodyPost_ret (results_row_tmp rfl rfl (setRow3 K5.out.2) Try.underlying70 rfl (by kernel_rfl)) rfl ?_
        have hbf : b = false := by rw [HU.out.2.2.2.2.2.2.2.1, HU.out.2.2.2.2.2.2.2.2.2, ← HU.out.2.1]; rw [← HU.out.2.2.1]; simp [HI.out, HN.out, HE.out]
        have hgz : g = TagV.zero := by rw [HU.out.2.2.2.2.2.2.2.2.1]; exact readT_no (by rw [← HU.out.2.2.2.2.2.2.2.1]; exact hbf)
        refine ⟨by rw [hbf, hgz]; rfl, keepsRow3 (K0.out.1.trans' K5.out.1) (by rw [HB.out]; exact Nat.le_refl _) _ _ _⟩
end Go.Proofs.Ytccllkgaakmdhaa
