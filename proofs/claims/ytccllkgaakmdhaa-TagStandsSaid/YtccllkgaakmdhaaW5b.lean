/- carracklaw05.TagFirst, TagBack. -/
import Derived.Test.YtccllkgaakmdhaaW5a
namespace Go.Proofs.Ytccllkgaakmdhaa
open Go.RowKit

theorem fmt_heap {n : Nat} {size : UInt64} (h : fitsN size (8 * n) = true) : loadV (fmtW n size) 3776 = size - 3776 ∧ loadV (fmtW n size) (size - 8) = size - 3776 := by
  obtain ⟨h1, h2, h3⟩ := fits_spec h
  have hn : 478 ≤ n := by omega
  have hl := fmtR_length n size
  have hm : 472 < size.toNat / 8 - 1 := by omega
  have hs : (size - 8).toNat = 8 * (size.toNat / 8 - 1) := by
    have : (8 : UInt64) ≤ size := by rw [UInt64.le_iff_toNat_le]; simp; omega
    rw [UInt64.toNat_sub_of_le _ _ this]; simp; omega
  rw [fmt_same h, loadV_at (off := 3776) (i := 472) (by decide) (by omega), loadV_at (off := size - 8) (i := size.toNat / 8 - 1) hs (by omega)]
  unfold fmtR
  constructor
  · simp only [List.getElem?_set, List.length_set, List.length_replicate, List.getElem?_replicate]
    have z0 : ¬ size.toNat / 8 - 1 = 472 := by omega
    simp [z0, show 472 < n by omega]
  · rw [List.getElem?_set_self (by simp; omega)]
    rfl
theorem first_tag {size : UInt64} (h : fitsN size 4800 = true) :
    readB (txLoad (formW size) []) 3776 = true ∧ readT (txLoad (formW size) []) 3776 = ⟨size - 3776, false, 0⟩ := by
  obtain ⟨h1, h2, h3⟩ := fits_spec h
  obtain ⟨f1, f2⟩ := fmt_heap (n := 600) h
  obtain ⟨_, _, f16, _⟩ := fmt_tells (n := 600) h
  have hz : (size - 3776).toNat = size.toNat - 3776 := by
    have : (3776 : UInt64) ≤ size := by rw [UInt64.le_iff_toNat_le]; simp; omega
    rw [UInt64.toNat_sub_of_le _ _ this]; rfl
  have hm : mayT ⟨size - 3776, false, 0⟩ = true := decide_eq_true ⟨by rw [hz]; omega, by rw [hz]; omega, by rw [hz]; omega, Int.le_refl 0, (by show (0 : Int) ≤ 8; decide), .inr rfl⟩
  have hp : packU ⟨size - 3776, false, 0⟩ = size - 3776 := UInt64.toNat_inj.1 (by rw [pack_toNat hm]; simp [packN, bitOf])
  have hi := isTag_pack hm
  have hu := unpack_pack hm
  rw [hp] at hi hu
  have e8 : (3776 : UInt64) + (size - 3776) - 8 = size - 8 := by
    rw [UInt64.add_comm, UInt64.sub_add_cancel]
  have hb : readB (txLoad (formW size) []) 3776 = true := by
    rw [formW_yes h]
    unfold readB
    rw [txLoad_nil, f1, hu, hi]
    simp only
    rw [e8]
    simp only [txLoad_nil]
    rw [f2, f16]
    have : inT size 3776 (size - 3776) = true := decide_eq_true ⟨by decide, by decide, by simp; omega, by rw [hz]; simp⟩
    rw [this]; simp
  refine ⟨hb, ?_⟩
  rw [readT_yes hb, formW_yes h, txLoad_nil, f1, hu]
theorem first_none {size : UInt64} (h : fitsN size 4800 = false) : readB (txLoad (formW size) []) 3776 = false := by
  have : txLoad (formW size) [] 3776 = 0 := by
    rw [formW_no h, txLoad_nil, loadV_at (off := 3776) (i := 472) (by decide) (by rw [List.length_replicate]; decide), List.getElem?_replicate]
    rfl
  unfold readB
  rw [this, isTag_zero]; rfl
theorem nil_none : readB (fun _ => 0) 3776 = false := by decide
theorem nil_write (g : TagV) : writeB (fun _ => 0) 3776 g = false := by
  have : inT 0 3776 g.size = false := decide_eq_false (fun h => by have := h.2.2.1; simp at this)
  unfold writeB
  rw [this]; simp
theorem zero_cells : TagV.zero.cells = #[.int .u64 0, .bool false, .int .i64 0] := rfl
theorem codeOf_no : codeOf false = 12 := rfl

set_option maxRecDepth 100000 in
set_option maxHeartbeats 4000000 in
theorem tfirst_any {w : World} (size : UInt64) : Calls Try.prog 17 #[.int .u64 (size.toNat : Int)] w fun e w' => e = .returned (.bool true) ∧ Keeps Nil w w' := by
  cases hf : fitsN size 4800 with
  | false =>
    have HF := Lib.hid hf
    clear hf
    go_enter Try.func17, Try.ntmps17
    go_wp2_with fail
    refine (awake5 _).mono ?_
    rintro e w1 ⟨rfl, k1⟩
    have H1 := Lib.hid k1
    clear k1
    go_wp2_with fail
    refine (formed05' (l := []) size Look.nil _ rfl).mono ?_
    rintro e w2 ⟨sg, t, ab, ao, ac, a2, n2, cc2, rfl, L⟩
    obtain ⟨w3, hw3⟩ : ∃ w3, w3 = w2.alloc (.cells #[.slice (some ⟨ab, ao, none⟩) 600 ac, .slice a2 n2 cc2] 28) := ⟨_, rfl⟩
    have L3 := L.quiet (w' := w3) (Stable.txv _ _ _ _) (by rw [hw3]; exact (Keeps.refl Nil _).alloc _)
    have T3 : Reads (.pointer (some ⟨t, 0, none⟩)) (txLoad (formW size) []) 4800 w3 := by have := L3.tells; rw [formW_length] at this; exact this
    have H3 := Lib.hid (And.intro T3 (H1.out.trans' L3.keeps))
    have HW3 := Lib.hid hw3
    clear L L3 T3 hw3
    go_wp2_with fail
    rw [← HW3.out]
    refine (Read_any H3.out.1 3776 _ (by rfl)).mono ?_
    rintro e w4 ⟨rfl, k4⟩
    rw [first_none HF.out, readT_no (first_none HF.out), codeOf_no, zero_cells]
    have H4 := Lib.hid (H3.out.2.trans' k4)
    clear k4
    go_wp2_with fail
    refine (Read_any (Reads.nil _) 3776 _ (by rfl)).mono ?_
    rintro e w5 ⟨rfl, k5⟩
    rw [nil_none, readT_no nil_none, codeOf_no, zero_cells]
    have H5 := Lib.hid (((H4.out.alloc _).trans' k5).alloc (.cells #[.int .u64 0, .bool false, .int .i64 0] 70))
    clear k5
    go_wp2_with fail
    refine (rFits_any _ size 4800 _ _ rfl (by rfl)).mono ?_
    rintro e w' ⟨rfl, rfl⟩
    rw [HF.out]
    go_wp2_with fail
    go_ret
    exact ⟨rfl, H5.out⟩
  | true =>
    obtain ⟨z, hz⟩ : ∃ z, z = size - 3776 := ⟨_, rfl⟩
    have hsub : IntKind.u64.wrap ((size.toNat : Int) - 3776) = (z.toNat : Int) := by rw [hz]; exact u64_sub size 3776
    have q := tag_self z false 0
    have hgd := tag_gd
    have HF := Lib.hid (And.intro hf hz)
    clear hf hz
    go_enter Try.func17, Try.ntmps17
    go_wp2_with fail
    refine (awake5 _).mono ?_
    rintro e w1 ⟨rfl, k1⟩
    have H1 := Lib.hid k1
    clear k1
    go_wp2_with fail
    refine (formed05' (l := []) size Look.nil _ rfl).mono ?_
    rintro e w2 ⟨sg, t, ab, ao, ac, a2, n2, cc2, rfl, L⟩
    obtain ⟨w3, hw3⟩ : ∃ w3, w3 = w2.alloc (.cells #[.slice (some ⟨ab, ao, none⟩) 600 ac, .slice a2 n2 cc2] 28) := ⟨_, rfl⟩
    have L3 := L.quiet (w' := w3) (Stable.txv _ _ _ _) (by rw [hw3]; exact (Keeps.refl Nil _).alloc _)
    have T3 : Reads (.pointer (some ⟨t, 0, none⟩)) (txLoad (formW size) []) 4800 w3 := by have := L3.tells; rw [formW_length] at this; exact this
    have H3 := Lib.hid (And.intro T3 (H1.out.trans' L3.keeps))
    have HW3 := Lib.hid hw3
    clear L L3 T3 hw3
    go_wp2_with fail
    rw [← HW3.out]
    refine (Read_any H3.out.1 3776 _ (by rfl)).mono ?_
    rintro e w4 ⟨rfl, k4⟩
    rw [(first_tag HF.out.1).1, (first_tag HF.out.1).2, codeOf_true, ← HF.out.2, TagV.cells_def]
    obtain ⟨w5, hw5⟩ : ∃ w5, w5 = w4.alloc (.cells #[.int .u64 (z.toNat : Int), .bool false, .int .i64 0] 70) := ⟨_, rfl⟩
    have k5 : Keeps Nil w3 w5 := by rw [hw5]; exact k4.alloc _
    have b5 : w5.heap[w4.heap.size]? = some (.cells #[.int .u64 (z.toNat : Int), .bool false, .int .i64 0] 70 (0, 0)) := by rw [hw5]; exact heap_new _ _
    have H5 := Lib.hid (And.intro (H3.out.2.trans' k5) b5)
    have HW5 := Lib.hid hw5
    clear k4 k5 b5 hw5
    go_wp2_with fail
    rw [← HW5.out]
    refine (Read_any (Reads.nil w5) 3776 _ (by rfl)).mono ?_
    rintro e w6 ⟨rfl, k6⟩
    rw [nil_none, readT_no nil_none, codeOf_no, zero_cells]
    obtain ⟨w7, hw7⟩ : ∃ w7, w7 = w6.alloc (.cells #[.int .u64 0, .bool false, .int .i64 0] 70) := ⟨_, rfl⟩
    have k7 : Keeps Nil w5 w7 := by rw [hw7]; exact k6.alloc _
    have b7 := k7.at H5.out.2 (fun e => e)
    have b6 := k6.at H5.out.2 (fun e => e)
    have c0 := (row3 b7).1
    have c1 := (row3 b7).2.1
    have c2 := (row3 b7).2.2
    have d0 := (row3 b6).1
    have d1 := (row3 b6).2.1
    have d2 := (row3 b6).2.2
    have hlt : w4.heap.size < w6.heap.size := getElem?_lt b6
    have H7 := Lib.hid (H5.out.1.trans' k7)
    have HW7 := Lib.hid hw7
    clear k6 k7 b7 b6 hw7
    go_wp2_with fail
    rw [← HW7.out]
    refine (rFits_any _ size 4800 _ _ rfl (by rfl)).mono ?_
    rintro e w' ⟨rfl, rfl⟩
    rw [HF.out.1]
    go_wp2_with fail
    refine (Write_no (Reads.nil w7) 3776 ⟨z, false, 0⟩ (nil_write _) _ (by rfl)).mono ?_
    rintro e w8 ⟨rfl, k8⟩
    have H8 := Lib.hid (H7.out.trans' k8)
    clear k8 c0 c1 c2 d0 d1 d2
    go_wp2_with fail
    go_ret
    exact ⟨rfl, H8.out⟩
end Go.Proofs.Ytccllkgaakmdhaa
