/- carracklaw04: awake, words; what a formatted segment tells. -/
import Derived.Test.YtccllkgaakmdhaaRef4C
namespace Go.Proofs.Ytccllkgaakmdhaa
open Go.RowKit

/-- what a formatted segment tells -/
theorem fmt_tells {n : Nat} {size : UInt64} (h : fitsN size (8 * n) = true) :
    loadV (fmtW n size) 0 = magicU ∧ loadV (fmtW n size) 8 = 1 ∧ loadV (fmtW n size) 16 = size ∧ loadV (fmtW n size) 24 = 0 ∧ loadV (fmtW n size) 32 = 3776 ∧ loadV (fmtW n size) 40 = sumU size := by
  obtain ⟨h1, h2, h3⟩ := fits_spec h
  have hn : 478 ≤ n := by omega
  have hl := fmtR_length n size
  have hm : 472 < size.toNat / 8 - 1 := by omega
  rw [fmt_same h]
  rw [loadV_at (off := 0) (i := 0) (by decide) (by omega), loadV_at (off := 8) (i := 1) (by decide) (by omega), loadV_at (off := 16) (i := 2) (by decide) (by omega), loadV_at (off := 24) (i := 3) (by decide) (by omega),
    loadV_at (off := 32) (i := 4) (by decide) (by omega), loadV_at (off := 40) (i := 5) (by decide) (by omega)]
  unfold fmtR
  refine ⟨?_, ?_, ?_, ?_, ?_, ?_⟩
  all_goals
    simp only [List.getElem?_set, List.length_set, List.length_replicate, List.getElem?_replicate]
    have z0 : ¬ size.toNat / 8 - 1 = 0 := by omega
    have z1 : ¬ size.toNat / 8 - 1 = 1 := by omega
    have z2 : ¬ size.toNat / 8 - 1 = 2 := by omega
    have z3 : ¬ size.toNat / 8 - 1 = 3 := by omega
    have z4 : ¬ size.toNat / 8 - 1 = 4 := by omega
    have z5 : ¬ size.toNat / 8 - 1 = 5 := by omega
    simp [z0, z1, z2, z3, z4, z5, show 0 < n by omega, show 1 < n by omega, show 2 < n by omega, show 3 < n by omega, show 4 < n by omega, show 5 < n by omega]
theorem fmt_chk {n : Nat} {size : UInt64} (h : fitsN size (8 * n) = true) : chkB (8 * n) (loadV (fmtW n size)) = true := by
  obtain ⟨h0, h1, h2, h3, h4, h5⟩ := fmt_tells h
  simp [chkB, h0, h1, h2, h5, h]

def awF : UInt64 → UInt64 := txLoad (fmtW 512 4000) []
theorem awF_16 : awF 16 = 4000 := by kernel_rfl
theorem awF_32 : awF 32 = 3776 := by kernel_rfl
theorem awF_chk : chkE 4096 awF = 0 := by kernel_rfl
theorem awF_heap : awF 3776 = 224 := by kernel_rfl
theorem awF_end : awF 3992 = 224 := by kernel_rfl
theorem fits_4000 : fitsN 4000 4096 = true := by decide

set_option maxRecDepth 100000 in
set_option maxHeartbeats 2000000 in
theorem awake4 (w : World) : Calls Try.prog 37 #[] w fun e w' => e = .returned (.bool true) ∧ Keeps Nil w w' := by
  go_enter Try.func37, Try.ntmps37
  go_wp2_with fail
  refine (New_yes w 4096 (by decide) _ (by rfl)).mono ?_
  rintro e w1 ⟨rfl, hs, k1, hsz⟩
  have hs' : SegAt w1 (w.heap.size + 1) w.heap.size (List.replicate 512 0) := hs
  have H1 := Lib.hid (And.intro hs' (And.intro k1 hsz))
  clear hs hs' k1 hsz
  go_wp2_with fail
  refine (Format_yes H1.out.1 4000 _ (by rfl) (by rw [List.length_replicate]; exact fits_4000)).mono ?_
  rintro e w2 ⟨rfl, hs, k2⟩
  rw [List.length_replicate] at hs
  have H2 := Lib.hid (And.intro hs (H1.out.2.1.trans k2 (fun i hi e => by omega) : Keeps Nil w w2))
  clear hs k2
  go_wp2_with fail
  refine (H2.out.1.live H2.out.2 (by omega) (Nat.le_refl _)).mono ?_
  rintro e w3 ⟨t, rfl, L, _⟩
  have T3 : Reads (.pointer (some ⟨t, 0, none⟩)) awF 4096 w3 := by have := L.tells; rwa [fmtW_length] at this
  have H3 := Lib.hid (And.intro L.keeps T3)
  clear L T3
  go_wp2_with fail
  refine (hSize_any H3.out.2).mono ?_
  rintro e w4 ⟨rfl, k4⟩
  rw [awF_16]
  have H4 := Lib.hid (And.intro (H3.out.1.trans' k4) (H3.out.2.keeps k4))
  clear k4
  go_wp2_with fail
  refine (hRoot_any H4.out.2).mono ?_
  rintro e w5 ⟨rfl, k5⟩
  rw [awF_32]
  have H5 := Lib.hid (And.intro (H4.out.1.trans' k5) (H4.out.2.keeps k5))
  clear k5
  go_wp2_with fail
  refine (hCheck_any H5.out.2).mono ?_
  rintro e w6 ⟨rfl, k6⟩
  rw [awF_chk]
  have H6 := Lib.hid (And.intro (H5.out.1.trans' k6) (H5.out.2.keeps k6))
  clear k6
  go_wp2_with fail
  refine (H6.out.2.load w6 (Keeps.refl _ _) 3776 _ (by rfl)).mono ?_
  rintro e w7 ⟨rfl, k7⟩
  rw [awF_heap]
  have H7 := Lib.hid (And.intro (H6.out.1.trans' k7) (H6.out.2.keeps k7))
  clear k7
  go_wp2_with fail
  refine (H7.out.2.load w7 (Keeps.refl _ _) 3992 _ (by rfl)).mono ?_
  rintro e w8 ⟨rfl, k8⟩
  rw [awF_end]
  have H8 := Lib.hid (H7.out.1.trans' k8)
  clear k8
  go_wp2_with fail
  go_ret
  exact ⟨rfl, H8.out⟩

set_option maxRecDepth 100000 in
set_option maxHeartbeats 2000000 in
/-- all words of a segment of 16000 bytes at most -/
theorem words4 {w : World} {p q : Nat} {ws : List UInt64} (h : SegAt w p q ws) (hl : ws.length ≤ 2000) :
    Calls Try.prog 41 #[.pointer (some ⟨p, 0, none⟩)] w fun e w' => ∃ v, e = .returned v ∧ Own kU w' w.heap.size v ws ∧ Keeps Nil w w' := by
  obtain ⟨n, hn⟩ : ∃ n, n = ws.length := ⟨_, rfl⟩
  rw [← hn] at hl
  have HL := Lib.hid hn
  clear hn
  go_enter Try.func41, Try.ntmps41
  go_wp2_with fail
  go_loopw [3, 4] (fun v o wr => ∃ k : Nat, k ≤ n ∧ o = .int .u64 ((8 * k : Nat) : Int) ∧ Own kU wr w.heap.size v (ws.take k) ∧ Keeps Nil w wr) (fun _ o _ => 8 * n - (intOf o).toNat)
  case atStart => exact ⟨0, by omega, rfl, Own.nil _ _ _, Keeps.refl _ _⟩
  case round =>
    obtain ⟨k, hk, rfl, hown, hK⟩ := hrel
    have HZ := Lib.hid (Size_some (h.keeps hK (fun e => e) (fun e => e)))
    by_cases hlt : k < n
    · have hs := h.keeps hK (fun e => e) (fun e => e)
      have HC := Lib.hid (Load_at hs k (by have := HL.out; omega) (8 * (k : Int)) (by simp))
      clear hs
      go_wp2_with fail
      refine HZ.out.mono ?_
      rintro e w' ⟨rfl, rfl⟩
      rw [← HL.out]
      go_wp2_with fail
      refine HC.out.mono ?_
      rintro e w1 ⟨rfl, hK1⟩
      have hown1 := hown.keeps_nil hK1
      have hb := (hK.trans' hK1).size
      have hln : (ws.take k).length = k := by rw [List.length_take]; have := HL.out; omega
      have HN := Lib.hid hln
      clear hln
      go_wp2_with (at_builtin; refine wpList_append_u64 rfl _ _ rfl k HN.out hown1 rfl (ws[k]?.getD 0) _ rfl rfl (by omega) hb ?_; rintro _ w3 hown3 hK3 ⟨g, cap, rfl, hg⟩)
      go_roundw
      case rel =>
        have hx : ws[k]? = some (ws[k]?.getD 0) := by
          have : k < ws.length := by have := HL.out; omega
          simp [this]
        exact ⟨k + 1, by omega, by go_num, by rw [take_succ' hx]; exact hown3, (hK.trans' hK1).trans hK3 (fun i hi e => by have := (hown1.block e).1; omega)⟩
      case measure => simp [intOf]; omega
    · obtain rfl : k = n := by omega
      go_wp2_with fail
      refine HZ.out.mono ?_
      rintro e w' ⟨rfl, rfl⟩
      rw [← HL.out]
      go_wp2_with fail
      go_ret
      have : ws.take k = ws := List.take_of_length_le (by have := HL.out; omega)
      rw [this] at hown
      exact ⟨_, rfl, hown, hK⟩
theorem words4_nil (w : World) : Calls Try.prog 41 #[.pointer none] w fun e w' => e = .returned (.slice none 0 0) ∧ Keeps Nil w w' := by
  go_enter Try.func41, Try.ntmps41
  go_wp2_with fail
  go_loopw [3, 4] (fun v o wr => v = .slice none 0 0 ∧ o = .int .u64 0 ∧ Keeps Nil w wr) (fun _ o _ => 0)
  case atStart => exact ⟨rfl, rfl, Keeps.refl _ _⟩
  case round =>
    obtain ⟨rfl, rfl, hK⟩ := hrel
    go_wp2_with fail
    refine (Size_nil _).mono ?_
    rintro e w' ⟨rfl, rfl⟩
    go_wp2_with fail
    go_ret
    exact ⟨rfl, hK⟩
end Go.Proofs.Ytccllkgaakmdhaa
