/- head.Format: all words of a formatted segment. -/
import Derived.Test.YtccllkgaakmdhaaHead
namespace Go.Proofs.Ytccllkgaakmdhaa
open Go.RowKit

def zeroTo (ws : List UInt64) (k : Nat) : List UInt64 := List.replicate k 0 ++ ws.drop k
theorem zeroTo_zero (ws : List UInt64) : zeroTo ws 0 = ws := by simp [zeroTo]
theorem zeroTo_all (ws : List UInt64) : zeroTo ws ws.length = List.replicate ws.length 0 := by simp [zeroTo]
theorem zeroTo_length {ws : List UInt64} {k : Nat} (h : k ≤ ws.length) : (zeroTo ws k).length = ws.length := by simp [zeroTo]; omega
theorem zeroTo_step {ws : List UInt64} {k : Nat} (hs : ws.length ≤ 131072) (h : k < ws.length) : putW (zeroTo ws k) (offU k) 0 = zeroTo ws (k + 1) := by
  have ho := off_ofNat (k := k) (by omega)
  have hl := zeroTo_length (ws := ws) (k := k) (by omega)
  have hin : inB (zeroTo ws k) (offU k) = true := by rw [inB_iff, ho, hl]; omega
  unfold putW
  rw [if_pos hin, ho, show 8 * k / 8 = k by omega]
  refine List.ext_getElem? (fun i => ?_)
  unfold zeroTo
  by_cases e : i = k
  · subst e
    rw [List.getElem?_set_self (by simp; omega), List.getElem?_append_left (by simp)]
    simp
  · rw [List.getElem?_set_ne (by omega)]
    by_cases e2 : i < k
    · rw [List.getElem?_append_left (by simpa using e2), List.getElem?_append_left (by simp; omega)]
      simp [List.getElem?_replicate, e2]; omega
    · rw [List.getElem?_append_right (by simp; omega), List.getElem?_append_right (by simp; omega)]
      simp only [List.length_replicate, List.getElem?_drop]
      congr 1
      omega

/-- the words of a formatted segment -/
def fmtW (n : Nat) (size : UInt64) : List UInt64 :=
  putW (putW (putW (putW (putW (putW (putW (List.replicate n 0) 0 magicU) 8 1) 16 size) 32 3776) 40 (sumU size)) 3776 (size - 3776)) (size - 8) (size - 3776)
theorem putW_len (ws : List UInt64) (off v : UInt64) : (putW ws off v).length = ws.length := by unfold putW; split <;> simp
theorem fmtW_length (n : Nat) (size : UInt64) : (fmtW n size).length = n := by simp [fmtW, putW_len]

theorem Format1_any {w : World} {p q b : Nat} {ws : List UInt64} (h : SegAt w p q ws) (hb : w.cell? ⟨b, 0, none⟩ = some (.pointer (some ⟨p, 0, none⟩))) (off v : UInt64) (x y : Int) (hx : x = (off.toNat : Int)) (hy : y = (v.toNat : Int)) :
    Calls Try.prog 95 #[.int .u64 x, .int .u64 y, .pointer (some ⟨b, 0, none⟩)] w fun e w' => e = .returned (.tuple #[]) ∧ SegAt w' p q (putW ws off v) ∧ Keeps (fun k => k = q) w w' := by
  subst hx hy
  go_enter Try.func95, Try.ntmps95
  go_wp2_with fail
  refine (Store_any h off v _ _ rfl rfl).mono ?_
  rintro e w' ⟨rfl, h1, h2⟩
  go_wp2_with fail
  refine bodyPost_end (results_none rfl _ _ _) rfl ?_
  exact ⟨rfl, h1, h2⟩

theorem Format_nil (w : World) (size : Int) : Calls Try.prog 39 #[.pointer none, .int .u64 size] w fun e w' => e = .returned (.int .i64 1) ∧ Keeps Nil w w' := by
  go_enter Try.func39, Try.ntmps39
  go_wp2_with fail
  go_ret
  exact ⟨rfl, (Keeps.refl Nil w).alloc _⟩

theorem Format_no {w : World} {p q : Nat} {ws : List UInt64} (h : SegAt w p q ws) (size : UInt64) (x : Int) (hx : x = (size.toNat : Int)) (hf : fitsN size (8 * ws.length) = false) :
    Calls Try.prog 39 #[.pointer (some ⟨p, 0, none⟩), .int .u64 x] w fun e w' => e = .returned (.int .i64 2) ∧ Keeps Nil w w' := by
  subst hx
  have HF := Lib.hid hf
  clear hf
  have hs := h.keeps ((Keeps.refl Nil w).alloc (.cells #[.pointer (some ⟨p, 0, none⟩)] 24)) (fun e => e) (fun e => e)
  have HS := Lib.hid (Size_some hs)
  clear hs
  go_enter Try.func39, Try.ntmps39
  go_wp2_with fail
  refine HS.out.mono ?_
  rintro e w' ⟨rfl, rfl⟩
  go_wp2_with fail
  refine (fits_any _ size (8 * ws.length) _ _ rfl (by simp)).mono ?_
  rintro e w' ⟨rfl, rfl⟩
  rw [HF.out]
  go_wp2_with fail
  go_ret
  exact ⟨rfl, (Keeps.refl Nil w).alloc _⟩

set_option maxRecDepth 100000 in
set_option maxHeartbeats 2000000 in
theorem Format_yes {w : World} {p q : Nat} {ws : List UInt64} (h : SegAt w p q ws) (size : UInt64) (x : Int) (hx : x = (size.toNat : Int)) (hf : fitsN size (8 * ws.length) = true) :
    Calls Try.prog 39 #[.pointer (some ⟨p, 0, none⟩), .int .u64 x] w fun e w' => e = .returned (.int .i64 0) ∧ SegAt w' p q (fmtW ws.length size) ∧ Keeps (fun k => k = q) w w' := by
  subst hx
  have HF := Lib.hid hf
  clear hf
  have hsz : ws.length ≤ 131072 := h.2.1
  have hpl := h.lt.1
  have hql := h.lt.2
  obtain ⟨W, hW⟩ : ∃ W : World, W = w.alloc (.cells #[.pointer (some ⟨p, 0, none⟩)] 24) := ⟨_, rfl⟩
  have hWk : Keeps Nil w W := by rw [hW]; exact (Keeps.refl Nil w).alloc _
  have hWc : W.heap[w.heap.size]? = some (.cells #[.pointer (some ⟨p, 0, none⟩)] 24 (0, 0)) := by rw [hW]; exact heap_new _ _
  have hs := h.keeps hWk (fun e => e) (fun e => e)
  have HS := Lib.hid (And.intro hs (And.intro hWk hWc))
  have HW := Lib.hid hW
  have hm := u64_sub size 3776
  have hm2 := u64_sub size 8
  have hm' : IntKind.u64.wrap ((size.toNat : Int) - 3776) = ((size - 3776).toNat : Int) := hm
  have hm2' : IntKind.u64.wrap ((size.toNat : Int) - 8) = ((size - 8).toNat : Int) := hm2
  clear hs hWk hWc hm hm2 h hW
  go_enter Try.func39, Try.ntmps39
  go_wp2_with fail
  rw [← HW.out]
  refine (Size_some HS.out.1).mono ?_
  rintro e w' ⟨rfl, rfl⟩
  go_wp2_with fail
  refine (fits_any _ size (8 * ws.length) _ _ rfl (by simp)).mono ?_
  rintro e w' ⟨rfl, rfl⟩
  rw [HF.out]
  go_wp2_with fail
  go_loopw [5] (fun o wr => ∃ k : Nat, k ≤ ws.length ∧ o = .int .u64 ((8 * k : Nat) : Int) ∧ wr.cell? ⟨w.heap.size, 0, none⟩ = some (.pointer (some ⟨p, 0, none⟩)) ∧ Hid (SegAt wr p q (zeroTo ws k) ∧ Keeps (fun k => k = q) W wr)) (fun o _ => 8 * ws.length - (intOf o).toNat)
  case atStart => exact ⟨0, by omega, rfl, cell_of_one HS.out.2.2, by rw [zeroTo_zero]; exact HS.out.1, Keeps.refl _ _⟩
  case round =>
    obtain ⟨k, hk, rfl, hc, HR⟩ := hrel
    have hzl := Lib.hid (zeroTo_length hk)
    have HSz := Lib.hid (Size_some HR.out.1)
    by_cases hlt : k < ws.length
    · have HO := Lib.hid (off_ofNat (k := k) (by omega))
      go_wp2_with fail
      refine HSz.out.mono ?_
      rintro e w' ⟨rfl, rfl⟩
      rw [hzl.out]
      go_wp2_with fail
      refine (Store_any HR.out.1 (offU k) 0 _ _ (by rw [HO.out]; simp) (by rfl)).mono ?_
      rintro e w1 ⟨rfl, h1, h2⟩
      rw [zeroTo_step hsz hlt] at h1
      have hc1 := (h2.cell (b := w.heap.size) (World.block_lt_of_cell? _ _ hc) (by omega) 0).trans hc
      have HR1 := Lib.hid (And.intro h1 (HR.out.2.trans' h2))
      clear h1 h2
      go_wp2_with fail
      go_roundw
      case rel => exact ⟨k + 1, by omega, by go_num, hc1, HR1.out⟩
      case measure => simp [intOf]; omega
    · have hke : k = ws.length := by omega
      subst hke
      obtain ⟨h1, h2⟩ := HR.out
      rw [zeroTo_all] at h1
      have hB : w.heap.size < wr.heap.size := World.block_lt_of_cell? _ _ hc
      have hne : w.heap.size ≠ q := by omega
      have HA := Lib.hid (And.intro h1 h2)
      clear h1 h2
      go_wp2_with fail
      refine HSz.out.mono ?_
      rintro e w' ⟨rfl, rfl⟩
      rw [hzl.out]
      go_wp2_with fail
      refine (Format1_any HA.out.1 hc 0 magicU _ _ (by rfl) (by rfl)).mono ?_
      rintro e w1 ⟨rfl, h1, h2⟩
      have c1 := (h2.cell hB hne 0).trans hc
      have H1 := Lib.hid (And.intro h1 (And.intro (HA.out.2.trans' h2) h2.size))
      clear h1 h2 hc
      go_wp2_with fail
      refine (Format1_any H1.out.1 c1 8 1 _ _ (by rfl) (by rfl)).mono ?_
      rintro e w2 ⟨rfl, h1, h2⟩
      have c2 := (h2.cell (Nat.lt_of_lt_of_le hB H1.out.2.2) hne 0).trans c1
      have H2 := Lib.hid (And.intro h1 (And.intro (H1.out.2.1.trans' h2) (Nat.le_trans H1.out.2.2 h2.size)))
      clear h1 h2 c1
      go_wp2_with fail
      refine (Format1_any H2.out.1 c2 16 size _ _ (by rfl) (by rfl)).mono ?_
      rintro e w3 ⟨rfl, h1, h2⟩
      have c3 := (h2.cell (Nat.lt_of_lt_of_le hB H2.out.2.2) hne 0).trans c2
      have H3 := Lib.hid (And.intro h1 (And.intro (H2.out.2.1.trans' h2) (Nat.le_trans H2.out.2.2 h2.size)))
      clear h1 h2 c2
      go_wp2_with fail
      refine (Format1_any H3.out.1 c3 32 3776 _ _ (by rfl) (by rfl)).mono ?_
      rintro e w4 ⟨rfl, h1, h2⟩
      have c4 := (h2.cell (Nat.lt_of_lt_of_le hB H3.out.2.2) hne 0).trans c3
      have H4 := Lib.hid (And.intro h1 (And.intro (H3.out.2.1.trans' h2) (Nat.le_trans H3.out.2.2 h2.size)))
      clear h1 h2 c3
      go_wp2_with fail
      refine (Sum_any _ size _ rfl).mono ?_
      rintro e w' ⟨rfl, rfl⟩
      go_wp2_with fail
      refine (Format1_any H4.out.1 c4 40 (sumU size) _ _ (by rfl) (by rfl)).mono ?_
      rintro e w5 ⟨rfl, h1, h2⟩
      have c5 := (h2.cell (Nat.lt_of_lt_of_le hB H4.out.2.2) hne 0).trans c4
      have H5 := Lib.hid (And.intro h1 (And.intro (H4.out.2.1.trans' h2) (Nat.le_trans H4.out.2.2 h2.size)))
      clear h1 h2 c4
      go_wp2_with fail
      refine (Format1_any H5.out.1 c5 3776 (size - 3776) _ _ (by rfl) (by rfl)).mono ?_
      rintro e w6 ⟨rfl, h1, h2⟩
      have c6 := (h2.cell (Nat.lt_of_lt_of_le hB H5.out.2.2) hne 0).trans c5
      have H6 := Lib.hid (And.intro h1 (And.intro (H5.out.2.1.trans' h2) (Nat.le_trans H5.out.2.2 h2.size)))
      clear h1 h2 c5
      go_wp2_with fail
      refine (Format1_any H6.out.1 c6 (size - 8) (size - 3776) _ _ (by rfl) (by rfl)).mono ?_
      rintro e w7 ⟨rfl, h1, h2⟩
      have H7 := Lib.hid (And.intro h1 (H6.out.2.1.trans' h2))
      clear h1 h2 c6
      go_wp2_with fail
      go_ret
      exact ⟨rfl, H7.out.1, (HS.out.2.1.of_nil).trans' H7.out.2⟩
end Go.Proofs.Ytccllkgaakmdhaa
