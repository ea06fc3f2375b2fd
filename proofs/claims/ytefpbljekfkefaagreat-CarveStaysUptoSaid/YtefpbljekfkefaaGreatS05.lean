/- HeadF, Ref4, HeadC, Ref4C, HFmt, HFormed, TagP, TagMay: written short. -/
import Derived.Test.YtefpbljekfkefaaGreatS04
import Derived.Test.YtefpbljekfkefaaGreatS01
set_option maxRecDepth 100000
set_option maxHeartbeats 8000000
namespace Go.Proofs.YtefpbljekfkefaaGreat
section
open Go.RowKit
def zeroTo (ws : List UInt64) (k : Nat) : List UInt64 := List.replicate k 0 ++ ws.drop k
theorem zeroTo_zero (ws : List UInt64) : zeroTo ws 0 = ws := by simp [zeroTo]
theorem zeroTo_all (ws : List UInt64) : zeroTo ws ws.length = List.replicate ws.length 0 := by simp [zeroTo]
theorem zeroTo_length {ws : List UInt64} {k : Nat} (h : k ≤ ws.length) : (zeroTo ws k).length = ws.length := by simp [zeroTo]; omega
theorem zeroTo_step {ws : List UInt64} {k : Nat} (hs : ws.length ≤ 131072) (h : k < ws.length) : putW (zeroTo ws k) (offU k) 0 = zeroTo ws (k + 1) := by
 have ho := off_ofNat (k := k) (by omega)
 have hl := zeroTo_length (ws := ws) (k := k) (by omega)
 have hin : inB (zeroTo ws k) (offU k) = true := by rw [inB_iff, ho, hl]; omega
 unfold putW
 rw [if_pos hin, ho, show 8 * k / 8 = k by omega]
 refine List.ext_getElem? (fun i => ?_)
 unfold zeroTo
 by_cases e : i = k
 ·subst e
  rw [List.getElem?_set_self (by simp; omega), List.getElem?_append_left (by simp)]
  simp
 ·rw [List.getElem?_set_ne (by omega)]
  by_cases e2 : i < k
  ·rw [List.getElem?_append_left (by simpa using e2), List.getElem?_append_left (by simp; omega)]
   simp [List.getElem?_replicate, e2]; omega
  ·rw [List.getElem?_append_right (by simp; omega), List.getElem?_append_right (by simp; omega)]
   simp only [List.length_replicate, List.getElem?_drop]
   congr 1
   omega
def fmtW (n : Nat) (size : UInt64) : List UInt64 :=
  putW (putW (putW (putW (putW (putW (putW (List.replicate n 0) 0 magicU) 8 1) 16 size) 32 3776) 40 (sumU size)) 3776 (size - 3776)) (size - 8) (size - 3776)
theorem putW_len (ws : List UInt64) (off v : UInt64) : (putW ws off v).length = ws.length := by unfold putW; split <;> simp
theorem fmtW_length (n : Nat) (size : UInt64) : (fmtW n size).length = n := by simp [fmtW, putW_len]
theorem Format1_any {w : World} {p q b : Nat} {ws : List UInt64} (h : SegAt w p q ws) (hb : w.cell? ⟨b, 0, none⟩ = some (.pointer (some ⟨p, 0, none⟩))) (off v : UInt64) (x y : Int) (hx : x = (off.toNat : Int)) (hy : y = (v.toNat : Int)) :
  Calls Tryz.prog 174 #[.int .u64 x, .int .u64 y, .pointer (some ⟨b, 0, none⟩)] w fun e w' => e = .returned (.tuple #[]) ∧ SegAt w' p q (putW ws off v) ∧ Keeps (fun k => k = q) w w' := by
 subst hx hy
 go_enter Tryz.func174, Tryz.ntmps174
 go_wp2_with fail
 refine (Store_any h off v _ _ rfl rfl).mono ?_
 rintro e w' ⟨rfl, h1, h2⟩
 go_wp2_with fail
 refine bodyPost_end (results_none rfl _ _ _) rfl ?_
 exact ⟨rfl, h1, h2⟩
theorem Format_no {w : World} {p q : Nat} {ws : List UInt64} (h : SegAt w p q ws) (size : UInt64) (x : Int) (hx : x = (size.toNat : Int)) (hf : fitsN size (8 * ws.length) = false) :
  Calls Tryz.prog 128 #[.pointer (some ⟨p, 0, none⟩), .int .u64 x] w fun e w' => e = .returned (.int .i64 2) ∧ Keeps Nil w w' := by
 subst hx
 have HF := qH hf
 clear hf
 have hs := h.keeps ((Keeps.refl Nil w).alloc (.cells #[.pointer (some ⟨p, 0, none⟩)] 130)) (fun e => e) (fun e => e)
 have HS := qH (Size_some hs)
 clear hs
 go_enter Tryz.func128, Tryz.ntmps128
 go_wp2_with fail
 refine HS.out.mono ?_
 rintro e w' ⟨rfl, rfl⟩
 go_wp2_with fail
 refine (fits_any _ size (8 * ws.length) _ _ rfl (by simp)).mono ?_
 rintro e w' ⟨rfl, rfl⟩
 rw [HF.out]
 go_wp2_with fail
 go_ret
 exact ⟨rfl, (Keeps.refl Nil w).alloc _⟩
theorem Format_yes {w : World} {p q : Nat} {ws : List UInt64} (h : SegAt w p q ws) (size : UInt64) (x : Int) (hx : x = (size.toNat : Int)) (hf : fitsN size (8 * ws.length) = true) :
  Calls Tryz.prog 128 #[.pointer (some ⟨p, 0, none⟩), .int .u64 x] w fun e w' => e = .returned (.int .i64 0) ∧ SegAt w' p q (fmtW ws.length size) ∧ Keeps (fun k => k = q) w w' := by
 subst hx
 have HF := qH hf
 clear hf
 have hsz : ws.length ≤ 131072 := h.2.1
 have hpl := h.lt.1
 have hql := h.lt.2
 obtain ⟨W, hW⟩ : ∃ W : World, W = w.alloc (.cells #[.pointer (some ⟨p, 0, none⟩)] 130) := ⟨_, rfl⟩
 have hWk : Keeps Nil w W := by rw [hW]; exact (Keeps.refl Nil w).alloc _
 have hWc : W.heap[w.heap.size]? = some (.cells #[.pointer (some ⟨p, 0, none⟩)] 130 (0, 0)) := by rw [hW]; exact heap_new _ _
 have hs := h.keeps hWk (fun e => e) (fun e => e)
 have HS := qH (And.intro hs (And.intro hWk hWc))
 have HW := qH hW
 have hm := u64_sub size 3776
 have hm2 := u64_sub size 8
 have hm' : IntKind.u64.wrap ((size.toNat : Int) - 3776) = ((size - 3776).toNat : Int) := hm
 have hm2' : IntKind.u64.wrap ((size.toNat : Int) - 8) = ((size - 8).toNat : Int) := hm2
 clear hs hWk hWc hm hm2 h hW
 go_enter Tryz.func128, Tryz.ntmps128
 go_wp2_with fail
 rw [← HW.out]
 refine (Size_some HS.out.1).mono ?_
 rintro e w' ⟨rfl, rfl⟩
 go_wp2_with fail
 refine (fits_any _ size (8 * ws.length) _ _ rfl (by simp)).mono ?_
 rintro e w' ⟨rfl, rfl⟩
 rw [HF.out]
 go_wp2_with fail
 go_loopw [5] (fun o wr => ∃ k : Nat, k ≤ ws.length ∧ o = .int .u64 ((8 * k : Nat) : Int) ∧ wr.cell? ⟨w.heap.size, 0, none⟩ = some (.pointer (some ⟨p, 0, none⟩)) ∧ Hid (SegAt wr p q (zeroTo ws k) ∧ Keeps (fun k => k = q) W wr)) (fun o _ => 8 * ws.length - (intOf o).toNat)
 case atStart => exact ⟨0, by omega, rfl, cell_of_one HS.out.2.2, by rw [zeroTo_zero]; exact HS.out.1, Keeps.refl _ _⟩
 case round =>
  obtain ⟨k, hk, rfl, hc, HR⟩ := hrel
  have hzl := qH (zeroTo_length hk)
  have HSz := qH (Size_some HR.out.1)
  by_cases hlt : k < ws.length
  ·have HO := qH (off_ofNat (k := k) (by omega))
   go_wp2_with fail
   refine HSz.out.mono ?_
   rintro e w' ⟨rfl, rfl⟩
   rw [hzl.out]
   go_wp2_with fail
   refine (Store_any HR.out.1 (offU k) 0 _ _ (by rw [HO.out]; simp) (by rfl)).mono ?_
   rintro e w1 ⟨rfl, h1, h2⟩
   rw [zeroTo_step hsz hlt] at h1
   have hc1 := (h2.cell (b := w.heap.size) (World.block_lt_of_cell? _ _ hc) (by omega) 0).trans hc
   have HR1 := qH (And.intro h1 (HR.out.2.trans' h2))
   clear h1 h2
   go_wp2_with fail
   go_roundw
   case rel => exact ⟨k + 1, by omega, by go_num, hc1, HR1.out⟩
   case measure => simp [intOf]; omega
  ·have hke : k = ws.length := by omega
   subst hke
   obtain ⟨h1, h2⟩ := HR.out
   rw [zeroTo_all] at h1
   have hB : w.heap.size < wr.heap.size := World.block_lt_of_cell? _ _ hc
   have hne : w.heap.size ≠ q := by omega
   have HA := qH (And.intro h1 h2)
   clear h1 h2
   go_wp2_with fail
   refine HSz.out.mono ?_
   rintro e w' ⟨rfl, rfl⟩
   rw [hzl.out]
   go_wp2_with fail
   refine (Format1_any HA.out.1 hc 0 magicU _ _ (by rfl) (by rfl)).mono ?_
   rintro e w1 ⟨rfl, h1, h2⟩
   have c1 := (h2.cell hB hne 0).trans hc
   have H1 := qH (And.intro h1 (And.intro (HA.out.2.trans' h2) h2.size))
   clear h1 h2 hc
   go_wp2_with fail
   refine (Format1_any H1.out.1 c1 8 1 _ _ (by rfl) (by rfl)).mono ?_
   rintro e w2 ⟨rfl, h1, h2⟩
   have c2 := (h2.cell (Nat.lt_of_lt_of_le hB H1.out.2.2) hne 0).trans c1
   have H2 := qH (And.intro h1 (And.intro (H1.out.2.1.trans' h2) (Nat.le_trans H1.out.2.2 h2.size)))
   clear h1 h2 c1
   go_wp2_with fail
   refine (Format1_any H2.out.1 c2 16 size _ _ (by rfl) (by rfl)).mono ?_
   rintro e w3 ⟨rfl, h1, h2⟩
   have c3 := (h2.cell (Nat.lt_of_lt_of_le hB H2.out.2.2) hne 0).trans c2
   have H3 := qH (And.intro h1 (And.intro (H2.out.2.1.trans' h2) (Nat.le_trans H2.out.2.2 h2.size)))
   clear h1 h2 c2
   go_wp2_with fail
   refine (Format1_any H3.out.1 c3 32 3776 _ _ (by rfl) (by rfl)).mono ?_
   rintro e w4 ⟨rfl, h1, h2⟩
   have c4 := (h2.cell (Nat.lt_of_lt_of_le hB H3.out.2.2) hne 0).trans c3
   have H4 := qH (And.intro h1 (And.intro (H3.out.2.1.trans' h2) (Nat.le_trans H3.out.2.2 h2.size)))
   clear h1 h2 c3
   go_wp2_with fail
   refine (Sum_any _ size _ rfl).mono ?_
   rintro e w' ⟨rfl, rfl⟩
   go_wp2_with fail
   refine (Format1_any H4.out.1 c4 40 (sumU size) _ _ (by rfl) (by rfl)).mono ?_
   rintro e w5 ⟨rfl, h1, h2⟩
   have c5 := (h2.cell (Nat.lt_of_lt_of_le hB H4.out.2.2) hne 0).trans c4
   have H5 := qH (And.intro h1 (And.intro (H4.out.2.1.trans' h2) (Nat.le_trans H4.out.2.2 h2.size)))
   clear h1 h2 c4
   go_wp2_with fail
   refine (Format1_any H5.out.1 c5 3776 (size - 3776) _ _ (by rfl) (by rfl)).mono ?_
   rintro e w6 ⟨rfl, h1, h2⟩
   have c6 := (h2.cell (Nat.lt_of_lt_of_le hB H5.out.2.2) hne 0).trans c5
   have H6 := qH (And.intro h1 (And.intro (H5.out.2.1.trans' h2) (Nat.le_trans H5.out.2.2 h2.size)))
   clear h1 h2 c5
   go_wp2_with fail
   refine (Format1_any H6.out.1 c6 (size - 8) (size - 3776) _ _ (by rfl) (by rfl)).mono ?_
   rintro e w7 ⟨rfl, h1, h2⟩
   have H7 := qH (And.intro h1 (H6.out.2.1.trans' h2))
   clear h1 h2 c6
   go_wp2_with fail
   go_ret
   exact ⟨rfl, H7.out.1, (HS.out.2.1.of_nil).trans' H7.out.2⟩
def fmtR (n : Nat) (size : UInt64) : List UInt64 :=
  (((((((List.replicate n 0).set 0 magicU).set 1 1).set 2 size).set 4 3776).set 5 (sumU size)).set 472 (size - 3776)).set (size.toNat / 8 - 1) (size - 3776)
theorem fits_spec {a : UInt64} {n : Nat} (h : fitsN a n = true) : a.toNat % 16 = 0 ∧ 3824 ≤ a.toNat ∧ a.toNat ≤ n := of_decide_eq_true h
theorem putW_set {ws : List UInt64} {off v : UInt64} {i : Nat} (ho : off.toNat = 8 * i) (hi : i < ws.length) : putW ws off v = ws.set i v := by
 have hin : inB ws off = true := by rw [inB_iff, ho]; omega
 unfold putW
 rw [if_pos hin, ho, show 8 * i / 8 = i by omega]
theorem fmt_same {n : Nat} {size : UInt64} (h : fitsN size (8 * n) = true) : fmtW n size = fmtR n size := by
 obtain ⟨h1, h2, h3⟩ := fits_spec h
 have hn : 478 ≤ n := by omega
 have hs : (size - 8).toNat = 8 * (size.toNat / 8 - 1) := by
  have : (8 : UInt64) ≤ size := by rw [UInt64.le_iff_toNat_le]; simp; omega
  rw [UInt64.toNat_sub_of_le _ _ this]; simp; omega
 unfold fmtW fmtR
 rw [putW_set (off := 0) (i := 0) (by decide) (by simp; omega), putW_set (off := 8) (i := 1) (by decide) (by simp; omega), putW_set (off := 16) (i := 2) (by decide) (by simp; omega), putW_set (off := 32) (i := 4) (by decide) (by simp; omega),
  putW_set (off := 40) (i := 5) (by decide) (by simp; omega), putW_set (off := 3776) (i := 472) (by decide) (by simp; omega), putW_set (off := size - 8) (i := size.toNat / 8 - 1) hs (by simp; omega)]
theorem Own.setU' {w : World} {base g cap n : Nat} {l : List UInt64} (h : Own kU w base (.slice (some ⟨g, 0, none⟩) n cap) l) (hn : l.length = n) (i : Nat) (x : UInt64) (y : Int) (hy : y = (x.toNat : Int)) (hi : i < n) :
  Own kU (w.setCell ⟨g, i, none⟩ (.int .u64 y)) base (.slice (some ⟨g, 0, none⟩) n cap) (l.set i x) := by
 subst hn hy
 exact h.setU i x hi
theorem Own.cellU' {w : World} {base g cap n : Nat} {l : List UInt64} (h : Own kU w base (.slice (some ⟨g, 0, none⟩) n cap) l) (hn : l.length = n) (i : Nat) (hi : i < n) :
  (∃ v, w.cell? ⟨g, i, none⟩ = some v) ∧ w.frozen? ⟨g, i, none⟩ = false := by
 subst hn
 exact ⟨⟨_, (h.cellU i hi).1⟩, (h.cellU i hi).2⟩
theorem rFormat_odd (w : World) (all size : UInt64) (h : mayB all = true) (hf : fitsN size all.toNat = false) (x y : Int) (hx : x = (all.toNat : Int)) (hy : y = (size.toNat : Int)) :
  Calls Tryz.prog 129 #[.int .u64 x, .int .u64 y] w fun e w' => ∃ v, e = .returned (.tuple #[v, .int .i64 2]) ∧ Own kU w' w.heap.size v (List.replicate (all.toNat / 8) 0) ∧ Keeps Nil w w' := by
 have RM := qH (rNew_yes w all h x hx)
 have hpos : 0 < all.toNat / 8 := by simp [mayB] at h; omega
 have HF := qH hf
 obtain ⟨n, hn⟩ : ∃ n, n = all.toNat / 8 := ⟨_, rfl⟩
 rw [← hn] at hpos
 have HN := qH hn
 have HX := qH hx
 have HY := qH hy
 clear h hx hf hn hy
 go_enter Tryz.func129, Tryz.ntmps129
 go_wp2_with fail
 refine RM.out.mono ?_
 rintro e w1 ⟨rfl, ho, hk⟩
 rw [← HN.out] at ho ⊢
 go_wp2_with fail
 refine (rFits_any _ size all.toNat _ _ HY.out HX.out).mono ?_
 rintro e w' ⟨rfl, rfl⟩
 rw [HF.out]
 go_wp2_with fail
 go_ret2
 exact ⟨_, rfl, by rw [← HN.out]; exact ho, hk⟩
theorem rFormat_yes (w : World) (all size : UInt64) (h : mayB all = true) (hf : fitsN size all.toNat = true) (x y : Int) (hx : x = (all.toNat : Int)) (hy : y = (size.toNat : Int)) :
  Calls Tryz.prog 129 #[.int .u64 x, .int .u64 y] w fun e w' => ∃ v, e = .returned (.tuple #[v, .int .i64 0]) ∧ Own kU w' w.heap.size v (fmtR (all.toNat / 8) size) ∧ Keeps Nil w w' := by
 have RM := qH (rNew_yes w all h x hx)
 obtain ⟨g1, g2, g3⟩ := fits_spec hf
 obtain ⟨n, hn⟩ : ∃ n, n = all.toNat / 8 := ⟨_, rfl⟩
 have hall := all.toNat_lt
 have hn9 : n ≤ 9223372036854775807 := by omega
 have hpos : 478 ≤ n := by omega
 obtain ⟨m, hm⟩ : ∃ m, m = size.toNat / 8 - 1 := ⟨_, rfl⟩
 have hmn : m < n := by omega
 have hm1 : 472 < m := by omega
 have e1 : IntKind.u64.wrap ((size.toNat : Int) / 8) = (m : Int) + 1 := by rw [IntWalk.u64_in _ (by omega)]; omega
 have e2 : IntKind.u64.wrap ((m : Int) + 1 - 1) = (m : Int) := by rw [IntWalk.u64_in _ (by omega)]; omega
 have e3 : IntKind.u64.wrap ((size.toNat : Int) - 3776) = ((size - 3776).toNat : Int) := u64_sub size 3776
 have HF := qH hf
 have HN := qH hn
 have HM := qH hm
 have HX := qH hx
 subst hy
 clear h hx hf hn g1 g2 g3 hall hm
 go_enter Tryz.func129, Tryz.ntmps129
 go_wp2_with fail
 refine RM.out.mono ?_
 rintro e w1 ⟨rfl, ho, hk⟩
 rw [← HN.out] at ho ⊢
 have hl : (List.replicate n (0 : UInt64)).length = n := by simp
 have HO := qH (And.intro ho hk)
 obtain ⟨⟨v0, c0⟩, f0⟩ := ho.cellU' hl 0 (by omega)
 obtain ⟨⟨v1, c1⟩, f1⟩ := ho.cellU' hl 1 (by omega)
 obtain ⟨⟨v2, c2⟩, f2⟩ := ho.cellU' hl 2 (by omega)
 obtain ⟨⟨v4, c4⟩, f4⟩ := ho.cellU' hl 4 (by omega)
 obtain ⟨⟨v5, c5⟩, f5⟩ := ho.cellU' hl 5 (by omega)
 obtain ⟨⟨v6, c6⟩, f6⟩ := ho.cellU' hl 472 (by omega)
 obtain ⟨⟨v7, c7⟩, f7⟩ := ho.cellU' hl m (by omega)
 clear ho hk hl
 go_wp2_with fail
 refine (rFits_any _ size all.toNat _ _ rfl HX.out).mono ?_
 rintro e w' ⟨rfl, rfl⟩
 rw [HF.out]
 go_wp2_with fail
 refine (rSum_any _ size _ rfl).mono ?_
 rintro e w' ⟨rfl, rfl⟩
 go_wp2_with fail
 go_ret2
 obtain ⟨ho, hk⟩ := HO.out
 refine ⟨_, rfl, ?_, ?_⟩
 ·rw [← HN.out]
  unfold fmtR
  rw [← HM.out]
  have o0 := Own.setU' ho (by simp) 0 magicU 7161130718081542961 (by decide) (by omega)
  have o1 := Own.setU' o0 (by simp) 1 1 1 (by decide) (by omega)
  have o2 := Own.setU' o1 (by simp) 2 size _ rfl (by omega)
  have o4 := Own.setU' o2 (by simp) 4 3776 3776 (by decide) (by omega)
  have o5 := Own.setU' o4 (by simp) 5 (sumU size) _ rfl (by omega)
  have o6 := Own.setU' o5 (by simp) 472 (size - 3776) _ rfl (by omega)
  exact Own.setU' o6 (by simp) m (size - 3776) _ rfl hmn
 ·exact ((((((hk.setNew (a := ⟨w.heap.size, 0, none⟩) (Nat.le_refl _) _).setNew (a := ⟨w.heap.size, 1, none⟩) (Nat.le_refl _) _).setNew (a := ⟨w.heap.size, 2, none⟩) (Nat.le_refl _) _).setNew (a := ⟨w.heap.size, 4, none⟩) (Nat.le_refl _) _).setNew (a := ⟨w.heap.size, 5, none⟩) (Nat.le_refl _) _).setNew (a := ⟨w.heap.size, 472, none⟩) (Nat.le_refl _) _).setNew (a := ⟨w.heap.size, m, none⟩) (Nat.le_refl _) _
def chkB (n : Nat) (f : UInt64 → UInt64) : Bool := f 0 == magicU && f 8 == 1 && f 40 == sumU (f 16) && fitsN (f 16) n
def codeOf (b : Bool) : Int := if b then 0 else 12
def chkE (n : Nat) (f : UInt64 → UInt64) : Int := codeOf (chkB n f)
theorem same_u64 {a b : UInt64} (h : a = b) : ((a.toNat : Int) != (b.toNat : Int)) = false ∧ ((a.toNat : Int) == (b.toNat : Int)) = true := by subst h; simp
theorem unlike_u64 {a b : UInt64} (h : a ≠ b) : ((a.toNat : Int) != (b.toNat : Int)) = true ∧ ((a.toNat : Int) == (b.toNat : Int)) = false := by
 have := ne_u64 h
 simp only [bne, this]; simp
theorem hSize_any {T : Value} {f : UInt64 → UInt64} {n : Nat} {w : World} (h : Reads T f n w) :
  Calls Tryz.prog 42 #[T] w fun e w' => e = .returned (.int .u64 ↑(f 16).toNat) ∧ Keeps Nil w w' := by
 go_enter Tryz.func42, Tryz.ntmps42
 go_wp2_with fail
 refine (h.load w (Keeps.refl _ _) 16 _ (by rfl)).mono ?_
 rintro e w' ⟨rfl, k⟩
 go_wp2_with fail
 go_ret
 exact ⟨rfl, k⟩
theorem hRoot_any {T : Value} {f : UInt64 → UInt64} {n : Nat} {w : World} (h : Reads T f n w) :
  Calls Tryz.prog 54 #[T] w fun e w' => e = .returned (.int .u64 ↑(f 32).toNat) ∧ Keeps Nil w w' := by
 go_enter Tryz.func54, Tryz.ntmps54
 go_wp2_with fail
 refine (h.load w (Keeps.refl _ _) 32 _ (by rfl)).mono ?_
 rintro e w' ⟨rfl, k⟩
 go_wp2_with fail
 go_ret
 exact ⟨rfl, k⟩
section
variable {w0 w : World} {s t : Nat} {l : List Put} {ws : List UInt64} {R : World → (Nat → Prop) → Prop}
end
def wantC (a : UInt64) (k : Nat) : UInt64 × UInt64 := if k = 0 then (0, magicU) else if k = 1 then (8, 1) else (40, sumU a)
theorem chk_all {n : Nat} {f : UInt64 → UInt64} (h : ∀ j, j < 3 → f (wantC (f 16) j).1 = (wantC (f 16) j).2) : chkB n f = fitsN (f 16) n := by
 have h0 := h 0 (by omega)
 have h1 := h 1 (by omega)
 have h2 := h 2 (by omega)
 simp only [wantC] at h0 h1 h2
 simp at h0 h1 h2
 simp [chkB, h0, h1, h2]
theorem chk_not {n : Nat} {f : UInt64 → UInt64} {j : Nat} (hj : j < 3) (h : f (wantC (f 16) j).1 ≠ (wantC (f 16) j).2) : chkB n f = false := by
 obtain rfl | rfl | rfl : j = 0 ∨ j = 1 ∨ j = 2 := by omega
 all_goals simp [wantC] at h; simp [chkB, h]
theorem hCheck_any {T : Value} {f : UInt64 → UInt64} {n : Nat} {w : World} (h : Reads T f n w) :
    Calls Tryz.prog 84 #[T] w fun e w' => e = .returned (.int .i64 (chkE n f)) ∧ Keeps Nil w w' := by
  obtain ⟨a, ha⟩ : ∃ a, a = f 16 := ⟨_, rfl⟩
  have HA := qH ha
  have H := qH h
  clear ha h
  go_enter Tryz.func84, Tryz.ntmps84
  go_wp2_with fail
  refine (H.out.load w (Keeps.refl _ _) 16 _ (by rfl)).mono ?_
  rintro e w1 ⟨rfl, k1⟩
  rw [← HA.out]
  have K1 := qH k1
  clear k1
  go_wp2_with fail
  refine (Sum_any w1 a _ rfl).mono ?_
  rintro e w' ⟨rfl, rfl⟩
  go_wp2_with fail
  have K2 := qH (K1.out.alloc (.cells #[Value.int IntKind.u64 0, Value.int IntKind.u64 7161130718081542961, Value.int IntKind.u64 8, Value.int IntKind.u64 1, Value.int IntKind.u64 40, Value.int IntKind.u64 ↑(sumU a).toNat] 188))
  go_loopw [16] (fun i wr => ∃ k : Nat, k ≤ 3 ∧ i = .int .i64 (k : Int) ∧ Hid (Keeps Nil w wr ∧ ∀ j, j < k → f (wantC a j).1 = (wantC a j).2)) (fun i _ => 3 - (intOf i).toNat)
  case atStart => exact ⟨0, by omega, rfl, K2.out, fun j hj => by omega⟩
  case round =>
    obtain ⟨k, hk, rfl, HR⟩ := hrel
    by_cases hlt : k < 3
    · obtain ⟨c, d, hcd, hi⟩ : ∃ c d, wantC a k = (c, d) ∧ ∀ w, (Instr.index 188 (.agg #[Value.int IntKind.u64 0, Value.int IntKind.u64 7161130718081542961, Value.int IntKind.u64 8, Value.int IntKind.u64 1, Value.int IntKind.u64 40, Value.int IntKind.u64 ↑(sumU a).toNat]) (.int .i64 (k : Int))).run Tryz.prog w = .ok (.agg #[.int .u64 (c.toNat : Int), .int .u64 (d.toNat : Int)]) w := by
        obtain rfl | rfl | rfl : k = 0 ∨ k = 1 ∨ k = 2 := by omega
        · exact ⟨0, magicU, rfl, fun w => by kernel_rfl⟩
        · exact ⟨8, 1, rfl, fun w => by kernel_rfl⟩
        · exact ⟨40, sumU a, rfl, fun w => by kernel_rfl⟩
      have HC := qH hcd
      clear hcd
      obtain ⟨N, hN⟩ : ∃ N, N = wr.heap.size := ⟨_, rfl⟩
      have HN := qH hN
      have HL := fun w' (k : Keeps Nil w w') => H.out.load w' k c _ rfl
      have HL' := qH HL
      clear hN HL
      obtain ⟨wb, hwb⟩ : ∃ wb, wb = wr.alloc (.cells #[Value.int IntKind.u64 (c.toNat : Int), Value.int IntKind.u64 (d.toNat : Int)] 108) := ⟨_, rfl⟩
      have hKb : Keeps Nil wr wb := by rw [hwb]; exact (Keeps.refl Nil _).alloc _
      have hcb : wb.heap[wr.heap.size]? = some (.cells #[Value.int IntKind.u64 (c.toNat : Int), Value.int IntKind.u64 (d.toNat : Int)] 108 (0, 0)) := by rw [hwb]; exact heap_new _ _
      have y0 := row2 hcb
      have y1 : wb.drew.cell? ⟨wr.heap.size, 0, none⟩ = some (.int .u64 (c.toNat : Int)) := y0.1
      have y2 : wb.drew.cell? ⟨wr.heap.size, 1, none⟩ = some (.int .u64 (d.toNat : Int)) := y0.2
      have hlb : wr.heap.size < wb.drew.heap.size := getElem?_lt hcb
      have HW := qH hwb
      have HKb := qH ((HR.out.1.trans' hKb).trans' (keeps_drew _))
      have LB := qH (HL'.out wb.drew HKb.out)
      clear hwb hKb hcb y0
      by_cases heq : f c = d
      · have tst := (same_u64 heq).1
        have HE := qH heq
        clear heq
        go_wp2_with fail
        rw [← HW.out]
        go_region_held3 (fun w' => w'.cell? ⟨wr.heap.size, 0, none⟩ = some (.int .u64 ↑c.toNat) ∧ w'.cell? ⟨wr.heap.size, 1, none⟩ = some (.int .u64 ↑d.toNat))
          (first | exact ⟨y1, y2⟩ | exact ⟨z1, z2⟩ | go_keep)
          ((go_at_call 29; refine LB.out.mono ?_; rintro e w2 ⟨rfl, k2⟩; have z1 := (k2.cell hlb (fun e => e) _).trans y1; have z2 := (k2.cell hlb (fun e => e) _).trans y2))
        have HK2 := qH (HKb.out.trans' k2)
        clear k2 z1 z2 y1 y2
        go_wp2_with fail
        go_roundw
        case rel =>
          refine ⟨k + 1, by omega, by go_num, HK2.out, fun j hj => ?_⟩
          by_cases e : j < k
          · exact HR.out.2 j e
          · obtain rfl : j = k := by omega
            rw [HC.out]; exact HE.out
        case measure => simp [intOf]; omega
      · have tst := (unlike_u64 heq).1
        have HE := qH heq
        clear heq
        go_wp2_with fail
        rw [← HW.out]
        go_region_held3 (fun w' => w'.cell? ⟨wr.heap.size, 0, none⟩ = some (.int .u64 ↑c.toNat) ∧ w'.cell? ⟨wr.heap.size, 1, none⟩ = some (.int .u64 ↑d.toNat))
          (first | exact ⟨y1, y2⟩ | exact ⟨z1, z2⟩ | go_keep)
          ((go_at_call 29; refine LB.out.mono ?_; rintro e w2 ⟨rfl, k2⟩; have z1 := (k2.cell hlb (fun e => e) _).trans y1; have z2 := (k2.cell hlb (fun e => e) _).trans y2))
        have HK2 := qH (HKb.out.trans' k2)
        clear k2 z1 z2 y1 y2
        go_wp2_with fail
        go_ret
        have hn : chkB n f = false := chk_not (j := k) hlt (by rw [← HA.out, HC.out]; exact HE.out)
        exact ⟨by simp [chkE, codeOf, hn], HK2.out⟩
    · obtain rfl : k = 3 := by omega
      have HN : chkB n f = fitsN a n := by
        rw [HA.out]; exact chk_all (fun j hj => by rw [← HA.out]; exact HR.out.2 j hj)
      cases hf : fitsN a n with
      | true =>
        have HF := qH (And.intro hf HN)
        clear hf HN
        go_wp2_with fail
        refine (H.out.size _ HR.out.1).mono ?_
        rintro e w' ⟨rfl, rfl⟩
        go_wp2_with fail
        refine (fits_any _ a n _ _ rfl rfl).mono ?_
        rintro e w' ⟨rfl, rfl⟩
        rw [HF.out.1]
        go_wp2_with fail
        go_ret
        exact ⟨by simp [chkE, codeOf, HF.out.2, HF.out.1], HR.out.1⟩
      | false =>
        have HF := qH (And.intro hf HN)
        clear hf HN
        go_wp2_with fail
        refine (H.out.size _ HR.out.1).mono ?_
        rintro e w' ⟨rfl, rfl⟩
        go_wp2_with fail
        refine (fits_any _ a n _ _ rfl rfl).mono ?_
        rintro e w' ⟨rfl, rfl⟩
        rw [HF.out.1]
        go_wp2_with fail
        go_ret
        exact ⟨by simp [chkE, codeOf, HF.out.2, HF.out.1], HR.out.1⟩
end


section
open Go.RowKit
theorem mayB_4800 : mayB 4800 = true := by decide
theorem txLoad_store {ws : List UInt64} {l : List Put} {off v o : UInt64} (hin : inB ws off = true) : txLoad ws (txStore ws l off v) o = if o = off then v else txLoad ws l o := by
 unfold txLoad txStore
 rw [if_pos hin, loadP_store]
 by_cases e : o = off
 · simp [e]
 · simp [e]
def formW (size : UInt64) : List UInt64 := if fitsN size 4800 then fmtW 600 size else List.replicate 600 0
def formE (size : UInt64) : Int := if fitsN size 4800 then 0 else 2
theorem formW_length (size : UInt64) : (formW size).length = 600 := by
 unfold formW; split
 · exact fmtW_length _ _
 · rw [List.length_replicate]
theorem formW_no {size : UInt64} (h : fitsN size 4800 = false) : formW size = List.replicate 600 0 := if_neg (by rw [h]; decide)
theorem formW_yes {size : UInt64} (h : fitsN size 4800 = true) : formW size = fmtW 600 size := if_pos h
theorem formE_yes {size : UInt64} (h : fitsN size 4800 = true) : formE size = 0 := if_pos h
theorem formE_no {size : UInt64} (h : fitsN size 4800 = false) : formE size = 2 := if_neg (by rw [h]; decide)
theorem Format_form {w : World} {p q : Nat} (h : SegAt w p q (List.replicate 600 0)) (size : UInt64) (x : Int) (hx : x = (size.toNat : Int)) :
  Calls Tryz.prog 128 #[.pointer (some ⟨p, 0, none⟩), .int .u64 x] w fun e w' => e = .returned (.int .i64 (formE size)) ∧ SegAt w' p q (formW size) ∧ Keeps (fun k => k = q) w w' := by
 cases hf : fitsN size 4800 with
 | true => exact (Format_yes h size x hx (by rw [List.length_replicate]; exact hf)).mono fun e w' ⟨h1, h2, h3⟩ => ⟨by rw [h1, formE_yes hf], by rw [List.length_replicate] at h2; rw [formW_yes hf]; exact h2, h3⟩
 | false => exact (Format_no h size x hx (by rw [List.length_replicate]; exact hf)).mono fun e w' ⟨h1, h2⟩ => ⟨by rw [h1, formE_no hf], by rw [formW_no hf]; exact h.keeps h2 (fun e => e) (fun e => e), h2.of_nil⟩
theorem New_4800 (w : World) : Calls Tryz.prog 127 #[.int .u64 4800] w fun e w' => ∃ p q, e = .returned (.pointer (some ⟨p, 0, none⟩)) ∧ SegAt w' p q (List.replicate 600 0) ∧ Keeps Nil w w' ∧ w.heap.size ≤ p ∧ w.heap.size ≤ q := by
 refine (New_yes w 4800 mayB_4800 _ (by rfl)).mono ?_
 rintro e w2 ⟨rfl, hs, k2, hsz⟩
 exact ⟨_, _, rfl, hs, k2, by omega, Nat.le_refl _⟩
structure TagV where
 size : UInt64
 used : Bool
 owner : Int
deriving DecidableEq
def TagV.zero : TagV := ⟨0, false, 0⟩
def TagV.cells (g : TagV) : Array Value := #[.int .u64 (g.size.toNat : Int), .bool g.used, .int .i64 g.owner]
def bitOf (b : Bool) : Nat := if b then 1 else 0
def mayT (g : TagV) : Bool := decide (g.size.toNat % 16 = 0 ∧ 48 ≤ g.size.toNat ∧ g.size.toNat ≤ 1048576 ∧ 0 ≤ g.owner ∧ g.owner ≤ 8 ∧ (g.used = true ∨ g.owner = 0))
theorem may_spec {g : TagV} (h : mayT g = true) : g.size.toNat % 16 = 0 ∧ 48 ≤ g.size.toNat ∧ g.size.toNat ≤ 1048576 ∧ 0 ≤ g.owner ∧ g.owner ≤ 8 ∧ (g.used = true ∨ g.owner = 0) := of_decide_eq_true h
def packN (g : TagV) : Nat := g.size.toNat + g.owner.toNat * 4294967296 + bitOf g.used
def packU (g : TagV) : UInt64 := if mayT g then UInt64.ofNat (packN g) else 0
theorem pack_lt {g : TagV} (h : mayT g = true) : packN g < 18446744073709551616 := by
 obtain ⟨h1, h2, h3, h4, h5, h6⟩ := may_spec h
 unfold packN bitOf
 split <;> omega
theorem pack_toNat {g : TagV} (h : mayT g = true) : (packU g).toNat = packN g := by
 unfold packU
 rw [if_pos h, UInt64.toNat_ofNat']
 exact Nat.mod_eq_of_lt (pack_lt h)
theorem pack_no {g : TagV} (h : mayT g = false) : packU g = 0 := if_neg (by rw [h]; decide)
def candT (w : UInt64) : TagV := ⟨UInt64.ofNat (w.toNat % 4294967296 - w.toNat % 2), decide (w.toNat % 2 = 1), ((w.toNat / 4294967296 : Nat) : Int)⟩
theorem cand_size (w : UInt64) : (candT w).size.toNat = w.toNat % 4294967296 - w.toNat % 2 := by
 unfold candT
 rw [UInt64.toNat_ofNat']
 omega
def isTag (w : UInt64) : Bool := mayT (candT w) && packU (candT w) == w
def unpackT (w : UInt64) : TagV := if isTag w then candT w else TagV.zero
theorem isTag_spec {w : UInt64} (h : isTag w = true) : mayT (candT w) = true ∧ packU (candT w) = w := by simpa [isTag] using h
theorem cand_pack {g : TagV} (h : mayT g = true) : candT (packU g) = g := by
 obtain ⟨h1, h2, h3, h4, h5, h6⟩ := may_spec h
 have hp := pack_toNat h
 have hb : bitOf g.used ≤ 1 := by unfold bitOf; split <;> omega
 have e1 : packN g % 4294967296 = g.size.toNat + bitOf g.used := by unfold packN; omega
 have e2 : packN g % 2 = bitOf g.used := by unfold packN; omega
 have e3 : packN g / 4294967296 = g.owner.toNat := by unfold packN; omega
 obtain ⟨s, u, o⟩ := g
 unfold candT
 rw [hp, e1, e2, e3]
 have a1 : UInt64.ofNat (s.toNat + bitOf u - bitOf u) = s := by rw [Nat.add_sub_cancel]; simp
 have a2 : decide (bitOf u = 1) = u := by cases u <;> rfl
 have a3 : ((Int.toNat o : Nat) : Int) = o := Int.toNat_of_nonneg h4
 simp only [a1, a2, a3]
theorem isTag_pack {g : TagV} (h : mayT g = true) : isTag (packU g) = true := by
 unfold isTag
 rw [cand_pack h, h]
 simp
theorem unpack_pack {g : TagV} (h : mayT g = true) : unpackT (packU g) = g := by
 unfold unpackT
 rw [if_pos (isTag_pack h), cand_pack h]
theorem may_unpack {w : UInt64} (h : isTag w = true) : mayT (unpackT w) = true := by
 unfold unpackT
 rw [if_pos h]
 exact (isTag_spec h).1
theorem unpack_no {w : UInt64} (h : isTag w = false) : unpackT w = TagV.zero := if_neg (by rw [h]; decide)
def inT (stop off size : UInt64) : Bool := decide (off.toNat % 16 = 0 ∧ 3776 ≤ off.toNat ∧ off.toNat < stop.toNat ∧ size.toNat ≤ stop.toNat - off.toNat)
theorem inT_spec {stop off size : UInt64} (h : inT stop off size = true) : off.toNat % 16 = 0 ∧ 3776 ≤ off.toNat ∧ off.toNat < stop.toNat ∧ size.toNat ≤ stop.toNat - off.toNat := of_decide_eq_true h
def readB (f : UInt64 → UInt64) (off : UInt64) : Bool := isTag (f off) && inT (f 16) off (unpackT (f off)).size && f (off + (unpackT (f off)).size - 8) == f off
def readT (f : UInt64 → UInt64) (off : UInt64) : TagV := if readB f off then unpackT (f off) else TagV.zero
def writeB (f : UInt64 → UInt64) (off : UInt64) (g : TagV) : Bool := mayT g && inT (f 16) off g.size
theorem row3 {w : World} {m : Nat} {a b c : Value} {T : TypeId} (h : w.heap[m]? = some (.cells #[a, b, c] T (0, 0))) : w.cell? ⟨m, 0, none⟩ = some a ∧ w.cell? ⟨m, 1, none⟩ = some b ∧ w.cell? ⟨m, 2, none⟩ = some c :=
  ⟨by simp [World.cell?, h], by simp [World.cell?, h], by simp [World.cell?, h]⟩
theorem TagV.cells_def (s : UInt64) (u : Bool) (o : Int) : TagV.cells ⟨s, u, o⟩ = #[.int .u64 (s.toNat : Int), .bool u, .int .i64 o] := rfl
theorem tag_eq (a c : Int) (b d : Bool) (i j : Int) (w : World) : (Op.equalIn 10000 35 (.agg #[.int .u64 a, .bool b, .int .i64 i]) (.agg #[.int .u64 c, .bool d, .int .i64 j])).run Tryz.prog w = .ok ((a == c) && ((b == d) && ((i == j) && true))) w := by
 refine equalIn_fields (d := 9999) Tryz.underlying35 (by kernel_rfl) ?_
 refine eqFields_one (by decide) (a := .int .u64 a) (b := .int .u64 c) (by kernel_rfl) (by kernel_rfl) (equalIn_int (d := 9998) Tryz.underlying25) ?_
 refine eqFields_one (by decide) (a := .bool b) (b := .bool d) (by kernel_rfl) (by kernel_rfl) (equalIn_bool (d := 9998) Tryz.underlying4) ?_
 exact eqFields_one (by decide) (a := .int .i64 i) (b := .int .i64 j) (by kernel_rfl) (by kernel_rfl) (equalIn_int (d := 9998) Tryz.underlying3) eqFields_none
theorem tag_eql (a c : Int) (b d : Bool) (i j : Int) (w : World) : (binOp .eql 35 (.agg #[.int .u64 a, .bool b, .int .i64 i]) (.agg #[.int .u64 c, .bool d, .int .i64 j])).run Tryz.prog w = .ok (.bool ((a == c) && ((b == d) && (i == j)))) w := by
  rw [run_eql_struct, tag_eq]; simp [Result.andThen]
theorem tag_gd : Tryz.prog.eqGuardType Tryz.prog.depth 35 = false := by kernel_rfl
theorem May_any (w : World) (g : TagV) : Calls Tryz.prog 137 #[.agg g.cells] w fun e w' => e = .returned (.bool (mayT g)) ∧ w' = w.alloc (.cells g.cells 35) := by
  obtain ⟨s, u, o⟩ := g
  rw [TagV.cells_def]
  obtain ⟨n, hn⟩ : ∃ n, n = s.toNat := ⟨_, rfl⟩
  have hm : mayT ⟨s, u, o⟩ = decide (n % 16 = 0 ∧ 48 ≤ n ∧ n ≤ 1048576 ∧ 0 ≤ o ∧ o ≤ 8 ∧ (u = true ∨ o = 0)) := by rw [hn]; rfl
  have hlt : n < 18446744073709551616 := by rw [hn]; exact s.toNat_lt
  rw [hm, ← hn]
  clear hm hn
  have e1 : IntKind.u64.wrap ((n : Int) % 16) = (n : Int) % 16 := IntWalk.u64_in _ (by omega)
  have e2 : IntKind.u64.wrap ((n : Int).tmod 16) = (n : Int) % 16 := by rw [Int.tmod_eq_emod_of_nonneg (by omega)]; exact e1
  by_cases h0 : n % 16 = 0
  · have k0 : (n : Int) % 16 = 0 := by omega
    by_cases h1 : 48 ≤ n
    · have k1 : (48 : Int) ≤ (n : Int) := by omega
      by_cases h2 : n ≤ 1048576
      · have k2 : (n : Int) ≤ 1048576 := by omega
        by_cases h3 : 0 ≤ o
        · have k3 : 0 ≤ o := by omega
          by_cases h4 : o ≤ 8
          · have k4 : o ≤ 8 := by omega
            cases u with
            | true =>
              rw [decide_eq_true (by exact ⟨h0, h1, h2, h3, h4, .inl rfl⟩)]
              clear h0 h1 h2 h3 h4
              go_enter Tryz.func137, Tryz.ntmps137
              go_wp2_with fail
              go_ret
              exact ⟨rfl, rfl⟩
            | false =>
              by_cases h5 : o = 0
              · subst h5
                rw [decide_eq_true (by exact ⟨h0, h1, h2, h3, h4, .inr rfl⟩)]
                clear h0 h1 h2
                go_enter Tryz.func137, Tryz.ntmps137
                go_wp2_with fail
                go_ret
                exact ⟨rfl, rfl⟩
              · have k5 : (o == 0) = false := by rw [beq_eq_false_iff_ne]; exact h5
                rw [decide_eq_false (fun h => h.2.2.2.2.2.elim (fun e => by cases e) h5)]
                clear h0 h1 h2 h3 h4 h5
                go_enter Tryz.func137, Tryz.ntmps137
                go_wp2_with fail
                go_ret
                exact ⟨rfl, rfl⟩
          · have k4 : ¬ o ≤ 8 := by omega
            rw [decide_eq_false (fun h => h4 h.2.2.2.2.1)]
            clear h0 h1 h2 h3 h4
            go_enter Tryz.func137, Tryz.ntmps137
            go_wp2_with fail
            go_ret
            exact ⟨rfl, rfl⟩
        · have k3 : ¬ 0 ≤ o := by omega
          rw [decide_eq_false (fun h => h3 h.2.2.2.1)]
          clear h0 h1 h2 h3
          go_enter Tryz.func137, Tryz.ntmps137
          go_wp2_with fail
          go_ret
          exact ⟨rfl, rfl⟩
      · have k2 : ¬ (n : Int) ≤ 1048576 := by omega
        rw [decide_eq_false (fun h => h2 h.2.2.1)]
        clear h0 h1 h2
        go_enter Tryz.func137, Tryz.ntmps137
        go_wp2_with fail
        go_ret
        exact ⟨rfl, rfl⟩
    · have k1 : ¬ (48 : Int) ≤ (n : Int) := by omega
      rw [decide_eq_false (fun h => h1 h.2.1)]
      clear h0 h1
      go_enter Tryz.func137, Tryz.ntmps137
      go_wp2_with fail
      go_ret
      exact ⟨rfl, rfl⟩
  · have k0 : ((n : Int) % 16 == 0) = false := by rw [beq_eq_false_iff_ne]; omega
    rw [decide_eq_false (fun h => h0 h.1)]
    clear h0
    go_enter Tryz.func137, Tryz.ntmps137
    go_wp2_with fail
    go_ret
    exact ⟨rfl, rfl⟩
theorem or_high (n k : Nat) (h : n < 4294967296) : n ||| k * 4294967296 = n + k * 4294967296 := by
 have := Nat.shiftLeft_add_eq_or_of_lt (i := 32) h k
 rw [Nat.shiftLeft_eq] at this
 rw [Nat.or_comm, Nat.add_comm]
 exact this.symm
theorem or_one (n : Nat) (h : n % 2 = 0) : n ||| 1 = n + 1 := by
 have := Nat.shiftLeft_add_eq_or_of_lt (i := 1) (b := 1) (by decide) (n / 2)
 rw [Nat.shiftLeft_eq, show n / 2 * 2 ^ 1 = n by omega] at this
 exact this.symm
theorem Pack_any (w : World) (g : TagV) : Calls Tryz.prog 138 #[.agg g.cells] w fun e w' => e = .returned (.int .u64 ((packU g).toNat : Int)) ∧ Keeps Nil w w' := by
 have HM := qH (fun w => May_any w g)
 have hk : Keeps Nil w ((w.alloc (.cells g.cells 35)).alloc (.cells g.cells 35)) := ((Keeps.refl Nil w).alloc _).alloc _
 have HK := qH hk
 clear hk
 cases hm : mayT g with
 | false =>
   rw [pack_no hm]
   have HMM := qH hm
   clear hm
   obtain ⟨s, u, o⟩ := g
   rw [TagV.cells_def] at HM HK ⊢
   go_enter Tryz.func138, Tryz.ntmps138
   go_wp2_with fail
   refine (HM.out _).mono ?_
   rintro e w' ⟨rfl, rfl⟩
   rw [HMM.out]
   go_wp2_with fail
   go_ret
   exact ⟨rfl, HK.out⟩
 | true =>
   have hp := pack_toNat hm
   obtain ⟨h1, h2, h3, h4, h5, h6⟩ := may_spec hm
   have HMM := qH hm
   clear hm
   obtain ⟨s, u, o⟩ := g
   rw [TagV.cells_def] at HM HK ⊢
   obtain ⟨n, hn⟩ : ∃ n, n = s.toNat := ⟨_, rfl⟩
   obtain ⟨k, rfl⟩ : ∃ k : Nat, o = (k : Int) := ⟨o.toNat, by simp only at h4; omega⟩
   have hp' : ((packU ⟨s, u, k⟩).toNat : Int) = (n : Int) + (k : Int) * 4294967296 + (bitOf u : Int) := by rw [hp, hn]; simp [packN]
   simp only at h1 h2 h3 h5
   rw [← hn] at HM HK h1 h2 h3 ⊢
   have h5' : k ≤ 8 := by omega
   have HP := qH hp'
   clear hp hp' h6 h4 h5 hn
   cases u with
   | true =>
     have e1 : IntKind.u64.wrap (k : Int) = (k : Int) := IntWalk.u64_in _ (by omega)
     have e2 : IntKind.u64.wrap ((k : Int) * 4294967296) = (k : Int) * 4294967296 := IntWalk.u64_in _ (by omega)
     have e3 : bits .or .u64 (n : Int) ((k : Int) * 4294967296) = (n : Int) + (k : Int) * 4294967296 := by
        have := u64_or_nat n (k * 4294967296) (by omega) (by omega)
        rw [or_high n k (by omega)] at this
        simpa using this
     have e4 : bits .or .u64 ((n : Int) + (k : Int) * 4294967296) 1 = (n : Int) + (k : Int) * 4294967296 + 1 := by
        have := u64_or_nat (n + k * 4294967296) 1 (by omega) (by omega)
        rw [or_one _ (by omega)] at this
        simpa using this
     clear h1 h2
     go_enter Tryz.func138, Tryz.ntmps138
     go_wp2_with fail
     refine (HM.out _).mono ?_
     rintro e w' ⟨rfl, rfl⟩
     rw [HMM.out]
     go_wp2_with fail
     go_ret
     exact ⟨by rw [HP.out]; rfl, HK.out⟩
   | false =>
     have e1 : IntKind.u64.wrap (k : Int) = (k : Int) := IntWalk.u64_in _ (by omega)
     have e2 : IntKind.u64.wrap ((k : Int) * 4294967296) = (k : Int) * 4294967296 := IntWalk.u64_in _ (by omega)
     have e3 : bits .or .u64 (n : Int) ((k : Int) * 4294967296) = (n : Int) + (k : Int) * 4294967296 := by
        have := u64_or_nat n (k * 4294967296) (by omega) (by omega)
        rw [or_high n k (by omega)] at this
        simpa using this
     have e4 : bits .or .u64 ((n : Int) + (k : Int) * 4294967296) 1 = (n : Int) + (k : Int) * 4294967296 + 1 := by
        have := u64_or_nat (n + k * 4294967296) 1 (by omega) (by omega)
        rw [or_one _ (by omega)] at this
        simpa using this
     clear h1 h2
     go_enter Tryz.func138, Tryz.ntmps138
     go_wp2_with fail
     refine (HM.out _).mono ?_
     rintro e w' ⟨rfl, rfl⟩
     rw [HMM.out]
     go_wp2_with fail
     go_ret
     exact ⟨by rw [HP.out]; simp [bitOf], HK.out⟩
end
end Go.Proofs.YtefpbljekfkefaaGreat
