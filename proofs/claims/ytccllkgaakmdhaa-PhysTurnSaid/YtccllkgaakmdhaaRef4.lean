/- carrackref04: Format and Check. -/
import Derived.Test.YtccllkgaakmdhaaHeadF
namespace Go.Proofs.Ytccllkgaakmdhaa
open Go.RowKit

def fmtR (n : Nat) (size : UInt64) : List UInt64 :=
  (((((((List.replicate n 0).set 0 magicU).set 1 1).set 2 size).set 4 3776).set 5 (sumU size)).set 472 (size - 3776)).set (size.toNat / 8 - 1) (size - 3776)
theorem fmtR_length (n : Nat) (size : UInt64) : (fmtR n size).length = n := by simp [fmtR]
theorem fits_spec {a : UInt64} {n : Nat} (h : fitsN a n = true) : a.toNat % 16 = 0 ∧ 3824 ≤ a.toNat ∧ a.toNat ≤ n := of_decide_eq_true h
theorem putW_set {ws : List UInt64} {off v : UInt64} {i : Nat} (ho : off.toNat = 8 * i) (hi : i < ws.length) : putW ws off v = ws.set i v := by
  have hin : inB ws off = true := by rw [inB_iff, ho]; omega
  unfold putW
  rw [if_pos hin, ho, show 8 * i / 8 = i by omega]
theorem fmt_same {n : Nat} {size : UInt64} (h : fitsN size (8 * n) = true) : fmtW n size = fmtR n size := by
  obtain ⟨h1, h2, h3⟩ := fits_spec h
  have hn : 478 ≤ n := by omega
  have hs : (size - 8).toNat = 8 * (size.toNat / 8 - 1) := by
    have : (8 : UInt64) ≤ size := by rw [UInt64.le_iff_toNat_le]; simp; omega
    rw [UInt64.toNat_sub_of_le _ _ this]; simp; omega
  unfold fmtW fmtR
  rw [putW_set (off := 0) (i := 0) (by decide) (by simp; omega), putW_set (off := 8) (i := 1) (by decide) (by simp; omega), putW_set (off := 16) (i := 2) (by decide) (by simp; omega), putW_set (off := 32) (i := 4) (by decide) (by simp; omega),
    putW_set (off := 40) (i := 5) (by decide) (by simp; omega), putW_set (off := 3776) (i := 472) (by decide) (by simp; omega), putW_set (off := size - 8) (i := size.toNat / 8 - 1) hs (by simp; omega)]

theorem Own.setU' {w : World} {base g cap n : Nat} {l : List UInt64} (h : Own kU w base (.slice (some ⟨g, 0, none⟩) n cap) l) (hn : l.length = n) (i : Nat) (x : UInt64) (y : Int) (hy : y = (x.toNat : Int)) (hi : i < n) :
    Own kU (w.setCell ⟨g, i, none⟩ (.int .u64 y)) base (.slice (some ⟨g, 0, none⟩) n cap) (l.set i x) := by
  subst hn hy
  exact h.setU i x hi
theorem Own.cellU' {w : World} {base g cap n : Nat} {l : List UInt64} (h : Own kU w base (.slice (some ⟨g, 0, none⟩) n cap) l) (hn : l.length = n) (i : Nat) (hi : i < n) :
    (∃ v, w.cell? ⟨g, i, none⟩ = some v) ∧ w.frozen? ⟨g, i, none⟩ = false := by
  subst hn
  exact ⟨⟨_, (h.cellU i hi).1⟩, (h.cellU i hi).2⟩

theorem rFormat_no (w : World) (all : UInt64) (h : mayB all = false) (x y : Int) (hx : x = (all.toNat : Int)) :
    Calls Try.prog 40 #[.int .u64 x, .int .u64 y] w fun e w' => e = .returned (.tuple #[.slice none 0 0, .int .i64 1]) ∧ w = w' := by
  have RM := Lib.hid (rNew_no w all h x hx)
  clear h hx
  go_enter Try.func40, Try.ntmps40
  go_wp2_with fail
  refine RM.out.mono ?_
  rintro e w' ⟨rfl, rfl⟩
  go_wp2_with fail
  go_ret2
  exact ⟨rfl, rfl⟩

theorem rFormat_odd (w : World) (all size : UInt64) (h : mayB all = true) (hf : fitsN size all.toNat = false) (x y : Int) (hx : x = (all.toNat : Int)) (hy : y = (size.toNat : Int)) :
    Calls Try.prog 40 #[.int .u64 x, .int .u64 y] w fun e w' => ∃ v, e = .returned (.tuple #[v, .int .i64 2]) ∧ Own kU w' w.heap.size v (List.replicate (all.toNat / 8) 0) ∧ Keeps Nil w w' := by
  have RM := Lib.hid (rNew_yes w all h x hx)
  have hpos : 0 < all.toNat / 8 := by simp [mayB] at h; omega
  have HF := Lib.hid hf
  obtain ⟨n, hn⟩ : ∃ n, n = all.toNat / 8 := ⟨_, rfl⟩
  rw [← hn] at hpos
  have HN := Lib.hid hn
  have HX := Lib.hid hx
  have HY := Lib.hid hy
  clear h hx hf hn hy
  go_enter Try.func40, Try.ntmps40
  go_wp2_with fail
  refine RM.out.mono ?_
  rintro e w1 ⟨rfl, ho, hk⟩
  rw [← HN.out] at ho ⊢
  go_wp2_with fail
  refine (rFits_any _ size all.toNat _ _ HY.out HX.out).mono ?_
  rintro e w' ⟨rfl, rfl⟩
  rw [HF.out]
  go_wp2_with fail
  go_ret2
  exact ⟨_, rfl, by rw [← HN.out]; exact ho, hk⟩

set_option maxRecDepth 100000 in
set_option maxHeartbeats 1000000 in
theorem rFormat_yes (w : World) (all size : UInt64) (h : mayB all = true) (hf : fitsN size all.toNat = true) (x y : Int) (hx : x = (all.toNat : Int)) (hy : y = (size.toNat : Int)) :
    Calls Try.prog 40 #[.int .u64 x, .int .u64 y] w fun e w' => ∃ v, e = .returned (.tuple #[v, .int .i64 0]) ∧ Own kU w' w.heap.size v (fmtR (all.toNat / 8) size) ∧ Keeps Nil w w' := by
  have RM := Lib.hid (rNew_yes w all h x hx)
  obtain ⟨g1, g2, g3⟩ := fits_spec hf
  obtain ⟨n, hn⟩ : ∃ n, n = all.toNat / 8 := ⟨_, rfl⟩
  have hall := all.toNat_lt
  have hn9 : n ≤ 9223372036854775807 := by omega
  have hpos : 478 ≤ n := by omega
  obtain ⟨m, hm⟩ : ∃ m, m = size.toNat / 8 - 1 := ⟨_, rfl⟩
  have hmn : m < n := by omega
  have hm1 : 472 < m := by omega
  have e1 : IntKind.u64.wrap ((size.toNat : Int) / 8) = (m : Int) + 1 := by rw [IntWalk.u64_in _ (by omega)]; omega
  have e2 : IntKind.u64.wrap ((m : Int) + 1 - 1) = (m : Int) := by rw [IntWalk.u64_in _ (by omega)]; omega
  have e3 : IntKind.u64.wrap ((size.toNat : Int) - 3776) = ((size - 3776).toNat : Int) := u64_sub size 3776
  have HF := Lib.hid hf
  have HN := Lib.hid hn
  have HM := Lib.hid hm
  have HX := Lib.hid hx
  subst hy
  clear h hx hf hn g1 g2 g3 hall hm
  go_enter Try.func40, Try.ntmps40
  go_wp2_with fail
  refine RM.out.mono ?_
  rintro e w1 ⟨rfl, ho, hk⟩
  rw [← HN.out] at ho ⊢
  have hl : (List.replicate n (0 : UInt64)).length = n := by simp
  have HO := Lib.hid (And.intro ho hk)
  obtain ⟨⟨v0, c0⟩, f0⟩ := ho.cellU' hl 0 (by omega)
  obtain ⟨⟨v1, c1⟩, f1⟩ := ho.cellU' hl 1 (by omega)
  obtain ⟨⟨v2, c2⟩, f2⟩ := ho.cellU' hl 2 (by omega)
  obtain ⟨⟨v4, c4⟩, f4⟩ := ho.cellU' hl 4 (by omega)
  obtain ⟨⟨v5, c5⟩, f5⟩ := ho.cellU' hl 5 (by omega)
  obtain ⟨⟨v6, c6⟩, f6⟩ := ho.cellU' hl 472 (by omega)
  obtain ⟨⟨v7, c7⟩, f7⟩ := ho.cellU' hl m (by omega)
  clear ho hk hl
  go_wp2_with fail
  refine (rFits_any _ size all.toNat _ _ rfl HX.out).mono ?_
  rintro e w' ⟨rfl, rfl⟩
  rw [HF.out]
  go_wp2_with fail
  refine (rSum_any _ size _ rfl).mono ?_
  rintro e w' ⟨rfl, rfl⟩
  go_wp2_with fail
  go_ret2
  obtain ⟨ho, hk⟩ := HO.out
  refine ⟨_, rfl, ?_, ?_⟩
  · rw [← HN.out]
    unfold fmtR
    rw [← HM.out]
    have o0 := Own.setU' ho (by simp) 0 magicU 7161130718081542961 (by decide) (by omega)
    have o1 := Own.setU' o0 (by simp) 1 1 1 (by decide) (by omega)
    have o2 := Own.setU' o1 (by simp) 2 size _ rfl (by omega)
    have o4 := Own.setU' o2 (by simp) 4 3776 3776 (by decide) (by omega)
    have o5 := Own.setU' o4 (by simp) 5 (sumU size) _ rfl (by omega)
    have o6 := Own.setU' o5 (by simp) 472 (size - 3776) _ rfl (by omega)
    exact Own.setU' o6 (by simp) m (size - 3776) _ rfl hmn
  · exact ((((((hk.setNew (a := ⟨w.heap.size, 0, none⟩) (Nat.le_refl _) _).setNew (a := ⟨w.heap.size, 1, none⟩) (Nat.le_refl _) _).setNew (a := ⟨w.heap.size, 2, none⟩) (Nat.le_refl _) _).setNew (a := ⟨w.heap.size, 4, none⟩) (Nat.le_refl _) _).setNew (a := ⟨w.heap.size, 5, none⟩) (Nat.le_refl _) _).setNew (a := ⟨w.heap.size, 472, none⟩) (Nat.le_refl _) _).setNew (a := ⟨w.heap.size, m, none⟩) (Nat.le_refl _) _
end Go.Proofs.Ytccllkgaakmdhaa
