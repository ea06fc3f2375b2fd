/- seg.Diff of two segments of one size. -/
import Derived.Test.YtccllkgaakmdhaaSegNew
import Derived.Test.YtccllkgaakmdhaaRows2
namespace Go.Proofs.Ytccllkgaakmdhaa
open Go.RowKit

/-- the offset of word k -/
def offU (k : Nat) : UInt64 := UInt64.ofNat (8 * k)
/-- the offsets of the first k words that are unlike -/
def diffTo (ws vs : List UInt64) (k : Nat) : List UInt64 := ((List.range k).filter (fun i => ws[i]?.getD 0 != vs[i]?.getD 0)).map (fun i => offU i)
def diffL (ws vs : List UInt64) : List UInt64 := diffTo ws vs ws.length
theorem diffTo_len (ws vs : List UInt64) (k : Nat) : (diffTo ws vs k).length ≤ k := by
  unfold diffTo; rw [List.length_map]; exact Nat.le_trans (List.length_filter_le _ _) (by simp)
theorem diffTo_same {ws vs : List UInt64} {k : Nat} (h : ws[k]?.getD 0 = vs[k]?.getD 0) : diffTo ws vs (k + 1) = diffTo ws vs k := by
  simp [diffTo, List.range_succ, List.filter_append, h]
theorem diffTo_unlike {ws vs : List UInt64} {k : Nat} (h : ws[k]?.getD 0 ≠ vs[k]?.getD 0) : diffTo ws vs (k + 1) = diffTo ws vs k ++ [offU k] := by
  simp [diffTo, List.range_succ, List.filter_append, h]

theorem off_ofNat {k : Nat} (h : k ≤ 131072) : (offU k).toNat = 8 * k := by
  simp [offU]; omega

theorem Load_at {w : World} {p q : Nat} {ws : List UInt64} (h : SegAt w p q ws) (k : Nat) (hk : k < ws.length) (x : Int) (hx : x = ((8 * k : Nat) : Int)) :
    Calls Try.prog 86 #[.pointer (some ⟨p, 0, none⟩), .int .u64 x] w fun e w' =>
      e = .returned (.tuple #[.int .u64 ↑(ws[k]?.getD 0).toNat, .int .i64 0]) ∧ Keeps Nil w w' := by
  have hl := h.2.1
  have e : (offU k).toNat = 8 * k := off_ofNat (by omega)
  refine (Load_any h (offU k) x (by rw [hx, e])).mono ?_
  rintro _ w' ⟨rfl, hK⟩
  have hin : inB ws (offU k) = true := by simp only [inB, e]; simp; omega
  have e2 : 8 * k / 8 = k := by omega
  exact ⟨by simp only [loadV, errV, hin, e, e2, if_true], hK⟩

set_option maxRecDepth 100000 in
set_option maxHeartbeats 2000000 in
theorem Diff_any {w : World} {p q p' q' : Nat} {ws vs : List UInt64} (h : SegAt w p q ws) (h' : SegAt w p' q' vs) (hl : ws.length = vs.length) :
    Calls Try.prog 44 #[.pointer (some ⟨p, 0, none⟩), .pointer (some ⟨p', 0, none⟩)] w fun e w' =>
      ∃ v, e = .returned v ∧ Own kU w' w.heap.size v (diffL ws vs) ∧ Keeps Nil w w' := by
  have hlen : ws.length ≤ 131072 := h.2.1
  obtain ⟨N, hN⟩ : ∃ N, N = ws.length := ⟨_, rfl⟩
  rw [← hN] at hlen
  have HN := Lib.hid (And.intro hN (hN.trans hl))
  clear hl hN
  go_enter Try.func44, Try.ntmps44
  go_wp2_with fail
  go_loopw [5, 6] (fun v o wr => ∃ k : Nat, k ≤ N ∧ o = .int .u64 ((8 * k : Nat) : Int) ∧ Own kU wr w.heap.size v (diffTo ws vs k) ∧ Keeps Nil w wr) (fun _ o _ => 8 * N - (intOf o).toNat)
  case atStart => exact ⟨0, by omega, rfl, Own.nil _ _ _, Keeps.refl _ _⟩
  case round =>
    obtain ⟨k, hk, rfl, hown, hK⟩ := hrel
    have hs := h.keeps hK (fun e => e) (fun e => e)
    have hs' := h'.keeps hK (fun e => e) (fun e => e)
    have e1 : ((8 * ws.length : Nat) : Int) = 8 * N := by have := HN.out.1; omega
    have e2 : ((8 * vs.length : Nat) : Int) = 8 * N := by have := HN.out.2; omega
    have S1 := Lib.hid (Size_some hs)
    have S2 := Lib.hid (Size_some hs')
    rw [e1] at S1
    rw [e2] at S2
    clear e1 e2
    by_cases hlt : k < N
    · go_wp2_with fail
      refine S1.out.mono ?_
      rintro e w1 ⟨rfl, rfl⟩
      go_wp2_with fail
      refine S2.out.mono ?_
      rintro e w1 ⟨rfl, rfl⟩
      go_wp2_with fail
      refine (Load_at hs k (by have := HN.out.1; omega) _ (by simp)).mono ?_
      rintro e w1 ⟨rfl, hK1⟩
      go_wp2_with fail
      refine (Load_at (hs'.keeps hK1 (fun e => e) (fun e => e)) k (by have := HN.out.2; omega) _ (by simp)).mono ?_
      rintro e w2 ⟨rfl, hK2⟩
      have hK' := hK.trans' (hK1.trans' hK2)
      have hown2 := hown.keeps_nil (hK1.trans' hK2)
      have hbase := hK'.size
      have hdl := diffTo_len ws vs k
      by_cases hd : ws[k]?.getD 0 = vs[k]?.getD 0
      · have hb : (((ws[k]?.getD 0).toNat : Int) != ((vs[k]?.getD 0).toNat : Int)) = false := by rw [hd]; simp
        have HD := Lib.hid hd
        clear hd
        go_wp2_with fail
        go_roundw
        case rel => exact ⟨k + 1, by omega, by go_num, by rw [diffTo_same HD.out]; exact hown2, hK'⟩
        case measure => simp [intOf]; omega
      · have hb : (((ws[k]?.getD 0).toNat : Int) != ((vs[k]?.getD 0).toNat : Int)) = true := by
          rw [bne_iff_ne]; intro e; exact hd (UInt64.toNat_inj.1 (by omega))
        have HD := Lib.hid hd
        clear hd
        go_wp2_with (at_builtin; refine wpList_append_u64 rfl _ _ rfl _ rfl hown2 rfl (offU k) _ (by rw [off_ofNat (by omega)]; simp) rfl (by omega) hbase ?_; rintro _ w3 hown3 hK3 ⟨g, cap, rfl, hg⟩)
        have hfin := hK'.trans hK3 (fun i hi hs => by have := (hown2.block hs).1; omega)
        go_roundw
        case rel => exact ⟨k + 1, by omega, by go_num, by rw [diffTo_unlike HD.out]; exact hown3, hfin⟩
        case measure => simp [intOf]; omega
    · go_wp2_with fail
      refine S1.out.mono ?_
      rintro e w1 ⟨rfl, rfl⟩
      go_wp2_with fail
      refine S2.out.mono ?_
      rintro e w1 ⟨rfl, rfl⟩
      go_wp2_with fail
      go_ret
      have hkN : k = ws.length := by have := HN.out.1; omega
      subst hkN
      exact ⟨_, rfl, hown, hK⟩

end Go.Proofs.Ytccllkgaakmdhaa
