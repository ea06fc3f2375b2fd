/- carrackref05.Unpack. -/
import Derived.Test.YtccllkgaakmdhaaTagU
namespace Go.Proofs.Ytccllkgaakmdhaa
open Go.RowKit

set_option maxRecDepth 100000 in
set_option maxHeartbeats 1000000 in
theorem rUnpack_any (w : World) (x : UInt64) : Calls Try.prog 62 #[.int .u64 (x.toNat : Int)] w fun e w' => e = .returned (.tuple #[.agg (unpackT x).cells, .bool (isTag x)]) ∧ Keeps Nil w w' := by
  obtain ⟨s, u, D, hc, hs, hu, hD⟩ := candR_parts x
  have hR := isTag_R x
  have hU := unpack_R x
  rw [hc] at hR hU
  obtain ⟨n, hn⟩ : ∃ n, n = x.toNat := ⟨_, rfl⟩
  have hlt : n < 18446744073709551616 := by rw [hn]; exact x.toNat_lt
  rw [← hn] at hs hu hD ⊢
  obtain ⟨L, hL⟩ : ∃ L, L = n % 4294967296 := ⟨_, rfl⟩
  obtain ⟨B, hB⟩ : ∃ B, B = L % 2 := ⟨_, rfl⟩
  obtain ⟨C, hC⟩ : ∃ C, C = n / 4294967296 := ⟨_, rfl⟩
  have hL4 : L < 4294967296 := by omega
  have hD4 : D < 4294967296 := by omega
  have hC4 : C < 4294967296 := by omega
  have e1 : (n : Int) % 4294967296 = (L : Int) := by omega
  have e2 : (L : Int) % 2 = (B : Int) := by omega
  have e3 : IntKind.u64.wrap ((L : Int) - (B : Int)) = (s.toNat : Int) := by rw [IntWalk.u64_in _ (by omega)]; omega
  have e5 : ((B : Int) == 1) = u := by
    rw [hu, Bool.eq_iff_iff]; simp; omega
  have e6 : (n : Int) / 4294967296 = (C : Int) := by omega
  have e8 : (C : Int) % 16 = (D : Int) := by omega
  have e7 : IntKind.i64.wrap (D : Int) = (D : Int) := IntWalk.i64_in _ (by omega)
  obtain ⟨p, hpp⟩ : ∃ p, p = packU ⟨s, u, (D : Int)⟩ := ⟨_, rfl⟩
  obtain ⟨w1, hw1⟩ : ∃ w1, w1 = (w.alloc (.cells #[.int .u64 0, .bool false, .int .i64 0] 69)).alloc (.cells #[.int .u64 (s.toNat : Int), .bool u, .int .i64 (D : Int)] 69) := ⟨_, rfl⟩
  have k1 : Keeps Nil w w1 := by rw [hw1]; exact ((Keeps.refl Nil w).alloc _).alloc _
  have b1 : w1.heap[w.heap.size]? = some (.cells #[.int .u64 0, .bool false, .int .i64 0] 69 (0, 0)) := by rw [hw1]; exact heap_old _ _ (heap_new w _)
  have b2 : w1.heap[w.heap.size + 1]? = some (.cells #[.int .u64 (s.toNat : Int), .bool u, .int .i64 (D : Int)] 69 (0, 0)) := by
    rw [hw1]
    have := heap_new (w.alloc (.cells #[.int .u64 0, .bool false, .int .i64 0] 69)) (.cells #[.int .u64 (s.toNat : Int), .bool u, .int .i64 (D : Int)] 69)
    simpa using this
  obtain ⟨w2, hw2⟩ : ∃ w2, w2 = w1.alloc (.cells #[.int .u64 (s.toNat : Int), .bool u, .int .i64 (D : Int)] 69) := ⟨_, rfl⟩
  have k12 : Keeps Nil w1 w2 := by rw [hw2]; exact (Keeps.refl Nil w1).alloc _
  have HM := Lib.hid (rMay5_any w1 ⟨s, u, (D : Int)⟩)
  rw [TagV.cells_def, ← hw2] at HM
  have b12 := k12.at b1 (fun e => e)
  have b22 := k12.at b2 (fun e => e)
  obtain ⟨c0, c1, c2⟩ := row3 b12
  have f0 := frz b12 0
  have f1 := frz b12 1
  have f2 := frz b12 2
  obtain ⟨d0, d1, d2⟩ := row3 b22
  have HW := Lib.hid hw1
  have K2 := Lib.hid (And.intro (k1.trans' k12) (And.intro b12 b22))
  have HR := Lib.hid hR
  have HU := Lib.hid hU
  have HP := Lib.hid hpp
  have HPK := Lib.hid (rPack_any w2 ⟨s, u, (D : Int)⟩)
  rw [TagV.cells_def, ← hpp] at HPK
  have HX := Lib.hid hn
  clear hs hu hD hL hB hC hn hc hR hU hpp hw1 k1 b1 b2 hw2 k12 b12 b22 hL4 hD4 hC4
  cases hm : mayT ⟨s, u, (D : Int)⟩ with
  | false =>
    have HMM := Lib.hid hm
    clear hm
    go_enter Try.func62, Try.ntmps62
    go_wp2_with fail
    rw [← HW.out]
    refine HM.out.mono ?_
    rintro e w' ⟨rfl, rfl⟩
    rw [HMM.out]
    go_wp2_with fail
    have hi : isTag x = false := by rw [← HR.out, HMM.out]; rfl
    refine bodyPost_ret (results_row_tmp rfl rfl (setRow3 K2.out.2.1) Try.underlying69 rfl (by kernel_rfl)) rfl ?_
    exact ⟨by rw [hi, unpack_no hi]; rfl, keepsRow3 K2.out.1 (Nat.le_refl _) _ _ _⟩
  | true =>
    have HMM := Lib.hid hm
    clear hm
    by_cases hp : p = x
    · have tst : ((p.toNat : Int) != (n : Int)) = false := by rw [HX.out]; exact (same_u64 hp).1
      have HE := Lib.hid hp
      clear hp
      go_enter Try.func62, Try.ntmps62
      go_wp2_with fail
      rw [← HW.out]
      refine HM.out.mono ?_
      rintro e w' ⟨rfl, rfl⟩
      rw [HMM.out]
      go_wp2_with fail
      refine HPK.out.mono ?_
      rintro e w3 ⟨rfl, k3⟩
      clear c0 c1 c2 f0 f1 f2 d0 d1 d2
      have b13 := k3.at K2.out.2.1 (fun e => e)
      have b23 := k3.at K2.out.2.2 (fun e => e)
      obtain ⟨c0, c1, c2⟩ := row3 b13
      have f0 := frz b13 0
      have f1 := frz b13 1
      have f2 := frz b13 2
      obtain ⟨d0, d1, d2⟩ := row3 b23
      have K3 := Lib.hid (And.intro (K2.out.1.trans' k3) b13)
      clear k3 b13 b23
      go_wp2_with fail
      have hh : (mayT ⟨s, u, (D : Int)⟩ && packU ⟨s, u, (D : Int)⟩ == x) = true := by rw [HMM.out, ← HP.out, HE.out]; simp
      have hi : isTag x = true := by rw [← HR.out]; exact hh
      refine bodyPost_ret (results_row_tmp rfl rfl (setRow3 K3.out.2) Try.underlying69 rfl (by kernel_rfl)) rfl ?_
      exact ⟨by rw [hi, ← HU.out hh]; rfl, keepsRow3 K3.out.1 (Nat.le_refl _) _ _ _⟩
    · have tst : ((p.toNat : Int) != (n : Int)) = true := by rw [HX.out]; exact (unlike_u64 hp).1
      have HE := Lib.hid hp
      clear hp
      go_enter Try.func62, Try.ntmps62
      go_wp2_with fail
      rw [← HW.out]
      refine HM.out.mono ?_
      rintro e w' ⟨rfl, rfl⟩
      rw [HMM.out]
      go_wp2_with fail
      refine HPK.out.mono ?_
      rintro e w3 ⟨rfl, k3⟩
      clear c0 c1 c2 f0 f1 f2 d0 d1 d2
      have b13 := k3.at K2.out.2.1 (fun e => e)
      obtain ⟨c0, c1, c2⟩ := row3 b13
      have f0 := frz b13 0
      have f1 := frz b13 1
      have f2 := frz b13 2
      have K3 := Lib.hid (And.intro (K2.out.1.trans' k3) b13)
      clear k3 b13
      go_wp2_with fail
      have hi : isTag x = false := by
        rw [← HR.out, HMM.out, ← HP.out]
        simpa using HE.out
      refine bodyPost_ret (results_row_tmp rfl rfl (setRow3 K3.out.2) Try.underlying69 rfl (by kernel_rfl)) rfl ?_
      exact ⟨by rw [hi, unpack_no hi]; rfl, keepsRow3 K3.out.1 (Nat.le_refl _) _ _ _⟩
end Go.Proofs.Ytccllkgaakmdhaa
