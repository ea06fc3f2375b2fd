/- tag.Unpack, and the document's. -/
import Derived.Test.YtccllkgaakmdhaaTagMay
import Derived.Test.YtccllkgaakmdhaaRReads
import Derived.Test.YtccllkgaakmdhaaHeadC
namespace Go.Proofs.Ytccllkgaakmdhaa
open Go.RowKit

theorem and_even64 (x : Nat) (hx : x < 18446744073709551616) : x &&& 18446744073709551614 = x - x % 2 := by
  apply Nat.eq_of_testBit_eq
  intro i
  rw [Nat.testBit_and]
  cases i with
  | zero =>
    have h : (x - x % 2) % 2 = 0 := by omega
    simp [Nat.testBit_zero, h]
  | succ i =>
    rw [Nat.testBit_succ, Nat.testBit_succ, Nat.testBit_succ, show 18446744073709551614 / 2 = 2 ^ 63 - 1 by decide, show (x - x % 2) / 2 = x / 2 by omega, Nat.testBit_two_pow_sub_one]
    by_cases h : i < 63
    · simp [h]
    · have h1 : x / 2 < 2 ^ 63 := by omega
      have h2 : (x / 2).testBit i = false := Nat.testBit_lt_two_pow (Nat.lt_of_lt_of_le h1 (Nat.pow_le_pow_right (by decide) (by omega)))
      simp [h2]
theorem u64_andNot1 (x : Nat) (hx : x < 18446744073709551616) : bits .andNot .u64 (x : Int) 1 = ((x - x % 2 : Nat) : Int) := by
  have := u64_andNot_nat x 1 hx (by decide)
  rw [show 18446744073709551615 - 1 = 18446744073709551614 by decide, and_even64 x hx] at this
  exact this
theorem u64_and1 (x : Nat) (hx : x < 18446744073709551616) : bits .and .u64 (x : Int) 1 = ((x % 2 : Nat) : Int) := by
  have := u64_and_nat x 1 hx (by decide)
  rw [Nat.and_one_is_mod] at this
  exact this

theorem cand_parts (x : UInt64) : ∃ s u, ∃ D : Nat, candT x = ⟨s, u, (D : Int)⟩ ∧ s.toNat = x.toNat % 4294967296 - x.toNat % 2 ∧ u = decide (x.toNat % 2 = 1) ∧ D = x.toNat / 4294967296 :=
  ⟨_, _, _, rfl, cand_size x, rfl, rfl⟩
theorem candR_parts (x : UInt64) : ∃ s u, ∃ D : Nat, candR x = ⟨s, u, (D : Int)⟩ ∧ s.toNat = x.toNat % 4294967296 - x.toNat % 2 ∧ u = decide (x.toNat % 2 = 1) ∧ D = x.toNat / 4294967296 % 16 :=
  ⟨_, _, _, rfl, cand_size x, rfl, rfl⟩
theorem may_zero : mayT TagV.zero = false := by decide
theorem tag_same {s : UInt64} {u : Bool} {o : Int} : ((s.toNat : Int) == 0 && (u == false && o == 0)) = decide ((⟨s, u, o⟩ : TagV) = TagV.zero) := by
  rw [Bool.eq_iff_iff]
  simp only [Bool.and_eq_true, beq_iff_eq, decide_eq_true_eq, TagV.zero, TagV.mk.injEq]
  constructor
  · rintro ⟨a, b, c⟩
    exact ⟨UInt64.toNat_inj.1 (by simp; omega), b, c⟩
  · rintro ⟨rfl, rfl, rfl⟩
    simp

set_option maxRecDepth 100000 in
set_option maxHeartbeats 1000000 in
theorem Unpack_any (w : World) (x : UInt64) : Calls Try.prog 61 #[.int .u64 (x.toNat : Int)] w fun e w' => e = .returned (.tuple #[.agg (unpackT x).cells, .bool (isTag x)]) ∧ Keeps Nil w w' := by
  obtain ⟨s, u, D, hc, hs, hu, hD⟩ := cand_parts x
  obtain ⟨n, hn⟩ : ∃ n, n = x.toNat := ⟨_, rfl⟩
  have hlt : n < 18446744073709551616 := by rw [hn]; exact x.toNat_lt
  rw [← hn] at hs hu hD ⊢
  obtain ⟨L, hL⟩ : ∃ L, L = n % 4294967296 := ⟨_, rfl⟩
  obtain ⟨B, hB⟩ : ∃ B, B = L % 2 := ⟨_, rfl⟩
  have hL4 : L < 4294967296 := by omega
  have hD4 : D < 4294967296 := by omega
  have e1 : (n : Int) % 4294967296 = (L : Int) := by omega
  have e2 : IntKind.u64.wrap (L : Int) = (L : Int) := IntWalk.u64_in _ (by omega)
  have e3 : bits .andNot .u64 (L : Int) 1 = (s.toNat : Int) := by rw [u64_andNot1 L (by omega)]; omega
  have e4 : bits .and .u64 (L : Int) 1 = (B : Int) := by rw [u64_and1 L (by omega)]; omega
  have e5 : ((B : Int) != 0) = u := by
    rw [hu, Bool.eq_iff_iff]; simp; omega
  have e6 : (n : Int) / 4294967296 = (D : Int) := by omega
  have e7 : IntKind.i64.wrap (D : Int) = (D : Int) := IntWalk.i64_in _ (by omega)
  have hq := tag_eql (s.toNat : Int) 0 u false (D : Int) 0
  rw [tag_same] at hq
  have hgd := tag_gd
  by_cases hz : (⟨s, u, (D : Int)⟩ : TagV) = TagV.zero
  · rw [decide_eq_true hz] at hq
    have hi : isTag x = false := by unfold isTag; rw [hc, hz, may_zero]; rfl
    rw [hi, unpack_no hi]
    clear hs hu hD hL hB hn hi hc hz
    go_enter Try.func61, Try.ntmps61
    go_wp2_with fail
    refine bodyPost_ret (results_row_tmp rfl rfl (heap_old _ _ (heap_new w _)) Try.underlying70 rfl (by kernel_rfl)) rfl ?_
    exact ⟨rfl, ((Keeps.refl Nil w).alloc _).alloc _⟩
  · rw [decide_eq_false hz] at hq
    by_cases hp : packU ⟨s, u, (D : Int)⟩ = x
    · have hm : mayT ⟨s, u, (D : Int)⟩ = true := by
        cases hm : mayT ⟨s, u, (D : Int)⟩ with
        | true => rfl
        | false =>
          exfalso
          rw [pack_no hm] at hp
          apply hz
          have : n = 0 := by rw [hn, ← hp]; rfl
          subst this
          have h1 : s.toNat = 0 := by omega
          have h2 : s = 0 := UInt64.toNat_inj.1 (by simpa using h1)
          rw [h2, hu, hD]; rfl
      have hi : isTag x = true := by unfold isTag; rw [hc, hm, hp]; simp
      have ht : unpackT x = ⟨s, u, (D : Int)⟩ := by unfold unpackT; rw [if_pos hi]; exact hc
      have tst : ((((packU ⟨s, u, (D : Int)⟩).toNat : Nat) : Int) != (n : Int)) = false := by rw [hp, hn]; simp
      rw [hi, ht, TagV.cells_def]
      have HPK := Lib.hid (Pack_any ((w.alloc (.cells #[.int .u64 0, .bool false, .int .i64 0] 70)).alloc (.cells #[.int .u64 (s.toNat : Int), .bool u, .int .i64 (D : Int)] 70)) ⟨s, u, (D : Int)⟩)
      obtain ⟨p, hpp⟩ : ∃ p, p = packU ⟨s, u, (D : Int)⟩ := ⟨_, rfl⟩
      rw [← hpp] at tst HPK
      obtain ⟨w1, hw1⟩ : ∃ w1, w1 = (w.alloc (.cells #[.int .u64 0, .bool false, .int .i64 0] 70)).alloc (.cells #[.int .u64 (s.toNat : Int), .bool u, .int .i64 (D : Int)] 70) := ⟨_, rfl⟩
      have k1 : Keeps Nil w w1 := by rw [hw1]; exact ((Keeps.refl Nil w).alloc _).alloc _
      have b1 : w1.heap[w.heap.size]? = some (.cells #[.int .u64 0, .bool false, .int .i64 0] 70 (0, 0)) := by rw [hw1]; exact heap_old _ _ (heap_new w _)
      have b2 : w1.heap[w.heap.size + 1]? = some (.cells #[.int .u64 (s.toNat : Int), .bool u, .int .i64 (D : Int)] 70 (0, 0)) := by
        rw [hw1]
        have := heap_new (w.alloc (.cells #[.int .u64 0, .bool false, .int .i64 0] 70)) (.cells #[.int .u64 (s.toNat : Int), .bool u, .int .i64 (D : Int)] 70)
        simpa using this
      rw [← hw1] at HPK
      have HW := Lib.hid hw1
      have K1 := Lib.hid (And.intro k1 (And.intro b1 b2))
      clear hs hu hD hL hB hn hi hc hz hp hm ht hpp hw1 k1 b1 b2
      go_enter Try.func61, Try.ntmps61
      go_wp2_with fail
      rw [← HW.out]
      refine HPK.out.mono ?_
      rintro e w2 ⟨rfl, k2⟩
      have b1 := k2.at K1.out.2.1 (fun e => e)
      have b2 := k2.at K1.out.2.2 (fun e => e)
      obtain ⟨c0, c1, c2⟩ := row3 b1
      have f0 := frz b1 0
      have f1 := frz b1 1
      have f2 := frz b1 2
      obtain ⟨d0, d1, d2⟩ := row3 b2
      have K2 := Lib.hid (And.intro (K1.out.1.trans' k2) b1)
      clear k2 b1 b2
      go_wp2_with fail
      refine bodyPost_ret (results_row_tmp rfl rfl (setRow3 K2.out.2) Try.underlying70 rfl (by kernel_rfl)) rfl ?_
      exact ⟨rfl, keepsRow3 K2.out.1 (Nat.le_refl _) _ _ _⟩
    · have hi : isTag x = false := by
        unfold isTag; rw [hc]
        simp [hp]
      rw [hi, unpack_no hi]
      have tst : ((((packU ⟨s, u, (D : Int)⟩).toNat : Nat) : Int) != (n : Int)) = true := by rw [hn]; exact (unlike_u64 hp).1
      have HPK := Lib.hid (Pack_any ((w.alloc (.cells #[.int .u64 0, .bool false, .int .i64 0] 70)).alloc (.cells #[.int .u64 (s.toNat : Int), .bool u, .int .i64 (D : Int)] 70)) ⟨s, u, (D : Int)⟩)
      obtain ⟨p, hpp⟩ : ∃ p, p = packU ⟨s, u, (D : Int)⟩ := ⟨_, rfl⟩
      rw [← hpp] at tst HPK
      obtain ⟨w1, hw1⟩ : ∃ w1, w1 = (w.alloc (.cells #[.int .u64 0, .bool false, .int .i64 0] 70)).alloc (.cells #[.int .u64 (s.toNat : Int), .bool u, .int .i64 (D : Int)] 70) := ⟨_, rfl⟩
      have k1 : Keeps Nil w w1 := by rw [hw1]; exact ((Keeps.refl Nil w).alloc _).alloc _
      have b1 : w1.heap[w.heap.size]? = some (.cells #[.int .u64 0, .bool false, .int .i64 0] 70 (0, 0)) := by rw [hw1]; exact heap_old _ _ (heap_new w _)
      rw [← hw1] at HPK
      have HW := Lib.hid hw1
      have K1 := Lib.hid (And.intro k1 b1)
      clear hs hu hD hL hB hn hi hc hz hp hpp hw1 k1 b1
      go_enter Try.func61, Try.ntmps61
      go_wp2_with fail
      rw [← HW.out]
      refine HPK.out.mono ?_
      rintro e w2 ⟨rfl, k2⟩
      have b1 := k2.at K1.out.2 (fun e => e)
      obtain ⟨c0, c1, c2⟩ := row3 b1
      have f0 := frz b1 0
      have f1 := frz b1 1
      have f2 := frz b1 2
      have K2 := Lib.hid (And.intro (K1.out.1.trans' k2) b1)
      clear k2 b1
      go_wp2_with fail
      refine bodyPost_ret (results_row_tmp rfl rfl (setRow3 K2.out.2) Try.underlying70 rfl (by kernel_rfl)) rfl ?_
      exact ⟨rfl, keepsRow3 K2.out.1 (Nat.le_refl _) _ _ _⟩
end Go.Proofs.Ytccllkgaakmdhaa
