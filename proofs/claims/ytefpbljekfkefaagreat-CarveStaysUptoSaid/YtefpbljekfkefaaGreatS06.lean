/- TagU, TagUR, TagIO, TagR, TagRR, TagW, Formed: written short. -/
import Derived.Test.YtefpbljekfkefaaGreatS05
import Derived.Test.YtefpbljekfkefaaGreatS04
import Derived.Test.YtefpbljekfkefaaGreatS01
set_option maxRecDepth 100000
set_option maxHeartbeats 8000000
namespace Go.Proofs.YtefpbljekfkefaaGreat
section
open Go.RowKit
theorem and_even64 (x : Nat) (hx : x < 18446744073709551616) : x &&& 18446744073709551614 = x - x % 2 := by
 apply Nat.eq_of_testBit_eq
 intro i
 rw [Nat.testBit_and]
 cases i with
 | zero =>
   have h : (x - x % 2) % 2 = 0 := by omega
   simp [Nat.testBit_zero, h]
 | succ i =>
   rw [Nat.testBit_succ, Nat.testBit_succ, Nat.testBit_succ, show 18446744073709551614 / 2 = 2 ^ 63 - 1 by decide, show (x - x % 2) / 2 = x / 2 by omega, Nat.testBit_two_pow_sub_one]
   by_cases h : i < 63
   ·simp [h]
   ·have h1 : x / 2 < 2 ^ 63 := by omega
    have h2 : (x / 2).testBit i = false := Nat.testBit_lt_two_pow (Nat.lt_of_lt_of_le h1 (Nat.pow_le_pow_right (by decide) (by omega)))
    simp [h2]
theorem u64_andNot1 (x : Nat) (hx : x < 18446744073709551616) : bits .andNot .u64 (x : Int) 1 = ((x - x % 2 : Nat) : Int) := by
 have := u64_andNot_nat x 1 hx (by decide)
 rw [show 18446744073709551615 - 1 = 18446744073709551614 by decide, and_even64 x hx] at this
 exact this
theorem u64_and1 (x : Nat) (hx : x < 18446744073709551616) : bits .and .u64 (x : Int) 1 = ((x % 2 : Nat) : Int) := by
 have := u64_and_nat x 1 hx (by decide)
 rw [Nat.and_one_is_mod] at this
 exact this
theorem cand_parts (x : UInt64) : ∃ s u, ∃ D : Nat, candT x = ⟨s, u, (D : Int)⟩ ∧ s.toNat = x.toNat % 4294967296 - x.toNat % 2 ∧ u = decide (x.toNat % 2 = 1) ∧ D = x.toNat / 4294967296 :=
  ⟨_, _, _, rfl, cand_size x, rfl, rfl⟩
theorem may_zero : mayT TagV.zero = false := by decide
theorem tag_same {s : UInt64} {u : Bool} {o : Int} : ((s.toNat : Int) == 0 && (u == false && o == 0)) = decide ((⟨s, u, o⟩ : TagV) = TagV.zero) := by
 rw [Bool.eq_iff_iff]
 simp only [Bool.and_eq_true, beq_iff_eq, decide_eq_true_eq, TagV.zero, TagV.mk.injEq]
 constructor
 ·rintro ⟨a, b, c⟩
  exact ⟨UInt64.toNat_inj.1 (by simp; omega), b, c⟩
 ·rintro ⟨rfl, rfl, rfl⟩
  simp
theorem Unpack_any (w : World) (x : UInt64) : Calls Tryz.prog 121 #[.int .u64 (x.toNat : Int)] w fun e w' => e = .returned (.tuple #[.agg (unpackT x).cells, .bool (isTag x)]) ∧ Keeps Nil w w' := by
  obtain ⟨s, u, D, hc, hs, hu, hD⟩ := cand_parts x
  obtain ⟨n, hn⟩ : ∃ n, n = x.toNat := ⟨_, rfl⟩
  have hlt : n < 18446744073709551616 := by rw [hn]; exact x.toNat_lt
  rw [← hn] at hs hu hD ⊢
  obtain ⟨L, hL⟩ : ∃ L, L = n % 4294967296 := ⟨_, rfl⟩
  obtain ⟨B, hB⟩ : ∃ B, B = L % 2 := ⟨_, rfl⟩
  have hL4 : L < 4294967296 := by omega
  have hD4 : D < 4294967296 := by omega
  have e1 : (n : Int) % 4294967296 = (L : Int) := by omega
  have e2 : IntKind.u64.wrap (L : Int) = (L : Int) := IntWalk.u64_in _ (by omega)
  have e3 : bits .andNot .u64 (L : Int) 1 = (s.toNat : Int) := by rw [u64_andNot1 L (by omega)]; omega
  have e4 : bits .and .u64 (L : Int) 1 = (B : Int) := by rw [u64_and1 L (by omega)]; omega
  have e5 : ((B : Int) != 0) = u := by
    rw [hu, Bool.eq_iff_iff]; simp; omega
  have e6 : (n : Int) / 4294967296 = (D : Int) := by omega
  have e7 : IntKind.i64.wrap (D : Int) = (D : Int) := IntWalk.i64_in _ (by omega)
  have hq := tag_eql (s.toNat : Int) 0 u false (D : Int) 0
  rw [tag_same] at hq
  have hgd := tag_gd
  by_cases hz : (⟨s, u, (D : Int)⟩ : TagV) = TagV.zero
  · rw [decide_eq_true hz] at hq
    have hi : isTag x = false := by unfold isTag; rw [hc, hz, may_zero]; rfl
    rw [hi, unpack_no hi]
    clear hs hu hD hL hB hn hi hc hz
    go_enter Tryz.func121, Tryz.ntmps121
    go_wp2_with fail
    refine bodyPost_ret (results_row_tmp rfl rfl (heap_old _ _ (heap_new w _)) Tryz.underlying35 rfl (by kernel_rfl)) rfl ?_
    exact ⟨rfl, ((Keeps.refl Nil w).alloc _).alloc _⟩
  · rw [decide_eq_false hz] at hq
    by_cases hp : packU ⟨s, u, (D : Int)⟩ = x
    · have hm : mayT ⟨s, u, (D : Int)⟩ = true := by
        cases hm : mayT ⟨s, u, (D : Int)⟩ with
        | true => rfl
        | false =>
          exfalso
          rw [pack_no hm] at hp
          apply hz
          have : n = 0 := by rw [hn, ← hp]; rfl
          subst this
          have h1 : s.toNat = 0 := by omega
          have h2 : s = 0 := UInt64.toNat_inj.1 (by simpa using h1)
          rw [h2, hu, hD]; rfl
      have hi : isTag x = true := by unfold isTag; rw [hc, hm, hp]; simp
      have ht : unpackT x = ⟨s, u, (D : Int)⟩ := by unfold unpackT; rw [if_pos hi]; exact hc
      have tst : ((((packU ⟨s, u, (D : Int)⟩).toNat : Nat) : Int) != (n : Int)) = false := by rw [hp, hn]; simp
      rw [hi, ht, TagV.cells_def]
      have HPK := qH (Pack_any ((w.alloc (.cells #[.int .u64 0, .bool false, .int .i64 0] 35)).alloc (.cells #[.int .u64 (s.toNat : Int), .bool u, .int .i64 (D : Int)] 35)) ⟨s, u, (D : Int)⟩)
      obtain ⟨p, hpp⟩ : ∃ p, p = packU ⟨s, u, (D : Int)⟩ := ⟨_, rfl⟩
      rw [← hpp] at tst HPK
      obtain ⟨w1, hw1⟩ : ∃ w1, w1 = (w.alloc (.cells #[.int .u64 0, .bool false, .int .i64 0] 35)).alloc (.cells #[.int .u64 (s.toNat : Int), .bool u, .int .i64 (D : Int)] 35) := ⟨_, rfl⟩
      have k1 : Keeps Nil w w1 := by rw [hw1]; exact ((Keeps.refl Nil w).alloc _).alloc _
      have b1 : w1.heap[w.heap.size]? = some (.cells #[.int .u64 0, .bool false, .int .i64 0] 35 (0, 0)) := by rw [hw1]; exact heap_old _ _ (heap_new w _)
      have b2 : w1.heap[w.heap.size + 1]? = some (.cells #[.int .u64 (s.toNat : Int), .bool u, .int .i64 (D : Int)] 35 (0, 0)) := by
        rw [hw1]
        have := heap_new (w.alloc (.cells #[.int .u64 0, .bool false, .int .i64 0] 35)) (.cells #[.int .u64 (s.toNat : Int), .bool u, .int .i64 (D : Int)] 35)
        simpa using this
      rw [← hw1] at HPK
      have HW := qH hw1
      have K1 := qH (And.intro k1 (And.intro b1 b2))
      clear hs hu hD hL hB hn hi hc hz hp hm ht hpp hw1 k1 b1 b2
      go_enter Tryz.func121, Tryz.ntmps121
      go_wp2_with fail
      rw [← HW.out]
      refine HPK.out.mono ?_
      rintro e w2 ⟨rfl, k2⟩
      have b1 := k2.at K1.out.2.1 (fun e => e)
      have b2 := k2.at K1.out.2.2 (fun e => e)
      obtain ⟨c0, c1, c2⟩ := row3 b1
      have f0 := frz b1 0
      have f1 := frz b1 1
      have f2 := frz b1 2
      obtain ⟨d0, d1, d2⟩ := row3 b2
      have K2 := qH (And.intro (K1.out.1.trans' k2) b1)
      clear k2 b1 b2
      go_wp2_with fail
      refine bodyPost_ret (results_row_tmp rfl rfl (setRow3 K2.out.2) Tryz.underlying35 rfl (by kernel_rfl)) rfl ?_
      exact ⟨rfl, keepsRow3 K2.out.1 (Nat.le_refl _) _ _ _⟩
    · have hi : isTag x = false := by
        unfold isTag; rw [hc]
        simp [hp]
      rw [hi, unpack_no hi]
      have tst : ((((packU ⟨s, u, (D : Int)⟩).toNat : Nat) : Int) != (n : Int)) = true := by rw [hn]; exact (unlike_u64 hp).1
      have HPK := qH (Pack_any ((w.alloc (.cells #[.int .u64 0, .bool false, .int .i64 0] 35)).alloc (.cells #[.int .u64 (s.toNat : Int), .bool u, .int .i64 (D : Int)] 35)) ⟨s, u, (D : Int)⟩)
      obtain ⟨p, hpp⟩ : ∃ p, p = packU ⟨s, u, (D : Int)⟩ := ⟨_, rfl⟩
      rw [← hpp] at tst HPK
      obtain ⟨w1, hw1⟩ : ∃ w1, w1 = (w.alloc (.cells #[.int .u64 0, .bool false, .int .i64 0] 35)).alloc (.cells #[.int .u64 (s.toNat : Int), .bool u, .int .i64 (D : Int)] 35) := ⟨_, rfl⟩
      have k1 : Keeps Nil w w1 := by rw [hw1]; exact ((Keeps.refl Nil w).alloc _).alloc _
      have b1 : w1.heap[w.heap.size]? = some (.cells #[.int .u64 0, .bool false, .int .i64 0] 35 (0, 0)) := by rw [hw1]; exact heap_old _ _ (heap_new w _)
      rw [← hw1] at HPK
      have HW := qH hw1
      have K1 := qH (And.intro k1 b1)
      clear hs hu hD hL hB hn hi hc hz hp hpp hw1 k1 b1
      go_enter Tryz.func121, Tryz.ntmps121
      go_wp2_with fail
      rw [← HW.out]
      refine HPK.out.mono ?_
      rintro e w2 ⟨rfl, k2⟩
      have b1 := k2.at K1.out.2 (fun e => e)
      obtain ⟨c0, c1, c2⟩ := row3 b1
      have f0 := frz b1 0
      have f1 := frz b1 1
      have f2 := frz b1 2
      have K2 := qH (And.intro (K1.out.1.trans' k2) b1)
      clear k2 b1
      go_wp2_with fail
      refine bodyPost_ret (results_row_tmp rfl rfl (setRow3 K2.out.2) Tryz.underlying35 rfl (by kernel_rfl)) rfl ?_
      exact ⟨rfl, keepsRow3 K2.out.1 (Nat.le_refl _) _ _ _⟩
end

section
open Go.RowKit
theorem in_any {T : Value} {f : UInt64 → UInt64} {N : Nat} {w : World} (h : Reads T f N w) (off size : UInt64) (x y : Int) (hx : x = (off.toNat : Int)) (hy : y = (size.toNat : Int)) :
    Calls Tryz.prog 126 #[T, .int .u64 x, .int .u64 y] w fun e w' => e = .returned (.bool (inT (f 16) off size)) ∧ Keeps Nil w w' := by
  subst hx hy
  have HL := qH (hSize_any h)
  have HK := qH (Keeps.refl Nil w)
  obtain ⟨st, hst⟩ : ∃ st, st = (f 16).toNat := ⟨_, rfl⟩
  have hlt := (f 16).toNat_lt
  obtain ⟨a, ha⟩ : ∃ a, a = off.toNat := ⟨_, rfl⟩
  obtain ⟨z, hz⟩ : ∃ z, z = size.toNat := ⟨_, rfl⟩
  have ha2 : a < 18446744073709551616 := by rw [ha]; exact off.toNat_lt
  have hz2 : z < 18446744073709551616 := by rw [hz]; exact size.toNat_lt
  have hi : inT (f 16) off size = decide (a % 16 = 0 ∧ 3776 ≤ a ∧ a < st ∧ z ≤ st - a) := by rw [hst, ha, hz]; rfl
  rw [← hst] at HL hlt
  rw [hi, ← ha, ← hz]
  clear hi hst ha hz h
  have e1 : IntKind.u64.wrap ((a : Int) % 16) = (a : Int) % 16 := IntWalk.u64_in _ (by omega)
  have e2 : IntKind.u64.wrap ((a : Int).tmod 16) = (a : Int) % 16 := by rw [Int.tmod_eq_emod_of_nonneg (by omega)]; exact e1
  have HBB := qH (And.intro hlt (And.intro ha2 hz2))
  clear hlt ha2 hz2
  by_cases h0 : a % 16 = 0
  · have k0 : (a : Int) % 16 = 0 := by omega
    by_cases h1 : 3776 ≤ a
    · have k1 : (3776 : Int) ≤ (a : Int) := by omega
      by_cases h2 : a < st
      · have k2 : decide (a < st) = true := decide_eq_true h2
        have e3 : IntKind.u64.wrap ((st : Int) - (a : Int)) = (st : Int) - (a : Int) := IntWalk.u64_in _ (by have := HBB.out.1; omega)
        by_cases h3 : z ≤ st - a
        · have k3 : decide ((z : Int) ≤ (st : Int) - (a : Int)) = true := by rw [decide_eq_true_eq]; omega
          rw [decide_eq_true (by exact ⟨h0, h1, h2, h3⟩)]
          clear h0 h1 h2 h3
          go_enter Tryz.func126, Tryz.ntmps126
          go_wp2_with fail
          refine HL.out.mono ?_
          rintro e w1 ⟨rfl, k1⟩
          have K1 := qH k1
          clear k1
          go_wp2_with fail
          go_ret
          exact ⟨rfl, HK.out.trans' K1.out⟩
        · have k3 : decide ((z : Int) ≤ (st : Int) - (a : Int)) = false := by rw [decide_eq_false_iff_not]; omega
          rw [decide_eq_false (fun h => h3 h.2.2.2)]
          clear h0 h1 h2 h3
          go_enter Tryz.func126, Tryz.ntmps126
          go_wp2_with fail
          refine HL.out.mono ?_
          rintro e w1 ⟨rfl, k1⟩
          have K1 := qH k1
          clear k1
          go_wp2_with fail
          go_ret
          exact ⟨rfl, HK.out.trans' K1.out⟩
      · have k2 : decide (a < st) = false := decide_eq_false h2
        rw [decide_eq_false (fun h => h2 h.2.2.1)]
        clear h0 h1 h2
        go_enter Tryz.func126, Tryz.ntmps126
        go_wp2_with fail
        refine HL.out.mono ?_
        rintro e w1 ⟨rfl, k1⟩
        have K1 := qH k1
        clear k1
        go_wp2_with fail
        go_ret
        exact ⟨rfl, HK.out.trans' K1.out⟩
    · have k1 : ¬ (3776 : Int) ≤ (a : Int) := by omega
      rw [decide_eq_false (fun h => h1 h.2.1)]
      clear h0 h1
      go_enter Tryz.func126, Tryz.ntmps126
      go_wp2_with fail
      refine HL.out.mono ?_
      rintro e w1 ⟨rfl, k1⟩
      have K1 := qH k1
      clear k1
      go_wp2_with fail
      go_ret
      exact ⟨rfl, HK.out.trans' K1.out⟩
  · have k0 : ((a : Int) % 16 == 0) = false := by rw [beq_eq_false_iff_ne]; omega
    rw [decide_eq_false (fun h => h0 h.1)]
    clear h0
    go_enter Tryz.func126, Tryz.ntmps126
    go_wp2_with fail
    refine HL.out.mono ?_
    rintro e w1 ⟨rfl, k1⟩
    have K1 := qH k1
    clear k1
    go_wp2_with fail
    go_ret
    exact ⟨rfl, HK.out.trans' K1.out⟩
theorem readT_yes {f : UInt64 → UInt64} {off : UInt64} (h : readB f off = true) : readT f off = unpackT (f off) := if_pos h
theorem readT_no {f : UInt64 → UInt64} {off : UInt64} (h : readB f off = false) : readT f off = TagV.zero := if_neg (by rw [h]; decide)
theorem codeOf_true : codeOf true = 0 := rfl
theorem codeOf_false : codeOf false = 12 := rfl
theorem add_eq (a s : UInt64) : IntKind.u64.wrap ((a.toNat : Int) + (s.toNat : Int)) = ((a + s).toNat : Int) := u64_add a s
theorem sub8_eq (a : UInt64) : IntKind.u64.wrap ((a.toNat : Int) - 8) = ((a - 8).toNat : Int) := u64_sub a 8
theorem Read_any {T : Value} {f : UInt64 → UInt64} {N : Nat} {w : World} (h : Reads T f N w) (off : UInt64) (x : Int) (hx : x = (off.toNat : Int)) :
    Calls Tryz.prog 64 #[T, .int .u64 x] w fun e w' => e = .returned (.tuple #[.agg (readT f off).cells, .int .i64 (codeOf (readB f off))]) ∧ Keeps Nil w w' := by
  subst hx
  have H := qH h
  obtain ⟨B, hB⟩ : ∃ B, B = w.heap.size := ⟨_, rfl⟩
  obtain ⟨w0, hw0⟩ : ∃ w0, w0 = w.alloc (.cells #[.int .u64 0, .bool false, .int .i64 0] 35) := ⟨_, rfl⟩
  have hk0 : Keeps Nil w w0 := by rw [hw0]; exact (Keeps.refl Nil w).alloc _
  have hb0 : w0.heap[B]? = some (.cells #[.int .u64 0, .bool false, .int .i64 0] 35 (0, 0)) := by rw [hw0, hB]; exact heap_new w _
  obtain ⟨s, u, o, hu⟩ : ∃ s u o, unpackT (f off) = ⟨s, u, o⟩ := ⟨_, _, _, rfl⟩
  obtain ⟨b, hb⟩ : ∃ b, b = readB f off := ⟨_, rfl⟩
  obtain ⟨g, hg⟩ : ∃ g, g = readT f off := ⟨_, rfl⟩
  have hrb : readB f off = (isTag (f off) && inT (f 16) off s && f (off + s - 8) == f off) := by unfold readB; rw [hu]
  rw [← hb, ← hg]
  obtain ⟨v, hv⟩ : ∃ v, v = f off := ⟨_, rfl⟩
  obtain ⟨v2, hv2⟩ : ∃ v2, v2 = f (off + s - 8) := ⟨_, rfl⟩
  obtain ⟨y1, hy1⟩ : ∃ y, y = off + s := ⟨_, rfl⟩
  obtain ⟨y2, hy2⟩ : ∃ y, y = off + s - 8 := ⟨_, rfl⟩
  have q1 := add_eq off s
  have q2 := sub8_eq (off + s)
  rw [← hy1] at q1 q2
  rw [← hy1] at hy2
  rw [← hy2] at q2
  rw [← hy1, ← hy2] at hrb hv2
  have HU := qH (And.intro hu (And.intro hv (And.intro hv2 (And.intro hw0 (And.intro hB (And.intro hk0 (And.intro hb0 (And.intro hb (And.intro hg hrb)))))))))
  have HL := qH (h.load w0 hk0 off _ rfl)
  have HF := qH (And.intro q1 q2)
  rw [← hv] at HL hrb hu
  rw [← hv2] at hrb
  have HRB := qH hrb
  have HUU := qH hu
  clear h hu hv hv2 hw0 hB hk0 hb0 hb hg hrb q1 q2 hy1 hy2
  have hw0 := HU.out.2.2.2.1
  have hB := HU.out.2.2.2.2.1
  have hk0 := HU.out.2.2.2.2.2.1
  have hb0 := HU.out.2.2.2.2.2.2.1
  have HW0 := qH hw0
  have HB := qH hB
  have K0 := qH (And.intro hk0 hb0)
  clear hw0 hB hk0 hb0
  cases hi : isTag v with
  | false =>
    have HI := qH hi
    clear hi
    go_enter Tryz.func64, Tryz.ntmps64
    go_wp2_with fail
    rw [← HW0.out, ← HB.out]
    refine HL.out.mono ?_
    rintro e w1 ⟨rfl, k1⟩
    have K1 := qH k1
    clear k1
    go_wp2_with fail
    refine (Unpack_any w1 v).mono ?_
    rintro e w2 ⟨rfl, k2⟩
    rw [HUU.out, TagV.cells_def, HI.out]
    have hb2 := (K1.out.trans' k2).at K0.out.2 (fun e => e)
    obtain ⟨c0, c1, c2⟩ := row3 hb2
    have f0 := frz hb2 0
    have f1 := frz hb2 1
    have f2 := frz hb2 2
    have hlt : B < w2.heap.size := getElem?_lt hb2
    have K2 := qH (And.intro (K1.out.trans' k2) hb2)
    clear k2 hb2
    go_wp2_with fail
    refine bodyPost_ret (results_row_tmp rfl rfl (heap_old _ _ (setRow3 K2.out.2)) Tryz.underlying35 rfl (by kernel_rfl)) rfl ?_
    have hbf : b = false := by rw [HU.out.2.2.2.2.2.2.2.1, HU.out.2.2.2.2.2.2.2.2.2, ← HU.out.2.1]; simp [HI.out]
    have hgz : g = TagV.zero := by rw [HU.out.2.2.2.2.2.2.2.2.1]; exact readT_no (by rw [← HU.out.2.2.2.2.2.2.2.1]; exact hbf)
    refine ⟨by rw [hbf, hgz]; rfl, (keepsRow3 (K0.out.1.trans' K2.out.1) (by rw [HB.out]; exact Nat.le_refl _) _ _ _).alloc _⟩
  | true =>
    have HI := qH hi
    clear hi
    cases hn : inT (f 16) off s with
    | false =>
      have HN := qH hn
      clear hn
      go_enter Tryz.func64, Tryz.ntmps64
      go_wp2_with fail
      rw [← HW0.out, ← HB.out]
      refine HL.out.mono ?_
      rintro e w1 ⟨rfl, k1⟩
      have K1 := qH k1
      clear k1
      go_wp2_with fail
      refine (Unpack_any w1 v).mono ?_
      rintro e w2 ⟨rfl, k2⟩
      rw [HUU.out, TagV.cells_def, HI.out]
      have hb2 := (K1.out.trans' k2).at K0.out.2 (fun e => e)
      obtain ⟨c0, c1, c2⟩ := row3 hb2
      have f0 := frz hb2 0
      have f1 := frz hb2 1
      have f2 := frz hb2 2
      have hlt : B < w2.heap.size := getElem?_lt hb2
      have K2 := qH (And.intro (K1.out.trans' k2) hb2)
      clear k2 hb2
      obtain ⟨w3, hw3⟩ : ∃ w3, w3 = w2.alloc (.cells #[.int .u64 (s.toNat : Int), .bool u, .int .i64 o] 35) := ⟨_, rfl⟩
      have hk3 : Keeps Nil w2 w3 := by rw [hw3]; exact (Keeps.refl Nil w2).alloc _
      have hb3 : w3.heap[w2.heap.size]? = some (.cells #[.int .u64 (s.toNat : Int), .bool u, .int .i64 o] 35 (0, 0)) := by rw [hw3]; exact heap_new w2 _
      have K3 := qH (And.intro (K2.out.1.trans' hk3) (And.intro hb3 (hk3.at K2.out.2 (fun e => e))))
      have HW3 := qH hw3
      clear hk3 hb3 hw3
      go_wp2_with fail
      rw [← HW3.out]
      refine (in_any (H.out.keeps (K0.out.1.trans' K3.out.1)) off s _ _ rfl rfl).mono ?_
      rintro e w4 ⟨rfl, k4⟩
      rw [HN.out]
      have hb4 := k4.at K3.out.2.2 (fun e => e)
      have hs4 := k4.at K3.out.2.1 (fun e => e)
      clear c0 c1 c2 f0 f1 f2
      obtain ⟨c0, c1, c2⟩ := row3 hb4
      have f0 := frz hb4 0
      have f1 := frz hb4 1
      have f2 := frz hb4 2
      obtain ⟨d0, d1, d2⟩ := row3 hs4
      have K4 := qH (And.intro (K3.out.1.trans' k4) (And.intro hs4 hb4))
      clear k4 hb4 hs4
      go_wp2_with fail
      refine bodyPost_ret (results_row_tmp rfl rfl (setRow3 K4.out.2.2) Tryz.underlying35 rfl (by kernel_rfl)) rfl ?_
      have hbf : b = false := by rw [HU.out.2.2.2.2.2.2.2.1, HU.out.2.2.2.2.2.2.2.2.2, ← HU.out.2.1]; simp [HI.out, HN.out]
      have hgz : g = TagV.zero := by rw [HU.out.2.2.2.2.2.2.2.2.1]; exact readT_no (by rw [← HU.out.2.2.2.2.2.2.2.1]; exact hbf)
      refine ⟨by rw [hbf, hgz]; rfl, keepsRow3 (K0.out.1.trans' K4.out.1) (by rw [HB.out]; exact Nat.le_refl _) _ _ _⟩
    | true =>
      have HN := qH hn
      clear hn
      by_cases hlast : v2 = v
      · have tst := (same_u64 hlast).1
        have HE := qH hlast
        clear hlast
        have q1 := HF.out.1
        have q2 := HF.out.2
        go_enter Tryz.func64, Tryz.ntmps64
        go_wp2_with fail
        rw [← HW0.out, ← HB.out]
        refine HL.out.mono ?_
        rintro e w1 ⟨rfl, k1⟩
        have K1 := qH k1
        clear k1
        go_wp2_with fail
        refine (Unpack_any w1 v).mono ?_
        rintro e w2 ⟨rfl, k2⟩
        rw [HUU.out, TagV.cells_def, HI.out]
        have hb2 := (K1.out.trans' k2).at K0.out.2 (fun e => e)
        obtain ⟨c0, c1, c2⟩ := row3 hb2
        have f0 := frz hb2 0
        have f1 := frz hb2 1
        have f2 := frz hb2 2
        have hlt : B < w2.heap.size := getElem?_lt hb2
        have K2 := qH (And.intro (K1.out.trans' k2) hb2)
        clear k2 hb2
        obtain ⟨w3, hw3⟩ : ∃ w3, w3 = w2.alloc (.cells #[.int .u64 (s.toNat : Int), .bool u, .int .i64 o] 35) := ⟨_, rfl⟩
        have hk3 : Keeps Nil w2 w3 := by rw [hw3]; exact (Keeps.refl Nil w2).alloc _
        have hb3 : w3.heap[w2.heap.size]? = some (.cells #[.int .u64 (s.toNat : Int), .bool u, .int .i64 o] 35 (0, 0)) := by rw [hw3]; exact heap_new w2 _
        have K3 := qH (And.intro (K2.out.1.trans' hk3) (And.intro hb3 (hk3.at K2.out.2 (fun e => e))))
        have HW3 := qH hw3
        clear hk3 hb3 hw3
        go_wp2_with fail
        rw [← HW3.out]
        refine (in_any (H.out.keeps (K0.out.1.trans' K3.out.1)) off s _ _ rfl rfl).mono ?_
        rintro e w4 ⟨rfl, k4⟩
        rw [HN.out]
        have hb4 := k4.at K3.out.2.2 (fun e => e)
        have hs4 := k4.at K3.out.2.1 (fun e => e)
        clear c0 c1 c2 f0 f1 f2
        obtain ⟨c0, c1, c2⟩ := row3 hb4
        have f0 := frz hb4 0
        have f1 := frz hb4 1
        have f2 := frz hb4 2
        obtain ⟨d0, d1, d2⟩ := row3 hs4
        have K4 := qH (And.intro (K3.out.1.trans' k4) (And.intro hs4 hb4))
        clear k4 hb4 hs4
        go_wp2_with fail
        refine (H.out.load _ (K0.out.1.trans' K4.out.1) y2 _ rfl).mono ?_
        rintro e w5 ⟨rfl, k5⟩
        rw [← HU.out.2.2.1]
        have hb5 := k5.at K4.out.2.2 (fun e => e)
        have hs5 := k5.at K4.out.2.1 (fun e => e)
        clear c0 c1 c2 f0 f1 f2 d0 d1 d2
        obtain ⟨c0, c1, c2⟩ := row3 hb5
        have f0 := frz hb5 0
        have f1 := frz hb5 1
        have f2 := frz hb5 2
        obtain ⟨d0, d1, d2⟩ := row3 hs5
        have K5 := qH (And.intro (K4.out.1.trans' k5) hb5)
        clear k5 hb5 hs5
        go_wp2_with fail
        refine bodyPost_ret (results_row_tmp rfl rfl (setRow3 K5.out.2) Tryz.underlying35 rfl (by kernel_rfl)) rfl ?_
        have hbf : b = true := by rw [HU.out.2.2.2.2.2.2.2.1, HU.out.2.2.2.2.2.2.2.2.2, ← HU.out.2.1, ← HU.out.2.2.1]; simp [HI.out, HN.out, HE.out]
        have hgz : g = ⟨s, u, o⟩ := by rw [HU.out.2.2.2.2.2.2.2.2.1, readT_yes (by rw [← HU.out.2.2.2.2.2.2.2.1]; exact hbf), ← HU.out.2.1]; exact HUU.out
        refine ⟨by rw [hbf, hgz]; rfl, keepsRow3 (K0.out.1.trans' K5.out.1) (by rw [HB.out]; exact Nat.le_refl _) _ _ _⟩
      · have tst := (unlike_u64 hlast).1
        have HE := qH hlast
        clear hlast
        have q1 := HF.out.1
        have q2 := HF.out.2
        go_enter Tryz.func64, Tryz.ntmps64
        go_wp2_with fail
        rw [← HW0.out, ← HB.out]
        refine HL.out.mono ?_
        rintro e w1 ⟨rfl, k1⟩
        have K1 := qH k1
        clear k1
        go_wp2_with fail
        refine (Unpack_any w1 v).mono ?_
        rintro e w2 ⟨rfl, k2⟩
        rw [HUU.out, TagV.cells_def, HI.out]
        have hb2 := (K1.out.trans' k2).at K0.out.2 (fun e => e)
        obtain ⟨c0, c1, c2⟩ := row3 hb2
        have f0 := frz hb2 0
        have f1 := frz hb2 1
        have f2 := frz hb2 2
        have hlt : B < w2.heap.size := getElem?_lt hb2
        have K2 := qH (And.intro (K1.out.trans' k2) hb2)
        clear k2 hb2
        obtain ⟨w3, hw3⟩ : ∃ w3, w3 = w2.alloc (.cells #[.int .u64 (s.toNat : Int), .bool u, .int .i64 o] 35) := ⟨_, rfl⟩
        have hk3 : Keeps Nil w2 w3 := by rw [hw3]; exact (Keeps.refl Nil w2).alloc _
        have hb3 : w3.heap[w2.heap.size]? = some (.cells #[.int .u64 (s.toNat : Int), .bool u, .int .i64 o] 35 (0, 0)) := by rw [hw3]; exact heap_new w2 _
        have K3 := qH (And.intro (K2.out.1.trans' hk3) (And.intro hb3 (hk3.at K2.out.2 (fun e => e))))
        have HW3 := qH hw3
        clear hk3 hb3 hw3
        go_wp2_with fail
        rw [← HW3.out]
        refine (in_any (H.out.keeps (K0.out.1.trans' K3.out.1)) off s _ _ rfl rfl).mono ?_
        rintro e w4 ⟨rfl, k4⟩
        rw [HN.out]
        have hb4 := k4.at K3.out.2.2 (fun e => e)
        have hs4 := k4.at K3.out.2.1 (fun e => e)
        clear c0 c1 c2 f0 f1 f2
        obtain ⟨c0, c1, c2⟩ := row3 hb4
        have f0 := frz hb4 0
        have f1 := frz hb4 1
        have f2 := frz hb4 2
        obtain ⟨d0, d1, d2⟩ := row3 hs4
        have K4 := qH (And.intro (K3.out.1.trans' k4) (And.intro hs4 hb4))
        clear k4 hb4 hs4
        go_wp2_with fail
        refine (H.out.load _ (K0.out.1.trans' K4.out.1) y2 _ rfl).mono ?_
        rintro e w5 ⟨rfl, k5⟩
        rw [← HU.out.2.2.1]
        have hb5 := k5.at K4.out.2.2 (fun e => e)
        have hs5 := k5.at K4.out.2.1 (fun e => e)
        clear c0 c1 c2 f0 f1 f2 d0 d1 d2
        obtain ⟨c0, c1, c2⟩ := row3 hb5
        have f0 := frz hb5 0
        have f1 := frz hb5 1
        have f2 := frz hb5 2
        obtain ⟨d0, d1, d2⟩ := row3 hs5
        have K5 := qH (And.intro (K4.out.1.trans' k5) hb5)
        clear k5 hb5 hs5
        go_wp2_with fail
        refine bodyPost_ret (results_row_tmp rfl rfl (setRow3 K5.out.2) Tryz.underlying35 rfl (by kernel_rfl)) rfl ?_
        have hbf : b = false := by rw [HU.out.2.2.2.2.2.2.2.1, HU.out.2.2.2.2.2.2.2.2.2, ← HU.out.2.1]; rw [← HU.out.2.2.1]; simp [HI.out, HN.out, HE.out]
        have hgz : g = TagV.zero := by rw [HU.out.2.2.2.2.2.2.2.2.1]; exact readT_no (by rw [← HU.out.2.2.2.2.2.2.2.1]; exact hbf)
        refine ⟨by rw [hbf, hgz]; rfl, keepsRow3 (K0.out.1.trans' K5.out.1) (by rw [HB.out]; exact Nat.le_refl _) _ _ _⟩
end

section
open Go.RowKit
def writeP (ws : List UInt64) (l : List Put) (off : UInt64) (g : TagV) : List Put :=
  if writeB (txLoad ws l) off g then txStore ws (txStore ws l off (packU g)) (off + g.size - 8) (packU g) else l
theorem writeP_yes {ws : List UInt64} {l : List Put} {off : UInt64} {g : TagV} (h : writeB (txLoad ws l) off g = true) : writeP ws l off g = txStore ws (txStore ws l off (packU g)) (off + g.size - 8) (packU g) := if_pos h
theorem Live.box {w0 w : World} {s t : Nat} {l : List Put} {ws : List UInt64} {R : World → (Nat → Prop) → Prop} (h : Live w0 w s t l ws R) (hR : Stable R) (c : Array Value) (T : TypeId) :
  Live w0 (w.alloc (.cells c T)) s t l ws (fun w' S => R w' S ∧ Still w.heap.size c T w' S) := by
 obtain ⟨S, h1, h2, h3, h4⟩ := h
 have k : Keeps Nil w (w.alloc (.cells c T)) := (Keeps.refl Nil w).alloc _
 exact ⟨S, h1.keeps_nil k, h2, h3.trans' k, hR S S _ _ (Step.of_nil k) h4, heap_new w _, fun e => by have := h1.lt e; omega⟩
theorem Live.still {w0 w : World} {s t n : Nat} {l : List Put} {ws : List UInt64} {R : World → (Nat → Prop) → Prop} {c : Array Value} {T : TypeId} (h : Live w0 w s t l ws (fun w' S => R w' S ∧ Still n c T w' S)) : w.heap[n]? = some (.cells c T (0, 0)) := by
 obtain ⟨S, h1, h2, h3, h4⟩ := h
 exact h4.2.1
theorem Live.drop {w0 w : World} {s t : Nat} {l : List Put} {ws : List UInt64} {R R' : World → (Nat → Prop) → Prop} (h : Live w0 w s t l ws (fun w' S => R w' S ∧ R' w' S)) : Live w0 w s t l ws R := h.reads (fun _ _ r => r.1)
theorem SegAt.liveR {w0 w : World} {p q : Nat} {ws : List UInt64} (hs : SegAt w p q ws) (hK : Keeps Nil w0 w) (hp : w0.heap.size ≤ p) (hq : w0.heap.size ≤ q) {R : World → (Nat → Prop) → Prop} (hR : Stable R) (h0 : R w (fun k => k = p ∨ k = q)) :
  Calls Tryz.prog 130 #[.pointer (some ⟨p, 0, none⟩)] w fun e w' => ∃ t, e = .returned (.pointer (some ⟨t, 0, none⟩)) ∧ Live w0 w' p t [] ws R := by
 refine (Mem.new hs).mono ?_
 rintro e w' ⟨t, S', rfl, h1, h2, h3, h4⟩
 have := hK.size
 exact ⟨t, rfl, S', h1, fun k hk => by rcases h3 k hk with rfl | rfl | e <;> omega, hK.trans' h2, hR _ S' w w' ⟨h2.of_nil, fun k hk => by rcases h3 k hk with rfl | rfl | e; exact .inl (.inl rfl); exact .inl (.inr rfl); exact .inr e⟩ h0⟩
theorem rFormat_4800 (w : World) (size : UInt64) (y : Int) (hy : y = (size.toNat : Int)) :
   Calls Tryz.prog 129 #[.int .u64 4800, .int .u64 y] w fun e w' => ∃ v, e = .returned (.tuple #[v, .int .i64 (formE size)]) ∧ Own kU w' w.heap.size v (formW size) ∧ Keeps Nil w w' := by
 cases hf : fitsN size 4800 with
 | true =>
   refine (rFormat_yes w 4800 size mayB_4800 hf 4800 y (by rfl) hy).mono ?_
   rintro e w' ⟨v, rfl, ho, k⟩
   have ho' : Own kU w' w.heap.size v (fmtR 600 size) := ho
   exact ⟨v, by rw [formE_yes hf], by rw [formW_yes hf, fmt_same (n := 600) hf]; exact ho', k⟩
 | false =>
   refine (rFormat_odd w 4800 size mayB_4800 hf 4800 y (by rfl) hy).mono ?_
   rintro e w' ⟨v, rfl, ho, k⟩
   exact ⟨v, by rw [formE_no hf], by rw [formW_no hf]; exact ho, k⟩
theorem take_cap {α : Type} (l : List α) (k c : Nat) (hk : k ≤ l.length) (hc : k ≤ c) (h : ¬ (k < l.length ∧ k < c)) : l.take k = l.take c := by
 by_cases e : k = c
 ·rw [e]
 ·have : k = l.length := by omega
  rw [List.take_of_length_le (by omega), List.take_of_length_le (by omega)]
end
end Go.Proofs.YtefpbljekfkefaaGreat
