/- TagUR, TagIO, TagR: merged. -/
import Derived.Test.YtefpbljekfkefaaGreatM06
import Derived.Test.YtefpbljekfkefaaGreatM05
/- carrackref05.Unpack. -/
namespace Go.Proofs.YtefpbljekfkefaaGreat
open Go.RowKit

set_option maxRecDepth 100000 in
set_option maxHeartbeats 1000000 in
theorem rUnpack_any (w : World) (x : UInt64) : Calls Tryz.prog 114 #[.int .u64 (x.toNat : Int)] w fun e w' => e = .returned (.tuple #[.agg (unpackT x).cells, .bool (isTag x)]) ∧ Keeps Nil w w' := by
  obtain ⟨s, u, D, hc, hs, hu, hD⟩ := candR_parts x
  have hR := isTag_R x
  have hU := unpack_R x
  rw [hc] at hR hU
  obtain ⟨n, hn⟩ : ∃ n, n = x.toNat := ⟨_, rfl⟩
  have hlt : n < 18446744073709551616 := by rw [hn]; exact x.toNat_lt
  rw [← hn] at hs hu hD ⊢
  obtain ⟨L, hL⟩ : ∃ L, L = n % 4294967296 := ⟨_, rfl⟩
  obtain ⟨B, hB⟩ : ∃ B, B = L % 2 := ⟨_, rfl⟩
  obtain ⟨C, hC⟩ : ∃ C, C = n / 4294967296 := ⟨_, rfl⟩
  have hL4 : L < 4294967296 := by omega
  have hD4 : D < 4294967296 := by omega
  have hC4 : C < 4294967296 := by omega
  have e1 : (n : Int) % 4294967296 = (L : Int) := by omega
  have e2 : (L : Int) % 2 = (B : Int) := by omega
  have e3 : IntKind.u64.wrap ((L : Int) - (B : Int)) = (s.toNat : Int) := by rw [IntWalk.u64_in _ (by omega)]; omega
  have e5 : ((B : Int) == 1) = u := by
    rw [hu, Bool.eq_iff_iff]; simp; omega
  have e6 : (n : Int) / 4294967296 = (C : Int) := by omega
  have e8 : (C : Int) % 16 = (D : Int) := by omega
  have e7 : IntKind.i64.wrap (D : Int) = (D : Int) := IntWalk.i64_in _ (by omega)
  obtain ⟨p, hpp⟩ : ∃ p, p = packU ⟨s, u, (D : Int)⟩ := ⟨_, rfl⟩
  obtain ⟨w1, hw1⟩ : ∃ w1, w1 = (w.alloc (.cells #[.int .u64 0, .bool false, .int .i64 0] 61)).alloc (.cells #[.int .u64 (s.toNat : Int), .bool u, .int .i64 (D : Int)] 61) := ⟨_, rfl⟩
  have k1 : Keeps Nil w w1 := by rw [hw1]; exact ((Keeps.refl Nil w).alloc _).alloc _
  have b1 : w1.heap[w.heap.size]? = some (.cells #[.int .u64 0, .bool false, .int .i64 0] 61 (0, 0)) := by rw [hw1]; exact heap_old _ _ (heap_new w _)
  have b2 : w1.heap[w.heap.size + 1]? = some (.cells #[.int .u64 (s.toNat : Int), .bool u, .int .i64 (D : Int)] 61 (0, 0)) := by
    rw [hw1]
    have := heap_new (w.alloc (.cells #[.int .u64 0, .bool false, .int .i64 0] 61)) (.cells #[.int .u64 (s.toNat : Int), .bool u, .int .i64 (D : Int)] 61)
    simpa using this
  obtain ⟨w2, hw2⟩ : ∃ w2, w2 = w1.alloc (.cells #[.int .u64 (s.toNat : Int), .bool u, .int .i64 (D : Int)] 61) := ⟨_, rfl⟩
  have k12 : Keeps Nil w1 w2 := by rw [hw2]; exact (Keeps.refl Nil w1).alloc _
  have HM := Lib.hid (rMay5_any w1 ⟨s, u, (D : Int)⟩)
  rw [TagV.cells_def, ← hw2] at HM
  have b12 := k12.at b1 (fun e => e)
  have b22 := k12.at b2 (fun e => e)
  obtain ⟨c0, c1, c2⟩ := row3 b12
  have f0 := frz b12 0
  have f1 := frz b12 1
  have f2 := frz b12 2
  obtain ⟨d0, d1, d2⟩ := row3 b22
  have HW := Lib.hid hw1
  have K2 := Lib.hid (And.intro (k1.trans' k12) (And.intro b12 b22))
  have HR := Lib.hid hR
  have HU := Lib.hid hU
  have HP := Lib.hid hpp
  have HPK := Lib.hid (rPack_any w2 ⟨s, u, (D : Int)⟩)
  rw [TagV.cells_def, ← hpp] at HPK
  have HX := Lib.hid hn
  clear hs hu hD hL hB hC hn hc hR hU hpp hw1 k1 b1 b2 hw2 k12 b12 b22 hL4 hD4 hC4
  cases hm : mayT ⟨s, u, (D : Int)⟩ with
  | false =>
    have HMM := Lib.hid hm
    clear hm
    go_enter Tryz.func114, Tryz.ntmps114
    go_wp2_with fail
    rw [← HW.out]
    refine HM.out.mono ?_
    rintro e w' ⟨rfl, rfl⟩
    rw [HMM.out]
    go_wp2_with fail
    have hi : isTag x = false := by rw [← HR.out, HMM.out]; rfl
    refine bodyPost_ret (results_row_tmp rfl rfl (setRow3 K2.out.2.1) Tryz.underlying61 rfl (by kernel_rfl)) rfl ?_
    exact ⟨by rw [hi, unpack_no hi]; rfl, keepsRow3 K2.out.1 (Nat.le_refl _) _ _ _⟩
  | true =>
    have HMM := Lib.hid hm
    clear hm
    by_cases hp : p = x
    · have tst : ((p.toNat : Int) != (n : Int)) = false := by rw [HX.out]; exact (same_u64 hp).1
      have HE := Lib.hid hp
      clear hp
      go_enter Tryz.func114, Tryz.ntmps114
      go_wp2_with fail
      rw [← HW.out]
      refine HM.out.mono ?_
      rintro e w' ⟨rfl, rfl⟩
      rw [HMM.out]
      go_wp2_with fail
      refine HPK.out.mono ?_
      rintro e w3 ⟨rfl, k3⟩
      clear c0 c1 c2 f0 f1 f2 d0 d1 d2
      have b13 := k3.at K2.out.2.1 (fun e => e)
      have b23 := k3.at K2.out.2.2 (fun e => e)
      obtain ⟨c0, c1, c2⟩ := row3 b13
      have f0 := frz b13 0
      have f1 := frz b13 1
      have f2 := frz b13 2
      obtain ⟨d0, d1, d2⟩ := row3 b23
      have K3 := Lib.hid (And.intro (K2.out.1.trans' k3) b13)
      clear k3 b13 b23
      go_wp2_with fail
      have hh : (mayT ⟨s, u, (D : Int)⟩ && packU ⟨s, u, (D : Int)⟩ == x) = true := by rw [HMM.out, ← HP.out, HE.out]; simp
      have hi : isTag x = true := by rw [← HR.out]; exact hh
      refine bodyPost_ret (results_row_tmp rfl rfl (setRow3 K3.out.2) Tryz.underlying61 rfl (by kernel_rfl)) rfl ?_
      exact ⟨by rw [hi, ← HU.out hh]; rfl, keepsRow3 K3.out.1 (Nat.le_refl _) _ _ _⟩
    · have tst : ((p.toNat : Int) != (n : Int)) = true := by rw [HX.out]; exact (unlike_u64 hp).1
      have HE := Lib.hid hp
      clear hp
      go_enter Tryz.func114, Tryz.ntmps114
      go_wp2_with fail
      rw [← HW.out]
      refine HM.out.mono ?_
      rintro e w' ⟨rfl, rfl⟩
      rw [HMM.out]
      go_wp2_with fail
      refine HPK.out.mono ?_
      rintro e w3 ⟨rfl, k3⟩
      clear c0 c1 c2 f0 f1 f2 d0 d1 d2
      have b13 := k3.at K2.out.2.1 (fun e => e)
      obtain ⟨c0, c1, c2⟩ := row3 b13
      have f0 := frz b13 0
      have f1 := frz b13 1
      have f2 := frz b13 2
      have K3 := Lib.hid (And.intro (K2.out.1.trans' k3) b13)
      clear k3 b13
      go_wp2_with fail
      have hi : isTag x = false := by
        rw [← HR.out, HMM.out, ← HP.out]
        simpa using HE.out
      refine bodyPost_ret (results_row_tmp rfl rfl (setRow3 K3.out.2) Tryz.underlying61 rfl (by kernel_rfl)) rfl ?_
      exact ⟨by rw [hi, unpack_no hi]; rfl, keepsRow3 K3.out.1 (Nat.le_refl _) _ _ _⟩
end Go.Proofs.YtefpbljekfkefaaGreat

/- tag.in, tag.Read, and the document's. -/
namespace Go.Proofs.YtefpbljekfkefaaGreat
open Go.RowKit

set_option maxRecDepth 100000 in
set_option maxHeartbeats 1000000 in
theorem in_any {T : Value} {f : UInt64 → UInt64} {N : Nat} {w : World} (h : Reads T f N w) (off size : UInt64) (x y : Int) (hx : x = (off.toNat : Int)) (hy : y = (size.toNat : Int)) :
    Calls Tryz.prog 126 #[T, .int .u64 x, .int .u64 y] w fun e w' => e = .returned (.bool (inT (f 16) off size)) ∧ Keeps Nil w w' := by
  subst hx hy
  have HL := Lib.hid (hSize_any h)
  have HK := Lib.hid (Keeps.refl Nil w)
  obtain ⟨st, hst⟩ : ∃ st, st = (f 16).toNat := ⟨_, rfl⟩
  have hlt := (f 16).toNat_lt
  obtain ⟨a, ha⟩ : ∃ a, a = off.toNat := ⟨_, rfl⟩
  obtain ⟨z, hz⟩ : ∃ z, z = size.toNat := ⟨_, rfl⟩
  have ha2 : a < 18446744073709551616 := by rw [ha]; exact off.toNat_lt
  have hz2 : z < 18446744073709551616 := by rw [hz]; exact size.toNat_lt
  have hi : inT (f 16) off size = decide (a % 16 = 0 ∧ 3776 ≤ a ∧ a < st ∧ z ≤ st - a) := by rw [hst, ha, hz]; rfl
  rw [← hst] at HL hlt
  rw [hi, ← ha, ← hz]
  clear hi hst ha hz h
  have e1 : IntKind.u64.wrap ((a : Int) % 16) = (a : Int) % 16 := IntWalk.u64_in _ (by omega)
  have e2 : IntKind.u64.wrap ((a : Int).tmod 16) = (a : Int) % 16 := by rw [Int.tmod_eq_emod_of_nonneg (by omega)]; exact e1
  have HBB := Lib.hid (And.intro hlt (And.intro ha2 hz2))
  clear hlt ha2 hz2
  by_cases h0 : a % 16 = 0
  · have k0 : (a : Int) % 16 = 0 := by omega
    by_cases h1 : 3776 ≤ a
    · have k1 : (3776 : Int) ≤ (a : Int) := by omega
      by_cases h2 : a < st
      · have k2 : decide (a < st) = true := decide_eq_true h2
        have e3 : IntKind.u64.wrap ((st : Int) - (a : Int)) = (st : Int) - (a : Int) := IntWalk.u64_in _ (by have := HBB.out.1; omega)
        by_cases h3 : z ≤ st - a
        · have k3 : decide ((z : Int) ≤ (st : Int) - (a : Int)) = true := by rw [decide_eq_true_eq]; omega
          rw [decide_eq_true (by exact ⟨h0, h1, h2, h3⟩)]
          clear h0 h1 h2 h3
          go_enter Tryz.func126, Tryz.ntmps126
          go_wp2_with fail
          refine HL.out.mono ?_
          rintro e w1 ⟨rfl, k1⟩
          have K1 := Lib.hid k1
          clear k1
          go_wp2_with fail
          go_ret
          exact ⟨rfl, HK.out.trans' K1.out⟩
        · have k3 : decide ((z : Int) ≤ (st : Int) - (a : Int)) = false := by rw [decide_eq_false_iff_not]; omega
          rw [decide_eq_false (fun h => h3 h.2.2.2)]
          clear h0 h1 h2 h3
          go_enter Tryz.func126, Tryz.ntmps126
          go_wp2_with fail
          refine HL.out.mono ?_
          rintro e w1 ⟨rfl, k1⟩
          have K1 := Lib.hid k1
          clear k1
          go_wp2_with fail
          go_ret
          exact ⟨rfl, HK.out.trans' K1.out⟩
      · have k2 : decide (a < st) = false := decide_eq_false h2
        rw [decide_eq_false (fun h => h2 h.2.2.1)]
        clear h0 h1 h2
        go_enter Tryz.func126, Tryz.ntmps126
        go_wp2_with fail
        refine HL.out.mono ?_
        rintro e w1 ⟨rfl, k1⟩
        have K1 := Lib.hid k1
        clear k1
        go_wp2_with fail
        go_ret
        exact ⟨rfl, HK.out.trans' K1.out⟩
    · have k1 : ¬ (3776 : Int) ≤ (a : Int) := by omega
      rw [decide_eq_false (fun h => h1 h.2.1)]
      clear h0 h1
      go_enter Tryz.func126, Tryz.ntmps126
      go_wp2_with fail
      refine HL.out.mono ?_
      rintro e w1 ⟨rfl, k1⟩
      have K1 := Lib.hid k1
      clear k1
      go_wp2_with fail
      go_ret
      exact ⟨rfl, HK.out.trans' K1.out⟩
  · have k0 : ((a : Int) % 16 == 0) = false := by rw [beq_eq_false_iff_ne]; omega
    rw [decide_eq_false (fun h => h0 h.1)]
    clear h0
    go_enter Tryz.func126, Tryz.ntmps126
    go_wp2_with fail
    refine HL.out.mono ?_
    rintro e w1 ⟨rfl, k1⟩
    have K1 := Lib.hid k1
    clear k1
    go_wp2_with fail
    go_ret
    exact ⟨rfl, HK.out.trans' K1.out⟩
set_option maxRecDepth 100000 in
set_option maxHeartbeats 1000000 in
theorem rIn_any {A B : Value} {f : UInt64 → UInt64} {w : World} (h : RReads (.agg #[A, B]) f w) (off size : UInt64) (x y : Int) (hx : x = (off.toNat : Int)) (hy : y = (size.toNat : Int)) :
    Calls Tryz.prog 180 #[.agg #[A, B], .int .u64 x, .int .u64 y] w fun e w' => e = .returned (.bool (inT (f 16) off size)) ∧ Keeps Nil w w' := by
  subst hx hy
  have HL := Lib.hid (h.load (w.alloc (.cells #[A, B] 71)) ((Keeps.refl Nil w).alloc _) 16 16 (by rfl))
  have HK := Lib.hid ((Keeps.refl Nil w).alloc (.cells #[A, B] 71))
  obtain ⟨st, hst⟩ : ∃ st, st = (f 16).toNat := ⟨_, rfl⟩
  have hlt := (f 16).toNat_lt
  obtain ⟨a, ha⟩ : ∃ a, a = off.toNat := ⟨_, rfl⟩
  obtain ⟨z, hz⟩ : ∃ z, z = size.toNat := ⟨_, rfl⟩
  have ha2 : a < 18446744073709551616 := by rw [ha]; exact off.toNat_lt
  have hz2 : z < 18446744073709551616 := by rw [hz]; exact size.toNat_lt
  have hi : inT (f 16) off size = decide (a % 16 = 0 ∧ 3776 ≤ a ∧ a < st ∧ z ≤ st - a) := by rw [hst, ha, hz]; rfl
  rw [← hst] at HL hlt
  rw [hi, ← ha, ← hz]
  clear hi hst ha hz h
  have e1 : IntKind.u64.wrap ((a : Int) % 16) = (a : Int) % 16 := IntWalk.u64_in _ (by omega)
  have e2 : IntKind.u64.wrap ((a : Int).tmod 16) = (a : Int) % 16 := by rw [Int.tmod_eq_emod_of_nonneg (by omega)]; exact e1
  have HBB := Lib.hid (And.intro hlt (And.intro ha2 hz2))
  clear hlt ha2 hz2
  by_cases h0 : a % 16 = 0
  · have k0 : (a : Int) % 16 = 0 := by omega
    by_cases h1 : 3776 ≤ a
    · have k1 : (3776 : Int) ≤ (a : Int) := by omega
      by_cases h2 : a < st
      · have k2 : decide (a < st) = true := decide_eq_true h2
        have e3 : IntKind.u64.wrap ((st : Int) - (a : Int)) = (st : Int) - (a : Int) := IntWalk.u64_in _ (by have := HBB.out.1; omega)
        by_cases h3 : z ≤ st - a
        · have k3 : decide ((z : Int) ≤ (st : Int) - (a : Int)) = true := by rw [decide_eq_true_eq]; omega
          rw [decide_eq_true (by exact ⟨h0, h1, h2, h3⟩)]
          clear h0 h1 h2 h3
          go_enter Tryz.func180, Tryz.ntmps180
          go_wp2_with fail
          refine HL.out.mono ?_
          rintro e w1 ⟨rfl, k1⟩
          have K1 := Lib.hid k1
          clear k1
          go_wp2_with fail
          go_ret
          exact ⟨rfl, HK.out.trans' K1.out⟩
        · have k3 : decide ((z : Int) ≤ (st : Int) - (a : Int)) = false := by rw [decide_eq_false_iff_not]; omega
          rw [decide_eq_false (fun h => h3 h.2.2.2)]
          clear h0 h1 h2 h3
          go_enter Tryz.func180, Tryz.ntmps180
          go_wp2_with fail
          refine HL.out.mono ?_
          rintro e w1 ⟨rfl, k1⟩
          have K1 := Lib.hid k1
          clear k1
          go_wp2_with fail
          go_ret
          exact ⟨rfl, HK.out.trans' K1.out⟩
      · have k2 : decide (a < st) = false := decide_eq_false h2
        rw [decide_eq_false (fun h => h2 h.2.2.1)]
        clear h0 h1 h2
        go_enter Tryz.func180, Tryz.ntmps180
        go_wp2_with fail
        refine HL.out.mono ?_
        rintro e w1 ⟨rfl, k1⟩
        have K1 := Lib.hid k1
        clear k1
        go_wp2_with fail
        go_ret
        exact ⟨rfl, HK.out.trans' K1.out⟩
    · have k1 : ¬ (3776 : Int) ≤ (a : Int) := by omega
      rw [decide_eq_false (fun h => h1 h.2.1)]
      clear h0 h1
      go_enter Tryz.func180, Tryz.ntmps180
      go_wp2_with fail
      refine HL.out.mono ?_
      rintro e w1 ⟨rfl, k1⟩
      have K1 := Lib.hid k1
      clear k1
      go_wp2_with fail
      go_ret
      exact ⟨rfl, HK.out.trans' K1.out⟩
  · have k0 : ((a : Int) % 16 == 0) = false := by rw [beq_eq_false_iff_ne]; omega
    rw [decide_eq_false (fun h => h0 h.1)]
    clear h0
    go_enter Tryz.func180, Tryz.ntmps180
    go_wp2_with fail
    refine HL.out.mono ?_
    rintro e w1 ⟨rfl, k1⟩
    have K1 := Lib.hid k1
    clear k1
    go_wp2_with fail
    go_ret
    exact ⟨rfl, HK.out.trans' K1.out⟩
end Go.Proofs.YtefpbljekfkefaaGreat

/- tag.Read, and the document's. -/
namespace Go.Proofs.YtefpbljekfkefaaGreat
open Go.RowKit

theorem readT_yes {f : UInt64 → UInt64} {off : UInt64} (h : readB f off = true) : readT f off = unpackT (f off) := if_pos h
theorem readT_no {f : UInt64 → UInt64} {off : UInt64} (h : readB f off = false) : readT f off = TagV.zero := if_neg (by rw [h]; decide)
theorem codeOf_true : codeOf true = 0 := rfl
theorem codeOf_false : codeOf false = 12 := rfl
theorem last_eq (a s : UInt64) : IntKind.u64.wrap (IntKind.u64.wrap ((a.toNat : Int) + (s.toNat : Int)) - 8) = ((a + s - 8).toNat : Int) := by
  rw [u64_add]; exact u64_sub (a + s) 8
theorem add_eq (a s : UInt64) : IntKind.u64.wrap ((a.toNat : Int) + (s.toNat : Int)) = ((a + s).toNat : Int) := u64_add a s
theorem sub8_eq (a : UInt64) : IntKind.u64.wrap ((a.toNat : Int) - 8) = ((a - 8).toNat : Int) := u64_sub a 8

set_option maxRecDepth 100000 in
set_option maxHeartbeats 4000000 in
theorem Read_any {T : Value} {f : UInt64 → UInt64} {N : Nat} {w : World} (h : Reads T f N w) (off : UInt64) (x : Int) (hx : x = (off.toNat : Int)) :
    Calls Tryz.prog 64 #[T, .int .u64 x] w fun e w' => e = .returned (.tuple #[.agg (readT f off).cells, .int .i64 (codeOf (readB f off))]) ∧ Keeps Nil w w' := by
  subst hx
  have H := Lib.hid h
  obtain ⟨B, hB⟩ : ∃ B, B = w.heap.size := ⟨_, rfl⟩
  obtain ⟨w0, hw0⟩ : ∃ w0, w0 = w.alloc (.cells #[.int .u64 0, .bool false, .int .i64 0] 35) := ⟨_, rfl⟩
  have hk0 : Keeps Nil w w0 := by rw [hw0]; exact (Keeps.refl Nil w).alloc _
  have hb0 : w0.heap[B]? = some (.cells #[.int .u64 0, .bool false, .int .i64 0] 35 (0, 0)) := by rw [hw0, hB]; exact heap_new w _
  obtain ⟨s, u, o, hu⟩ : ∃ s u o, unpackT (f off) = ⟨s, u, o⟩ := ⟨_, _, _, rfl⟩
  obtain ⟨b, hb⟩ : ∃ b, b = readB f off := ⟨_, rfl⟩
  obtain ⟨g, hg⟩ : ∃ g, g = readT f off := ⟨_, rfl⟩
  have hrb : readB f off = (isTag (f off) && inT (f 16) off s && f (off + s - 8) == f off) := by unfold readB; rw [hu]
  rw [← hb, ← hg]
  obtain ⟨v, hv⟩ : ∃ v, v = f off := ⟨_, rfl⟩
  obtain ⟨v2, hv2⟩ : ∃ v2, v2 = f (off + s - 8) := ⟨_, rfl⟩
  obtain ⟨y1, hy1⟩ : ∃ y, y = off + s := ⟨_, rfl⟩
  obtain ⟨y2, hy2⟩ : ∃ y, y = off + s - 8 := ⟨_, rfl⟩
  have q1 := add_eq off s
  have q2 := sub8_eq (off + s)
  rw [← hy1] at q1 q2
  rw [← hy1] at hy2
  rw [← hy2] at q2
  rw [← hy1, ← hy2] at hrb hv2
  have HU := Lib.hid (And.intro hu (And.intro hv (And.intro hv2 (And.intro hw0 (And.intro hB (And.intro hk0 (And.intro hb0 (And.intro hb (And.intro hg hrb)))))))))
  have HL := Lib.hid (h.load w0 hk0 off _ rfl)
  have HF := Lib.hid (And.intro q1 q2)
  rw [← hv] at HL hrb hu
  rw [← hv2] at hrb
  have HRB := Lib.hid hrb
  have HUU := Lib.hid hu
  clear h hu hv hv2 hw0 hB hk0 hb0 hb hg hrb q1 q2 hy1 hy2
  have hw0 := HU.out.2.2.2.1
  have hB := HU.out.2.2.2.2.1
  have hk0 := HU.out.2.2.2.2.2.1
  have hb0 := HU.out.2.2.2.2.2.2.1
  have HW0 := Lib.hid hw0
  have HB := Lib.hid hB
  have K0 := Lib.hid (And.intro hk0 hb0)
  clear hw0 hB hk0 hb0
  cases hi : isTag v with
  | false =>
    have HI := Lib.hid hi
    clear hi
    go_enter Tryz.func64, Tryz.ntmps64
    go_wp2_with fail
    rw [← HW0.out, ← HB.out]
    refine HL.out.mono ?_
    rintro e w1 ⟨rfl, k1⟩
    have K1 := Lib.hid k1
    clear k1
    go_wp2_with fail
    refine (Unpack_any w1 v).mono ?_
    rintro e w2 ⟨rfl, k2⟩
    rw [HUU.out, TagV.cells_def, HI.out]
    have hb2 := (K1.out.trans' k2).at K0.out.2 (fun e => e)
    obtain ⟨c0, c1, c2⟩ := row3 hb2
    have f0 := frz hb2 0
    have f1 := frz hb2 1
    have f2 := frz hb2 2
    have hlt : B < w2.heap.size := getElem?_lt hb2
    have K2 := Lib.hid (And.intro (K1.out.trans' k2) hb2)
    clear k2 hb2
    go_wp2_with fail
    refine bodyPost_ret (results_row_tmp rfl rfl (heap_old _ _ (setRow3 K2.out.2)) Tryz.underlying35 rfl (by kernel_rfl)) rfl ?_
    have hbf : b = false := by rw [HU.out.2.2.2.2.2.2.2.1, HU.out.2.2.2.2.2.2.2.2.2, ← HU.out.2.1]; simp [HI.out]
    have hgz : g = TagV.zero := by rw [HU.out.2.2.2.2.2.2.2.2.1]; exact readT_no (by rw [← HU.out.2.2.2.2.2.2.2.1]; exact hbf)
    refine ⟨by rw [hbf, hgz]; rfl, (keepsRow3 (K0.out.1.trans' K2.out.1) (by rw [HB.out]; exact Nat.le_refl _) _ _ _).alloc _⟩
  | true =>
    have HI := Lib.hid hi
    clear hi
    cases hn : inT (f 16) off s with
    | false =>
      have HN := Lib.hid hn
      clear hn
      go_enter Tryz.func64, Tryz.ntmps64
      go_wp2_with fail
      rw [← HW0.out, ← HB.out]
      refine HL.out.mono ?_
      rintro e w1 ⟨rfl, k1⟩
      have K1 := Lib.hid k1
      clear k1
      go_wp2_with fail
      refine (Unpack_any w1 v).mono ?_
      rintro e w2 ⟨rfl, k2⟩
      rw [HUU.out, TagV.cells_def, HI.out]
      have hb2 := (K1.out.trans' k2).at K0.out.2 (fun e => e)
      obtain ⟨c0, c1, c2⟩ := row3 hb2
      have f0 := frz hb2 0
      have f1 := frz hb2 1
      have f2 := frz hb2 2
      have hlt : B < w2.heap.size := getElem?_lt hb2
      have K2 := Lib.hid (And.intro (K1.out.trans' k2) hb2)
      clear k2 hb2
      obtain ⟨w3, hw3⟩ : ∃ w3, w3 = w2.alloc (.cells #[.int .u64 (s.toNat : Int), .bool u, .int .i64 o] 35) := ⟨_, rfl⟩
      have hk3 : Keeps Nil w2 w3 := by rw [hw3]; exact (Keeps.refl Nil w2).alloc _
      have hb3 : w3.heap[w2.heap.size]? = some (.cells #[.int .u64 (s.toNat : Int), .bool u, .int .i64 o] 35 (0, 0)) := by rw [hw3]; exact heap_new w2 _
      have K3 := Lib.hid (And.intro (K2.out.1.trans' hk3) (And.intro hb3 (hk3.at K2.out.2 (fun e => e))))
      have HW3 := Lib.hid hw3
      clear hk3 hb3 hw3
      go_wp2_with fail
      rw [← HW3.out]
      refine (in_any (H.out.keeps (K0.out.1.trans' K3.out.1)) off s _ _ rfl rfl).mono ?_
      rintro e w4 ⟨rfl, k4⟩
      rw [HN.out]
      have hb4 := k4.at K3.out.2.2 (fun e => e)
      have hs4 := k4.at K3.out.2.1 (fun e => e)
      clear c0 c1 c2 f0 f1 f2
      obtain ⟨c0, c1, c2⟩ := row3 hb4
      have f0 := frz hb4 0
      have f1 := frz hb4 1
      have f2 := frz hb4 2
      obtain ⟨d0, d1, d2⟩ := row3 hs4
      have K4 := Lib.hid (And.intro (K3.out.1.trans' k4) (And.intro hs4 hb4))
      clear k4 hb4 hs4
      go_wp2_with fail
      refine bodyPost_ret (results_row_tmp rfl rfl (setRow3 K4.out.2.2) Tryz.underlying35 rfl (by kernel_rfl)) rfl ?_
      have hbf : b = false := by rw [HU.out.2.2.2.2.2.2.2.1, HU.out.2.2.2.2.2.2.2.2.2, ← HU.out.2.1]; simp [HI.out, HN.out]
      have hgz : g = TagV.zero := by rw [HU.out.2.2.2.2.2.2.2.2.1]; exact readT_no (by rw [← HU.out.2.2.2.2.2.2.2.1]; exact hbf)
      refine ⟨by rw [hbf, hgz]; rfl, keepsRow3 (K0.out.1.trans' K4.out.1) (by rw [HB.out]; exact Nat.le_refl _) _ _ _⟩
    | true =>
      have HN := Lib.hid hn
      clear hn
      by_cases hlast : v2 = v
      · have tst := (same_u64 hlast).1
        have HE := Lib.hid hlast
        clear hlast
        have q1 := HF.out.1
        have q2 := HF.out.2
        go_enter Tryz.func64, Tryz.ntmps64
        go_wp2_with fail
        rw [← HW0.out, ← HB.out]
        refine HL.out.mono ?_
        rintro e w1 ⟨rfl, k1⟩
        have K1 := Lib.hid k1
        clear k1
        go_wp2_with fail
        refine (Unpack_any w1 v).mono ?_
        rintro e w2 ⟨rfl, k2⟩
        rw [HUU.out, TagV.cells_def, HI.out]
        have hb2 := (K1.out.trans' k2).at K0.out.2 (fun e => e)
        obtain ⟨c0, c1, c2⟩ := row3 hb2
        have f0 := frz hb2 0
        have f1 := frz hb2 1
        have f2 := frz hb2 2
        have hlt : B < w2.heap.size := getElem?_lt hb2
        have K2 := Lib.hid (And.intro (K1.out.trans' k2) hb2)
        clear k2 hb2
        obtain ⟨w3, hw3⟩ : ∃ w3, w3 = w2.alloc (.cells #[.int .u64 (s.toNat : Int), .bool u, .int .i64 o] 35) := ⟨_, rfl⟩
        have hk3 : Keeps Nil w2 w3 := by rw [hw3]; exact (Keeps.refl Nil w2).alloc _
        have hb3 : w3.heap[w2.heap.size]? = some (.cells #[.int .u64 (s.toNat : Int), .bool u, .int .i64 o] 35 (0, 0)) := by rw [hw3]; exact heap_new w2 _
        have K3 := Lib.hid (And.intro (K2.out.1.trans' hk3) (And.intro hb3 (hk3.at K2.out.2 (fun e => e))))
        have HW3 := Lib.hid hw3
        clear hk3 hb3 hw3
        go_wp2_with fail
        rw [← HW3.out]
        refine (in_any (H.out.keeps (K0.out.1.trans' K3.out.1)) off s _ _ rfl rfl).mono ?_
        rintro e w4 ⟨rfl, k4⟩
        rw [HN.out]
        have hb4 := k4.at K3.out.2.2 (fun e => e)
        have hs4 := k4.at K3.out.2.1 (fun e => e)
        clear c0 c1 c2 f0 f1 f2
        obtain ⟨c0, c1, c2⟩ := row3 hb4
        have f0 := frz hb4 0
        have f1 := frz hb4 1
        have f2 := frz hb4 2
        obtain ⟨d0, d1, d2⟩ := row3 hs4
        have K4 := Lib.hid (And.intro (K3.out.1.trans' k4) (And.intro hs4 hb4))
        clear k4 hb4 hs4
        go_wp2_with fail
        refine (H.out.load _ (K0.out.1.trans' K4.out.1) y2 _ rfl).mono ?_
        rintro e w5 ⟨rfl, k5⟩
        rw [← HU.out.2.2.1]
        have hb5 := k5.at K4.out.2.2 (fun e => e)
        have hs5 := k5.at K4.out.2.1 (fun e => e)
        clear c0 c1 c2 f0 f1 f2 d0 d1 d2
        obtain ⟨c0, c1, c2⟩ := row3 hb5
        have f0 := frz hb5 0
        have f1 := frz hb5 1
        have f2 := frz hb5 2
        obtain ⟨d0, d1, d2⟩ := row3 hs5
        have K5 := Lib.hid (And.intro (K4.out.1.trans' k5) hb5)
        clear k5 hb5 hs5
        go_wp2_with fail
        refine bodyPost_ret (results_row_tmp rfl rfl (setRow3 K5.out.2) Tryz.underlying35 rfl (by kernel_rfl)) rfl ?_
        have hbf : b = true := by rw [HU.out.2.2.2.2.2.2.2.1, HU.out.2.2.2.2.2.2.2.2.2, ← HU.out.2.1, ← HU.out.2.2.1]; simp [HI.out, HN.out, HE.out]
        have hgz : g = ⟨s, u, o⟩ := by rw [HU.out.2.2.2.2.2.2.2.2.1, readT_yes (by rw [← HU.out.2.2.2.2.2.2.2.1]; exact hbf), ← HU.out.2.1]; exact HUU.out
        refine ⟨by rw [hbf, hgz]; rfl, keepsRow3 (K0.out.1.trans' K5.out.1) (by rw [HB.out]; exact Nat.le_refl _) _ _ _⟩
      · have tst := (unlike_u64 hlast).1
        have HE := Lib.hid hlast
        clear hlast
        have q1 := HF.out.1
        have q2 := HF.out.2
        go_enter Tryz.func64, Tryz.ntmps64
        go_wp2_with fail
        rw [← HW0.out, ← HB.out]
        refine HL.out.mono ?_
        rintro e w1 ⟨rfl, k1⟩
        have K1 := Lib.hid k1
        clear k1
        go_wp2_with fail
        refine (Unpack_any w1 v).mono ?_
        rintro e w2 ⟨rfl, k2⟩
        rw [HUU.out, TagV.cells_def, HI.out]
        have hb2 := (K1.out.trans' k2).at K0.out.2 (fun e => e)
        obtain ⟨c0, c1, c2⟩ := row3 hb2
        have f0 := frz hb2 0
        have f1 := frz hb2 1
        have f2 := frz hb2 2
        have hlt : B < w2.heap.size := getElem?_lt hb2
        have K2 := Lib.hid (And.intro (K1.out.trans' k2) hb2)
        clear k2 hb2
        obtain ⟨w3, hw3⟩ : ∃ w3, w3 = w2.alloc (.cells #[.int .u64 (s.toNat : Int), .bool u, .int .i64 o] 35) := ⟨_, rfl⟩
        have hk3 : Keeps Nil w2 w3 := by rw [hw3]; exact (Keeps.refl Nil w2).alloc _
        have hb3 : w3.heap[w2.heap.size]? = some (.cells #[.int .u64 (s.toNat : Int), .bool u, .int .i64 o] 35 (0, 0)) := by rw [hw3]; exact heap_new w2 _
        have K3 := Lib.hid (And.intro (K2.out.1.trans' hk3) (And.intro hb3 (hk3.at K2.out.2 (fun e => e))))
        have HW3 := Lib.hid hw3
        clear hk3 hb3 hw3
        go_wp2_with fail
        rw [← HW3.out]
        refine (in_any (H.out.keeps (K0.out.1.trans' K3.out.1)) off s _ _ rfl rfl).mono ?_
        rintro e w4 ⟨rfl, k4⟩
        rw [HN.out]
        have hb4 := k4.at K3.out.2.2 (fun e => e)
        have hs4 := k4.at K3.out.2.1 (fun e => e)
        clear c0 c1 c2 f0 f1 f2
        obtain ⟨c0, c1, c2⟩ := row3 hb4
        have f0 := frz hb4 0
        have f1 := frz hb4 1
        have f2 := frz hb4 2
        obtain ⟨d0, d1, d2⟩ := row3 hs4
        have K4 := Lib.hid (And.intro (K3.out.1.trans' k4) (And.intro hs4 hb4))
        clear k4 hb4 hs4
        go_wp2_with fail
        refine (H.out.load _ (K0.out.1.trans' K4.out.1) y2 _ rfl).mono ?_
        rintro e w5 ⟨rfl, k5⟩
        rw [← HU.out.2.2.1]
        have hb5 := k5.at K4.out.2.2 (fun e => e)
        have hs5 := k5.at K4.out.2.1 (fun e => e)
        clear c0 c1 c2 f0 f1 f2 d0 d1 d2
        obtain ⟨c0, c1, c2⟩ := row3 hb5
        have f0 := frz hb5 0
        have f1 := frz hb5 1
        have f2 := frz hb5 2
        obtain ⟨d0, d1, d2⟩ := row3 hs5
        have K5 := Lib.hid (And.intro (K4.out.1.trans' k5) hb5)
        clear k5 hb5 hs5
        go_wp2_with fail
        refine bodyPost_ret (results_row_tmp rfl rfl (setRow3 K5.out.2) Tryz.underlying35 rfl (by kernel_rfl)) rfl ?_
        have hbf : b = false := by rw [HU.out.2.2.2.2.2.2.2.1, HU.out.2.2.2.2.2.2.2.2.2, ← HU.out.2.1]; rw [← HU.out.2.2.1]; simp [HI.out, HN.out, HE.out]
        have hgz : g = TagV.zero := by rw [HU.out.2.2.2.2.2.2.2.2.1]; exact readT_no (by rw [← HU.out.2.2.2.2.2.2.2.1]; exact hbf)
        refine ⟨by rw [hbf, hgz]; rfl, keepsRow3 (K0.out.1.trans' K5.out.1) (by rw [HB.out]; exact Nat.le_refl _) _ _ _⟩
end Go.Proofs.YtefpbljekfkefaaGreat
