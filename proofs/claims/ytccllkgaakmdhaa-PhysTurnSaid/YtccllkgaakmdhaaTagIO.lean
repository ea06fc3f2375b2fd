/- tag.in, tag.Read, and the document's. -/
import Derived.Test.YtccllkgaakmdhaaTagUR
import Derived.Test.YtccllkgaakmdhaaHeadC
import Derived.Test.YtccllkgaakmdhaaRReads
namespace Go.Proofs.Ytccllkgaakmdhaa
open Go.RowKit

set_option maxRecDepth 100000 in
set_option maxHeartbeats 1000000 in
theorem in_any {T : Value} {f : UInt64 → UInt64} {N : Nat} {w : World} (h : Reads T f N w) (off size : UInt64) (x y : Int) (hx : x = (off.toNat : Int)) (hy : y = (size.toNat : Int)) :
    Calls Try.prog 101 #[T, .int .u64 x, .int .u64 y] w fun e w' => e = .returned (.bool (inT (f 16) off size)) ∧ Keeps Nil w w' := by
  subst hx hy
  have HL := Lib.hid (hSize_any h)
  have HK := Lib.hid (Keeps.refl Nil w)
  obtain ⟨st, hst⟩ : ∃ st, st = (f 16).toNat := ⟨_, rfl⟩
  have hlt := (f 16).toNat_lt
  obtain ⟨a, ha⟩ : ∃ a, a = off.toNat := ⟨_, rfl⟩
  obtain ⟨z, hz⟩ : ∃ z, z = size.toNat := ⟨_, rfl⟩
  have ha2 : a < 18446744073709551616 := by rw [ha]; exact off.toNat_lt
  have hz2 : z < 18446744073709551616 := by rw [hz]; exact size.toNat_lt
  have hi : inT (f 16) off size = decide (a % 16 = 0 ∧ 3776 ≤ a ∧ a < st ∧ z ≤ st - a) := by rw [hst, ha, hz]; rfl
  rw [← hst] at HL hlt
  rw [hi, ← ha, ← hz]
  clear hi hst ha hz h
  have e1 : IntKind.u64.wrap ((a : Int) % 16) = (a : Int) % 16 := IntWalk.u64_in _ (by omega)
  have e2 : IntKind.u64.wrap ((a : Int).tmod 16) = (a : Int) % 16 := by rw [Int.tmod_eq_emod_of_nonneg (by omega)]; exact e1
  have HBB := Lib.hid (And.intro hlt (And.intro ha2 hz2))
  clear hlt ha2 hz2
  by_cases h0 : a % 16 = 0
  · have k0 : (a : Int) % 16 = 0 := by omega
    by_cases h1 : 3776 ≤ a
    · have k1 : (3776 : Int) ≤ (a : Int) := by omega
      by_cases h2 : a < st
      · have k2 : decide (a < st) = true := decide_eq_true h2
        have e3 : IntKind.u64.wrap ((st : Int) - (a : Int)) = (st : Int) - (a : Int) := IntWalk.u64_in _ (by have := HBB.out.1; omega)
        by_cases h3 : z ≤ st - a
        · have k3 : decide ((z : Int) ≤ (st : Int) - (a : Int)) = true := by rw [decide_eq_true_eq]; omega
          rw [decide_eq_true (by exact ⟨h0, h1, h2, h3⟩)]
          clear h0 h1 h2 h3
          go_enter Try.func101, Try.ntmps101
          go_wp2_with fail
          refine HL.out.mono ?_
          rintro e w1 ⟨rfl, k1⟩
          have K1 := Lib.hid k1
          clear k1
          go_wp2_with fail
          go_ret
          exact ⟨rfl, HK.out.trans' K1.out⟩
        · have k3 : decide ((z : Int) ≤ (st : Int) - (a : Int)) = false := by rw [decide_eq_false_iff_not]; omega
          rw [decide_eq_false (fun h => h3 h.2.2.2)]
          clear h0 h1 h2 h3
          go_enter Try.func101, Try.ntmps101
          go_wp2_with fail
          refine HL.out.mono ?_
          rintro e w1 ⟨rfl, k1⟩
          have K1 := Lib.hid k1
          clear k1
          go_wp2_with fail
          go_ret
          exact ⟨rfl, HK.out.trans' K1.out⟩
      · have k2 : decide (a < st) = false := decide_eq_false h2
        rw [decide_eq_false (fun h => h2 h.2.2.1)]
        clear h0 h1 h2
        go_enter Try.func101, Try.ntmps101
        go_wp2_with fail
        refine HL.out.mono ?_
        rintro e w1 ⟨rfl, k1⟩
        have K1 := Lib.hid k1
        clear k1
        go_wp2_with fail
        go_ret
        exact ⟨rfl, HK.out.trans' K1.out⟩
    · have k1 : ¬ (3776 : Int) ≤ (a : Int) := by omega
      rw [decide_eq_false (fun h => h1 h.2.1)]
      clear h0 h1
      go_enter Try.func101, Try.ntmps101
      go_wp2_with fail
      refine HL.out.mono ?_
      rintro e w1 ⟨rfl, k1⟩
      have K1 := Lib.hid k1
      clear k1
      go_wp2_with fail
      go_ret
      exact ⟨rfl, HK.out.trans' K1.out⟩
  · have k0 : ((a : Int) % 16 == 0) = false := by rw [beq_eq_false_iff_ne]; omega
    rw [decide_eq_false (fun h => h0 h.1)]
    clear h0
    go_enter Try.func101, Try.ntmps101
    go_wp2_with fail
    refine HL.out.mono ?_
    rintro e w1 ⟨rfl, k1⟩
    have K1 := Lib.hid k1
    clear k1
    go_wp2_with fail
    go_ret
    exact ⟨rfl, HK.out.trans' K1.out⟩
set_option maxRecDepth 100000 in
set_option maxHeartbeats 1000000 in
theorem rIn_any {A B : Value} {f : UInt64 → UInt64} {w : World} (h : RReads (.agg #[A, B]) f w) (off size : UInt64) (x y : Int) (hx : x = (off.toNat : Int)) (hy : y = (size.toNat : Int)) :
    Calls Try.prog 102 #[.agg #[A, B], .int .u64 x, .int .u64 y] w fun e w' => e = .returned (.bool (inT (f 16) off size)) ∧ Keeps Nil w w' := by
  subst hx hy
  have HL := Lib.hid (h.load (w.alloc (.cells #[A, B] 28)) ((Keeps.refl Nil w).alloc _) 16 16 (by rfl))
  have HK := Lib.hid ((Keeps.refl Nil w).alloc (.cells #[A, B] 28))
  obtain ⟨st, hst⟩ : ∃ st, st = (f 16).toNat := ⟨_, rfl⟩
  have hlt := (f 16).toNat_lt
  obtain ⟨a, ha⟩ : ∃ a, a = off.toNat := ⟨_, rfl⟩
  obtain ⟨z, hz⟩ : ∃ z, z = size.toNat := ⟨_, rfl⟩
  have ha2 : a < 18446744073709551616 := by rw [ha]; exact off.toNat_lt
  have hz2 : z < 18446744073709551616 := by rw [hz]; exact size.toNat_lt
  have hi : inT (f 16) off size = decide (a % 16 = 0 ∧ 3776 ≤ a ∧ a < st ∧ z ≤ st - a) := by rw [hst, ha, hz]; rfl
  rw [← hst] at HL hlt
  rw [hi, ← ha, ← hz]
  clear hi hst ha hz h
  have e1 : IntKind.u64.wrap ((a : Int) % 16) = (a : Int) % 16 := IntWalk.u64_in _ (by omega)
  have e2 : IntKind.u64.wrap ((a : Int).tmod 16) = (a : Int) % 16 := by rw [Int.tmod_eq_emod_of_nonneg (by omega)]; exact e1
  have HBB := Lib.hid (And.intro hlt (And.intro ha2 hz2))
  clear hlt ha2 hz2
  by_cases h0 : a % 16 = 0
  · have k0 : (a : Int) % 16 = 0 := by omega
    by_cases h1 : 3776 ≤ a
    · have k1 : (3776 : Int) ≤ (a : Int) := by omega
      by_cases h2 : a < st
      · have k2 : decide (a < st) = true := decide_eq_true h2
        have e3 : IntKind.u64.wrap ((st : Int) - (a : Int)) = (st : Int) - (a : Int) := IntWalk.u64_in _ (by have := HBB.out.1; omega)
        by_cases h3 : z ≤ st - a
        · have k3 : decide ((z : Int) ≤ (st : Int) - (a : Int)) = true := by rw [decide_eq_true_eq]; omega
          rw [decide_eq_true (by exact ⟨h0, h1, h2, h3⟩)]
          clear h0 h1 h2 h3
          go_enter Try.func102, Try.ntmps102
          go_wp2_with fail
          refine HL.out.mono ?_
          rintro e w1 ⟨rfl, k1⟩
          have K1 := Lib.hid k1
          clear k1
          go_wp2_with fail
          go_ret
          exact ⟨rfl, HK.out.trans' K1.out⟩
        · have k3 : decide ((z : Int) ≤ (st : Int) - (a : Int)) = false := by rw [decide_eq_false_iff_not]; omega
          rw [decide_eq_false (fun h => h3 h.2.2.2)]
          clear h0 h1 h2 h3
          go_enter Try.func102, Try.ntmps102
          go_wp2_with fail
          refine HL.out.mono ?_
          rintro e w1 ⟨rfl, k1⟩
          have K1 := Lib.hid k1
          clear k1
          go_wp2_with fail
          go_ret
          exact ⟨rfl, HK.out.trans' K1.out⟩
      · have k2 : decide (a < st) = false := decide_eq_false h2
        rw [decide_eq_false (fun h => h2 h.2.2.1)]
        clear h0 h1 h2
        go_enter Try.func102, Try.ntmps102
        go_wp2_with fail
        refine HL.out.mono ?_
        rintro e w1 ⟨rfl, k1⟩
        have K1 := Lib.hid k1
        clear k1
        go_wp2_with fail
        go_ret
        exact ⟨rfl, HK.out.trans' K1.out⟩
    · have k1 : ¬ (3776 : Int) ≤ (a : Int) := by omega
      rw [decide_eq_false (fun h => h1 h.2.1)]
      clear h0 h1
      go_enter Try.func102, Try.ntmps102
      go_wp2_with fail
      refine HL.out.mono ?_
      rintro e w1 ⟨rfl, k1⟩
      have K1 := Lib.hid k1
      clear k1
      go_wp2_with fail
      go_ret
      exact ⟨rfl, HK.out.trans' K1.out⟩
  · have k0 : ((a : Int) % 16 == 0) = false := by rw [beq_eq_false_iff_ne]; omega
    rw [decide_eq_false (fun h => h0 h.1)]
    clear h0
    go_enter Try.func102, Try.ntmps102
    go_wp2_with fail
    refine HL.out.mono ?_
    rintro e w1 ⟨rfl, k1⟩
    have K1 := Lib.hid k1
    clear k1
    go_wp2_with fail
    go_ret
    exact ⟨rfl, HK.out.trans' K1.out⟩
end Go.Proofs.Ytccllkgaakmdhaa
