/- WordN, PhysOne, ReadsK: written short. -/
import Derived.Laws.Externs
import Derived.Test.YtefpbljekfkefaaGreatS05
import Derived.Test.YtefpbljekfkefaaGreatS01
import Derived.Test.YtefpbljekfkefaaGreatS06
set_option maxRecDepth 100000
set_option maxHeartbeats 8000000
namespace Go.Proofs.YtefpbljekfkefaaGreat
section
open Go.RowKit
def addB (a b : UInt64) : Bool := decide (a.toNat + b.toNat < 18446744073709551616)
def addU (a b : UInt64) : UInt64 := if addB a b then a + b else 0
theorem addU_yes {a b : UInt64} (h : addB a b = true) : addU a b = a + b ∧ (a + b).toNat = a.toNat + b.toNat := by
 have h' : a.toNat + b.toNat < 18446744073709551616 := of_decide_eq_true h
 exact ⟨if_pos h, by rw [UInt64.toNat_add]; omega⟩
theorem addU_no {a b : UInt64} (h : addB a b = false) : addU a b = 0 := if_neg (by rw [h]; decide)
theorem add64_run (x y : Nat) (hx : x < 18446744073709551616) (hy : y < 18446744073709551616) (w : World) :
  (callFunc 148 #[.int .u64 (x : Int), .int .u64 (y : Int), .int .u64 0]).run Tryz.prog w =
   .ok (.value (.tuple #[.int .u64 (((x + y) % 18446744073709551616 : Nat) : Int), .int .u64 (((x + y) / 18446744073709551616 : Nat) : Int)])) w := by
 rw [run_callFunc_extern Tryz.func148 (by kernel_rfl) (by kernel_rfl) (by kernel_rfl) (e := add64Entry) (by kernel_rfl), run_add64 x y 0 (by omega) (by omega) (by omega) (by omega)]
 simp only [Result.andThen]
 congr 5 <;> omega
theorem wAdd_any (w : World) (a b : UInt64) (x y : Int) (hx : x = (a.toNat : Int)) (hy : y = (b.toNat : Int)) :
   Calls Tryz.prog 96 #[.int .u64 x, .int .u64 y] w fun e w' => e = .returned (.tuple #[.int .u64 ((addU a b).toNat : Int), .bool (addB a b)]) ∧ w = w' := by
 subst hx hy
 have hr := add64_run a.toNat b.toNat a.toNat_lt b.toNat_lt
 cases hb : addB a b with
 | true =>
   obtain ⟨h1, h2⟩ := addU_yes hb
   have h3 : a.toNat + b.toNat < 18446744073709551616 := of_decide_eq_true hb
   obtain ⟨s, hs⟩ : ∃ s, s = (addU a b).toNat := ⟨_, rfl⟩
   rw [Nat.mod_eq_of_lt h3, Nat.div_eq_of_lt h3, ← h2, ← h1, ← hs] at hr
   rw [← hs]
   clear hb h1 h2 h3 hs
   go_enter Tryz.func96, Tryz.ntmps96
   go_wp2_with fail
   go_ret2
   exact ⟨rfl, rfl⟩
 | false =>
   have h3 : ¬ a.toNat + b.toNat < 18446744073709551616 := of_decide_eq_false hb
   have h4 : (a.toNat + b.toNat) / 18446744073709551616 = 1 := by have := a.toNat_lt; have := b.toNat_lt; omega
   obtain ⟨s, hs⟩ : ∃ s, s = (a.toNat + b.toNat) % 18446744073709551616 := ⟨_, rfl⟩
   rw [h4, ← hs] at hr
   rw [addU_no hb]
   clear hb h3 h4 hs
   go_enter Tryz.func96, Tryz.ntmps96
   go_wp2_with fail
   go_ret2
   exact ⟨rfl, rfl⟩
theorem rAdd_any (w : World) (a b : UInt64) (x y : Int) (hx : x = (a.toNat : Int)) (hy : y = (b.toNat : Int)) :
   Calls Tryz.prog 91 #[.int .u64 x, .int .u64 y] w fun e w' => e = .returned (.tuple #[.int .u64 ((addU a b).toNat : Int), .bool (addB a b)]) ∧ w = w' := by
 subst hx hy
 have ha := a.toNat_lt
 have hbb := b.toNat_lt
 obtain ⟨c, hc⟩ : ∃ c, c = 18446744073709551615 - a.toNat := ⟨_, rfl⟩
 have e1 : IntKind.u64.wrap (18446744073709551615 - (a.toNat : Int)) = (c : Int) := by rw [IntWalk.u64_in _ (by omega)]; omega
 cases hb : addB a b with
 | true =>
   obtain ⟨h1, h2⟩ := addU_yes hb
   have h3 : a.toNat + b.toNat < 18446744073709551616 := of_decide_eq_true hb
   obtain ⟨s, hs⟩ : ∃ s, s = (addU a b).toNat := ⟨_, rfl⟩
   have e2 : IntKind.u64.wrap ((a.toNat : Int) + (b.toNat : Int)) = (s : Int) := by rw [IntWalk.u64_in _ (by omega)]; rw [hs, h1, h2]; simp
   have t1 : decide (c < b.toNat) = false := decide_eq_false (by omega)
   rw [← hs]
   clear hb h1 h2 h3 hs ha hbb hc
   go_enter Tryz.func91, Tryz.ntmps91
   go_wp2_with fail
   go_ret2
   exact ⟨rfl, rfl⟩
 | false =>
   have h3 : ¬ a.toNat + b.toNat < 18446744073709551616 := of_decide_eq_false hb
   have t1 : decide (c < b.toNat) = true := decide_eq_true (by omega)
   rw [addU_no hb]
   clear hb h3 ha hbb hc
   go_enter Tryz.func91, Tryz.ntmps91
   go_wp2_with fail
   go_ret2
   exact ⟨rfl, rfl⟩
theorem and_low (x k : Nat) : x &&& (2 ^ k - 1) = x % 2 ^ k := Nat.and_two_pow_sub_one_eq_mod x k
theorem and_high (x k : Nat) (hx : x < 2 ^ 64) (hk : k ≤ 64) : x &&& (2 ^ 64 - 2 ^ k) = x - x % 2 ^ k := by
 have e1 : 2 ^ 64 - 2 ^ k = (2 ^ (64 - k) - 1) <<< k := by
  rw [Nat.shiftLeft_eq, Nat.sub_mul, ← Nat.pow_add, Nat.sub_add_cancel hk, Nat.one_mul]
 have e2 : x - x % 2 ^ k = (x / 2 ^ k) <<< k := by
  rw [Nat.shiftLeft_eq]
  have := Nat.div_add_mod x (2 ^ k)
  rw [Nat.mul_comm] at this
  omega
 apply Nat.eq_of_testBit_eq
 intro i
 rw [e1, e2, Nat.testBit_and, Nat.testBit_shiftLeft, Nat.testBit_shiftLeft, Nat.testBit_two_pow_sub_one, Nat.testBit_div_two_pow]
 by_cases h1 : k ≤ i
 ·have e : i - k + k = i := by omega
  rw [e]
  by_cases h2 : i - k < 64 - k
  ·simp [h1, h2]
  ·have h3 : x.testBit i = false := Nat.testBit_lt_two_pow (Nat.lt_of_lt_of_le hx (Nat.pow_le_pow_right (by decide) (by omega)))
   simp [h3]
 ·simp [h1]
def needB (n : UInt64) : Bool := decide (max n.toNat 8 + 55 < 18446744073709551616)
def needU (n : UInt64) : UInt64 := if needB n then UInt64.ofNat ((max n.toNat 8 + 55) / 16 * 16) else 0
theorem needU_yes {n : UInt64} (h : needB n = true) : (needU n).toNat = (max n.toNat 8 + 55) / 16 * 16 := by
 have h' : max n.toNat 8 + 55 < 18446744073709551616 := of_decide_eq_true h
 unfold needU
 rw [if_pos h, UInt64.toNat_ofNat']
 omega
theorem Ones_16 (w : World) : Calls Tryz.prog 146 #[.int .u64 16] w fun e w' => e = .returned (.int .i64 1) ∧ w = w' := by
 go_enter Tryz.func146, Tryz.ntmps146
 go_wp2_with fail
 go_ret
 exact ⟨by kernel_rfl, rfl⟩
def up16B (n : UInt64) : Bool := if n.toNat % 16 = 0 then true else addB (n - UInt64.ofNat (n.toNat % 16)) 16
def up16U (n : UInt64) : UInt64 := if n.toNat % 16 = 0 then n else addU (n - UInt64.ofNat (n.toNat % 16)) 16
theorem need_up {n s : UInt64} (hs : s.toNat = max n.toNat 8 + 40) : up16U s = needU n ∧ up16B s = needB n := by
 have hlt := s.toNat_lt
 have hd : (s - UInt64.ofNat (s.toNat % 16)).toNat = s.toNat - s.toNat % 16 := by
  rw [UInt64.toNat_sub_of_le _ _ (by rw [UInt64.le_iff_toNat_le, UInt64.toNat_ofNat']; omega), UInt64.toNat_ofNat']
  omega
 unfold up16U up16B
 by_cases h0 : s.toNat % 16 = 0
 ·rw [if_pos h0, if_pos h0]
  have hn : needB n = true := decide_eq_true (by omega)
  exact ⟨UInt64.toNat_inj.1 (by rw [needU_yes hn]; omega), hn.symm⟩
 ·rw [if_neg h0, if_neg h0]
  obtain ⟨d, hdd⟩ : ∃ d, d = s - UInt64.ofNat (s.toNat % 16) := ⟨_, rfl⟩
  rw [← hdd] at hd ⊢
  have e16 : (16 : UInt64).toNat = 16 := rfl
  cases hb : addB d 16 with
  | true =>
    have h3 : d.toNat + (16 : UInt64).toNat < 18446744073709551616 := of_decide_eq_true hb
    rw [e16] at h3
    have hn : needB n = true := decide_eq_true (by omega)
    obtain ⟨a1, a2⟩ := addU_yes hb
    exact ⟨UInt64.toNat_inj.1 (by rw [needU_yes hn, a1, a2, e16]; omega), hn.symm⟩
  | false =>
    have h3 : ¬ d.toNat + (16 : UInt64).toNat < 18446744073709551616 := of_decide_eq_false hb
    rw [e16] at h3
    have hn : needB n = false := decide_eq_false (by omega)
    exact ⟨by rw [addU_no hb]; exact (if_neg (by rw [hn]; decide)).symm, hn.symm⟩
theorem power_16 (w : World) : Calls Tryz.prog 145 #[.int .u64 16] w fun e w' => e = .returned (.bool true) ∧ w = w' := by
 go_enter Tryz.func145, Tryz.ntmps145
 go_wp2_with fail
 go_loop [0] (fun v => ∃ k : Nat, k ≤ 4 ∧ v = .int .u64 ((2 ^ k : Nat) : Int)) (fun v => (intOf v).toNat)
 case atStart => exact ⟨4, by omega, rfl⟩
 case round =>
  obtain ⟨k, hk, rfl⟩ := hrel
  obtain rfl | rfl | rfl | rfl | rfl : k = 0 ∨ k = 1 ∨ k = 2 ∨ k = 3 ∨ k = 4 := by omega
  ·go_wp2_with fail
   go_ret
   exact ⟨rfl, rfl⟩
  ·go_wp2_with fail
   go_round
   case rel => exact ⟨0, by omega, rfl⟩
   case measure => simp [intOf]
  ·go_wp2_with fail
   go_round
   case rel => exact ⟨1, by omega, rfl⟩
   case measure => simp [intOf]
  ·go_wp2_with fail
   go_round
   case rel => exact ⟨2, by omega, rfl⟩
   case measure => simp [intOf]
  ·go_wp2_with fail
   go_round
   case rel => exact ⟨3, by omega, rfl⟩
   case measure => simp [intOf]
theorem wUp_16 (w : World) (n : UInt64) (x : Int) (hx : x = (n.toNat : Int)) :
  Calls Tryz.prog 93 #[.int .u64 x, .int .u64 16] w fun e w' => e = .returned (.tuple #[.int .u64 ((up16U n).toNat : Int), .bool (up16B n)]) ∧ w = w' := by
 subst hx
 have hlt := n.toNat_lt
 have e1 : bits .and .u64 (n.toNat : Int) 15 = ((n.toNat % 16 : Nat) : Int) := by
  have := u64_and_nat n.toNat 15 n.toNat_lt (by decide)
  rw [and_low n.toNat 4] at this
  exact this
 have e2 : bits .andNot .u64 (n.toNat : Int) 15 = ((n.toNat - n.toNat % 16 : Nat) : Int) := by
  have := u64_andNot_nat n.toNat 15 n.toNat_lt (by decide)
  rw [show 18446744073709551615 - 15 = 2 ^ 64 - 2 ^ 4 by decide, and_high n.toNat 4 n.toNat_lt (by decide)] at this
  exact this
 obtain ⟨r, hr⟩ : ∃ r, r = n.toNat % 16 := ⟨_, rfl⟩
 obtain ⟨d, hd⟩ : ∃ d, d = n - UInt64.ofNat (n.toNat % 16) := ⟨_, rfl⟩
 have hdn : d.toNat = n.toNat - r := by
  rw [hd, UInt64.toNat_sub_of_le _ _ (by rw [UInt64.le_iff_toNat_le, UInt64.toNat_ofNat']; omega), UInt64.toNat_ofNat']
  omega
 rw [← hr] at e1 e2
 have e3 : ((n.toNat - r : Nat) : Int) = (d.toNat : Int) := by rw [hdn]
 rw [e3] at e2
 clear e3
 by_cases h0 : r = 0
 ·have t1 : ((r : Int) == 0) = true := by simp [h0]
  have hu : up16B n = true ∧ up16U n = n := by
   unfold up16U up16B
   rw [← hr, if_pos h0, if_pos h0]
   exact ⟨rfl, rfl⟩
  rw [hu.1, hu.2]
  clear h0 hu hr hd hdn hlt
  go_enter Tryz.func93, Tryz.ntmps93
  go_wp2_with fail
  refine (Ones_16 w).mono ?_; rintro e w' ⟨rfl, rfl⟩
  go_wp2_with fail
  go_ret2
  exact ⟨rfl, rfl⟩
 ·have t1 : ((r : Int) == 0) = false := by rw [beq_eq_false_iff_ne]; omega
  have hu : up16B n = addB d 16 ∧ up16U n = addU d 16 := by
   unfold up16U up16B
   rw [← hr, if_neg h0, if_neg h0, hd, hr]
   exact ⟨rfl, rfl⟩
  rw [hu.1, hu.2]
  have HA := qH (wAdd_any w d 16 _ _ rfl rfl)
  obtain ⟨p, hp⟩ : ∃ p, p = (addU d 16).toNat := ⟨_, rfl⟩
  obtain ⟨q, hq⟩ : ∃ q, q = addB d 16 := ⟨_, rfl⟩
  rw [← hp, ← hq] at HA ⊢
  clear h0 hu hr hd hdn hlt hp hq
  go_enter Tryz.func93, Tryz.ntmps93
  go_wp2_with fail
  refine (Ones_16 w).mono ?_; rintro e w' ⟨rfl, rfl⟩
  go_wp2_with fail
  refine HA.out.mono ?_
  rintro e w' ⟨rfl, rfl⟩
  go_wp2_with fail
  go_ret2
  exact ⟨rfl, rfl⟩
theorem rUp_16 (w : World) (n : UInt64) (x : Int) (hx : x = (n.toNat : Int)) :
  Calls Tryz.prog 92 #[.int .u64 x, .int .u64 16] w fun e w' => e = .returned (.tuple #[.int .u64 ((up16U n).toNat : Int), .bool (up16B n)]) ∧ w = w' := by
 subst hx
 have hlt := n.toNat_lt
 obtain ⟨r, hr⟩ : ∃ r, r = n.toNat % 16 := ⟨_, rfl⟩
 obtain ⟨d, hd⟩ : ∃ d, d = n - UInt64.ofNat (n.toNat % 16) := ⟨_, rfl⟩
 have hdn : d.toNat = n.toNat - r := by
  rw [hd, UInt64.toNat_sub_of_le _ _ (by rw [UInt64.le_iff_toNat_le, UInt64.toNat_ofNat']; omega), UInt64.toNat_ofNat']
  omega
 have e1 : (n.toNat : Int) % 16 = (r : Int) := by omega
 have e2 : IntKind.u64.wrap ((n.toNat : Int) - (r : Int)) = (d.toNat : Int) := by rw [IntWalk.u64_in _ (by omega)]; omega
 by_cases h0 : r = 0
 ·have t1 : ((r : Int) == 0) = true := by simp [h0]
  have hu : up16B n = true ∧ up16U n = n := by
   unfold up16U up16B
   rw [← hr, if_pos h0, if_pos h0]
   exact ⟨rfl, rfl⟩
  rw [hu.1, hu.2]
  clear h0 hu hr hd hdn hlt
  go_enter Tryz.func92, Tryz.ntmps92
  go_wp2_with fail
  refine (power_16 w).mono ?_; rintro e w' ⟨rfl, rfl⟩
  go_wp2_with fail
  go_ret2
  exact ⟨rfl, rfl⟩
 ·have t1 : ((r : Int) == 0) = false := by rw [beq_eq_false_iff_ne]; omega
  have hu : up16B n = addB d 16 ∧ up16U n = addU d 16 := by
   unfold up16U up16B
   rw [← hr, if_neg h0, if_neg h0, hd, hr]
   exact ⟨rfl, rfl⟩
  rw [hu.1, hu.2]
  have HA := qH (rAdd_any w d 16 _ _ rfl rfl)
  obtain ⟨p, hp⟩ : ∃ p, p = (addU d 16).toNat := ⟨_, rfl⟩
  obtain ⟨q, hq⟩ : ∃ q, q = addB d 16 := ⟨_, rfl⟩
  rw [← hp, ← hq] at HA ⊢
  clear h0 hu hr hd hdn hlt hp hq
  go_enter Tryz.func92, Tryz.ntmps92
  go_wp2_with fail
  refine (power_16 w).mono ?_; rintro e w' ⟨rfl, rfl⟩
  go_wp2_with fail
  refine HA.out.mono ?_
  rintro e w' ⟨rfl, rfl⟩
  go_wp2_with fail
  go_ret2
  exact ⟨rfl, rfl⟩
theorem wNeed_any (w : World) (n : UInt64) (x : Int) (hx : x = (n.toNat : Int)) :
    Calls Tryz.prog 81 #[.int .u64 x] w fun e w' => e = .returned (.tuple #[.int .u64 ((needU n).toNat : Int), .bool (needB n)]) ∧ w = w' := by
  subst hx
  by_cases h8 : n = 8
  · subst h8
    obtain ⟨n, hn8⟩ : ∃ n : UInt64, n = 8 := ⟨_, rfl⟩
    rw [← hn8]
    have en : (n.toNat : Int) = 8 := by rw [hn8]; rfl
    have hmn := qH (show (8 : UInt64).toNat = max n.toNat 8 by rw [hn8]; rfl)
    clear hn8
    have HA := qH (wAdd_any w 8 40 _ _ rfl rfl)
    cases hb : addB 8 40 with
    | false =>
      have h3 : ¬ (8 : UInt64).toNat + 40 < 18446744073709551616 := of_decide_eq_false hb
      have hn : needB n = false := decide_eq_false (by have hmn := hmn.out; omega)
      have hu : needU n = 0 := if_neg (by rw [hn]; decide)
      rw [hn, hu]
      rw [hb, addU_no hb] at HA
      clear hb h3 hn hu
      go_enter Tryz.func81, Tryz.ntmps81
      go_wp2_with fail
      refine HA.out.mono ?_
      rintro e w' ⟨rfl, rfl⟩
      go_wp2_with fail
      go_ret2
      exact ⟨rfl, rfl⟩
    | true =>
      obtain ⟨h1, h2⟩ := addU_yes hb
      have h3 : (8 : UInt64).toNat + 40 < 18446744073709551616 := of_decide_eq_true hb
      rw [hb, h1] at HA
      obtain ⟨s, hs⟩ : ∃ s, s = (8 : UInt64) + 40 := ⟨_, rfl⟩
      rw [← hs] at HA h2
      have hsn : s.toNat = max n.toNat 8 + 40 := by rw [h2, ← hmn.out]; rfl
      have hu := need_up hsn
      have HU := qH (wUp_16 w s _ rfl)
      rw [hu.1, hu.2] at HU
      obtain ⟨r1, hr1⟩ : ∃ r, r = (needU n).toNat := ⟨_, rfl⟩
      obtain ⟨r2, hr2⟩ : ∃ r, r = needB n := ⟨_, rfl⟩
      rw [← hr1, ← hr2] at HU ⊢
      clear hb h1 h2 h3 hs hsn hu hr1 hr2
      go_enter Tryz.func81, Tryz.ntmps81
      go_wp2_with fail
      refine HA.out.mono ?_
      rintro e w' ⟨rfl, rfl⟩
      go_wp2_with fail
      refine HU.out.mono ?_
      rintro e w' ⟨rfl, rfl⟩
      go_wp2_with fail
      go_ret2
      exact ⟨rfl, rfl⟩
  · by_cases hlt : n.toNat < 8
    · have hmn := qH (show (8 : UInt64).toNat = max n.toNat 8 by rw [Nat.max_eq_right (by omega)]; rfl)
      have g1 : (n.toNat : Int) < 8 := by omega
      clear h8
      have HA := qH (wAdd_any w 8 40 _ _ rfl rfl)
      cases hb : addB 8 40 with
      | false =>
        have h3 : ¬ (8 : UInt64).toNat + 40 < 18446744073709551616 := of_decide_eq_false hb
        have hn : needB n = false := decide_eq_false (by have hmn := hmn.out; omega)
        have hu : needU n = 0 := if_neg (by rw [hn]; decide)
        rw [hn, hu]
        rw [hb, addU_no hb] at HA
        clear hb h3 hn hu
        go_enter Tryz.func81, Tryz.ntmps81
        go_wp2_with fail
        refine HA.out.mono ?_
        rintro e w' ⟨rfl, rfl⟩
        go_wp2_with fail
        go_ret2
        exact ⟨rfl, rfl⟩
      | true =>
        obtain ⟨h1, h2⟩ := addU_yes hb
        have h3 : (8 : UInt64).toNat + 40 < 18446744073709551616 := of_decide_eq_true hb
        rw [hb, h1] at HA
        obtain ⟨s, hs⟩ : ∃ s, s = (8 : UInt64) + 40 := ⟨_, rfl⟩
        rw [← hs] at HA h2
        have hsn : s.toNat = max n.toNat 8 + 40 := by rw [h2, ← hmn.out]; rfl
        have hu := need_up hsn
        have HU := qH (wUp_16 w s _ rfl)
        rw [hu.1, hu.2] at HU
        obtain ⟨r1, hr1⟩ : ∃ r, r = (needU n).toNat := ⟨_, rfl⟩
        obtain ⟨r2, hr2⟩ : ∃ r, r = needB n := ⟨_, rfl⟩
        rw [← hr1, ← hr2] at HU ⊢
        clear hb h1 h2 h3 hs hsn hu hr1 hr2
        go_enter Tryz.func81, Tryz.ntmps81
        go_wp2_with fail
        refine HA.out.mono ?_
        rintro e w' ⟨rfl, rfl⟩
        go_wp2_with fail
        refine HU.out.mono ?_
        rintro e w' ⟨rfl, rfl⟩
        go_wp2_with fail
        go_ret2
        exact ⟨rfl, rfl⟩
    · have h9 : n.toNat ≠ 8 := fun e => h8 (UInt64.toNat_inj.1 e)
      have hmn := qH (show n.toNat = max n.toNat 8 by rw [Nat.max_eq_left (by omega)])
      have g1 : (8 : Int) < (n.toNat : Int) := by omega
      clear h8 h9 hlt
      have HA := qH (wAdd_any w n 40 _ _ rfl rfl)
      cases hb : addB n 40 with
      | false =>
        have h3 : ¬ (n : UInt64).toNat + 40 < 18446744073709551616 := of_decide_eq_false hb
        have hn : needB n = false := decide_eq_false (by have hmn := hmn.out; omega)
        have hu : needU n = 0 := if_neg (by rw [hn]; decide)
        rw [hn, hu]
        rw [hb, addU_no hb] at HA
        clear hb h3 hn hu
        go_enter Tryz.func81, Tryz.ntmps81
        go_wp2_with fail
        refine HA.out.mono ?_
        rintro e w' ⟨rfl, rfl⟩
        go_wp2_with fail
        go_ret2
        exact ⟨rfl, rfl⟩
      | true =>
        obtain ⟨h1, h2⟩ := addU_yes hb
        have h3 : (n : UInt64).toNat + 40 < 18446744073709551616 := of_decide_eq_true hb
        rw [hb, h1] at HA
        obtain ⟨s, hs⟩ : ∃ s, s = (n : UInt64) + 40 := ⟨_, rfl⟩
        rw [← hs] at HA h2
        have hsn : s.toNat = max n.toNat 8 + 40 := by rw [h2, ← hmn.out]; rfl
        have hu := need_up hsn
        have HU := qH (wUp_16 w s _ rfl)
        rw [hu.1, hu.2] at HU
        obtain ⟨r1, hr1⟩ : ∃ r, r = (needU n).toNat := ⟨_, rfl⟩
        obtain ⟨r2, hr2⟩ : ∃ r, r = needB n := ⟨_, rfl⟩
        rw [← hr1, ← hr2] at HU ⊢
        clear hb h1 h2 h3 hs hsn hu hr1 hr2
        go_enter Tryz.func81, Tryz.ntmps81
        go_wp2_with fail
        refine HA.out.mono ?_
        rintro e w' ⟨rfl, rfl⟩
        go_wp2_with fail
        refine HU.out.mono ?_
        rintro e w' ⟨rfl, rfl⟩
        go_wp2_with fail
        go_ret2
        exact ⟨rfl, rfl⟩
theorem rNeed_any (w : World) (n : UInt64) (x : Int) (hx : x = (n.toNat : Int)) :
    Calls Tryz.prog 38 #[.int .u64 x] w fun e w' => e = .returned (.tuple #[.int .u64 ((needU n).toNat : Int), .bool (needB n)]) ∧ w = w' := by
  subst hx
  by_cases h8 : n = 8
  · subst h8
    obtain ⟨n, hn8⟩ : ∃ n : UInt64, n = 8 := ⟨_, rfl⟩
    rw [← hn8]
    have en : (n.toNat : Int) = 8 := by rw [hn8]; rfl
    have hmn := qH (show (8 : UInt64).toNat = max n.toNat 8 by rw [hn8]; rfl)
    clear hn8
    have HA := qH (rAdd_any w 8 40 _ _ rfl rfl)
    cases hb : addB 8 40 with
    | false =>
      have h3 : ¬ (8 : UInt64).toNat + 40 < 18446744073709551616 := of_decide_eq_false hb
      have hn : needB n = false := decide_eq_false (by have hmn := hmn.out; omega)
      have hu : needU n = 0 := if_neg (by rw [hn]; decide)
      rw [hn, hu]
      rw [hb, addU_no hb] at HA
      clear hb h3 hn hu
      go_enter Tryz.func38, Tryz.ntmps38
      go_wp2_with fail
      refine HA.out.mono ?_
      rintro e w' ⟨rfl, rfl⟩
      go_wp2_with fail
      go_ret2
      exact ⟨rfl, rfl⟩
    | true =>
      obtain ⟨h1, h2⟩ := addU_yes hb
      have h3 : (8 : UInt64).toNat + 40 < 18446744073709551616 := of_decide_eq_true hb
      rw [hb, h1] at HA
      obtain ⟨s, hs⟩ : ∃ s, s = (8 : UInt64) + 40 := ⟨_, rfl⟩
      rw [← hs] at HA h2
      have hsn : s.toNat = max n.toNat 8 + 40 := by rw [h2, ← hmn.out]; rfl
      have hu := need_up hsn
      have HU := qH (rUp_16 w s _ rfl)
      rw [hu.1, hu.2] at HU
      obtain ⟨r1, hr1⟩ : ∃ r, r = (needU n).toNat := ⟨_, rfl⟩
      obtain ⟨r2, hr2⟩ : ∃ r, r = needB n := ⟨_, rfl⟩
      rw [← hr1, ← hr2] at HU ⊢
      clear hb h1 h2 h3 hs hsn hu hr1 hr2
      go_enter Tryz.func38, Tryz.ntmps38
      go_wp2_with fail
      refine HA.out.mono ?_
      rintro e w' ⟨rfl, rfl⟩
      go_wp2_with fail
      refine HU.out.mono ?_
      rintro e w' ⟨rfl, rfl⟩
      go_wp2_with fail
      go_ret2
      exact ⟨rfl, rfl⟩
  · by_cases hlt : n.toNat < 8
    · have hmn := qH (show (8 : UInt64).toNat = max n.toNat 8 by rw [Nat.max_eq_right (by omega)]; rfl)
      have g1 : (n.toNat : Int) < 8 := by omega
      clear h8
      have HA := qH (rAdd_any w 8 40 _ _ rfl rfl)
      cases hb : addB 8 40 with
      | false =>
        have h3 : ¬ (8 : UInt64).toNat + 40 < 18446744073709551616 := of_decide_eq_false hb
        have hn : needB n = false := decide_eq_false (by have hmn := hmn.out; omega)
        have hu : needU n = 0 := if_neg (by rw [hn]; decide)
        rw [hn, hu]
        rw [hb, addU_no hb] at HA
        clear hb h3 hn hu
        go_enter Tryz.func38, Tryz.ntmps38
        go_wp2_with fail
        refine HA.out.mono ?_
        rintro e w' ⟨rfl, rfl⟩
        go_wp2_with fail
        go_ret2
        exact ⟨rfl, rfl⟩
      | true =>
        obtain ⟨h1, h2⟩ := addU_yes hb
        have h3 : (8 : UInt64).toNat + 40 < 18446744073709551616 := of_decide_eq_true hb
        rw [hb, h1] at HA
        obtain ⟨s, hs⟩ : ∃ s, s = (8 : UInt64) + 40 := ⟨_, rfl⟩
        rw [← hs] at HA h2
        have hsn : s.toNat = max n.toNat 8 + 40 := by rw [h2, ← hmn.out]; rfl
        have hu := need_up hsn
        have HU := qH (rUp_16 w s _ rfl)
        rw [hu.1, hu.2] at HU
        obtain ⟨r1, hr1⟩ : ∃ r, r = (needU n).toNat := ⟨_, rfl⟩
        obtain ⟨r2, hr2⟩ : ∃ r, r = needB n := ⟨_, rfl⟩
        rw [← hr1, ← hr2] at HU ⊢
        clear hb h1 h2 h3 hs hsn hu hr1 hr2
        go_enter Tryz.func38, Tryz.ntmps38
        go_wp2_with fail
        refine HA.out.mono ?_
        rintro e w' ⟨rfl, rfl⟩
        go_wp2_with fail
        refine HU.out.mono ?_
        rintro e w' ⟨rfl, rfl⟩
        go_wp2_with fail
        go_ret2
        exact ⟨rfl, rfl⟩
    · have h9 : n.toNat ≠ 8 := fun e => h8 (UInt64.toNat_inj.1 e)
      have hmn := qH (show n.toNat = max n.toNat 8 by rw [Nat.max_eq_left (by omega)])
      have g1 : (8 : Int) < (n.toNat : Int) := by omega
      clear h8 h9 hlt
      have HA := qH (rAdd_any w n 40 _ _ rfl rfl)
      cases hb : addB n 40 with
      | false =>
        have h3 : ¬ (n : UInt64).toNat + 40 < 18446744073709551616 := of_decide_eq_false hb
        have hn : needB n = false := decide_eq_false (by have hmn := hmn.out; omega)
        have hu : needU n = 0 := if_neg (by rw [hn]; decide)
        rw [hn, hu]
        rw [hb, addU_no hb] at HA
        clear hb h3 hn hu
        go_enter Tryz.func38, Tryz.ntmps38
        go_wp2_with fail
        refine HA.out.mono ?_
        rintro e w' ⟨rfl, rfl⟩
        go_wp2_with fail
        go_ret2
        exact ⟨rfl, rfl⟩
      | true =>
        obtain ⟨h1, h2⟩ := addU_yes hb
        have h3 : (n : UInt64).toNat + 40 < 18446744073709551616 := of_decide_eq_true hb
        rw [hb, h1] at HA
        obtain ⟨s, hs⟩ : ∃ s, s = (n : UInt64) + 40 := ⟨_, rfl⟩
        rw [← hs] at HA h2
        have hsn : s.toNat = max n.toNat 8 + 40 := by rw [h2, ← hmn.out]; rfl
        have hu := need_up hsn
        have HU := qH (rUp_16 w s _ rfl)
        rw [hu.1, hu.2] at HU
        obtain ⟨r1, hr1⟩ : ∃ r, r = (needU n).toNat := ⟨_, rfl⟩
        obtain ⟨r2, hr2⟩ : ∃ r, r = needB n := ⟨_, rfl⟩
        rw [← hr1, ← hr2] at HU ⊢
        clear hb h1 h2 h3 hs hsn hu hr1 hr2
        go_enter Tryz.func38, Tryz.ntmps38
        go_wp2_with fail
        refine HA.out.mono ?_
        rintro e w' ⟨rfl, rfl⟩
        go_wp2_with fail
        refine HU.out.mono ?_
        rintro e w' ⟨rfl, rfl⟩
        go_wp2_with fail
        go_ret2
        exact ⟨rfl, rfl⟩
structure BlockV where
 off : UInt64
 tag : TagV
 len : UInt64
deriving DecidableEq
def BlockV.zero : BlockV := ⟨0, TagV.zero, 0⟩
def BlockV.cells (b : BlockV) : Array Value := #[.int .u64 (b.off.toNat : Int), .int .u64 (b.tag.size.toNat : Int), .bool b.tag.used, .int .i64 b.tag.owner, .int .u64 (b.len.toNat : Int)]
def lenB (f : UInt64 → UInt64) (off : UInt64) : Bool := needB (f (off + 8)) && decide ((needU (f (off + 8))).toNat ≤ (readT f off).size.toNat)
def oneB (f : UInt64 → UInt64) (off : UInt64) : Bool := readB f off && (!(readT f off).used || lenB f off)
def oneT (f : UInt64 → UInt64) (off : UInt64) : BlockV := ⟨off, readT f off, if (readT f off).used then f (off + 8) else 0⟩
theorem row5 {w : World} {m : Nat} {a b c d e : Value} {T : TypeId} (h : w.heap[m]? = some (.cells #[a, b, c, d, e] T (0, 0))) : w.cell? ⟨m, 0, none⟩ = some a ∧ w.cell? ⟨m, 1, none⟩ = some b ∧ w.cell? ⟨m, 2, none⟩ = some c ∧ w.cell? ⟨m, 3, none⟩ = some d ∧ w.cell? ⟨m, 4, none⟩ = some e :=
  ⟨by simp [World.cell?, h], by simp [World.cell?, h], by simp [World.cell?, h], by simp [World.cell?, h], by simp [World.cell?, h]⟩
theorem setRow5 {w : World} {m : Nat} {a b c d e x y z u v : Value} {T : TypeId} (h : w.heap[m]? = some (.cells #[a, b, c, d, e] T (0, 0))) :
  (((((w.setCell ⟨m, 0, none⟩ x).setCell ⟨m, 1, none⟩ y).setCell ⟨m, 2, none⟩ z).setCell ⟨m, 3, none⟩ u).setCell ⟨m, 4, none⟩ v).heap[m]? = some (.cells #[x, y, z, u, v] T (0, 0)) := by
 have := heap_setCell_eq (heap_setCell_eq (heap_setCell_eq (heap_setCell_eq (heap_setCell_eq h 0 x) 1 y) 2 z) 3 u) 4 v
 simpa using this
theorem keepsRow5 {w0 w : World} (k : Keeps Nil w0 w) {m : Nat} (hm : w0.heap.size ≤ m) (x y z u v : Value) : Keeps Nil w0 (((((w.setCell ⟨m, 0, none⟩ x).setCell ⟨m, 1, none⟩ y).setCell ⟨m, 2, none⟩ z).setCell ⟨m, 3, none⟩ u).setCell ⟨m, 4, none⟩ v) :=
 ((((k.setNew (a := ⟨m, 0, none⟩) hm x).setNew (a := ⟨m, 1, none⟩) hm y).setNew (a := ⟨m, 2, none⟩) hm z).setNew (a := ⟨m, 3, none⟩) hm u).setNew (a := ⟨m, 4, none⟩) hm v
def OneP (f : UInt64 → UInt64) (off : UInt64) (w : World) (e : Ending) (w' : World) : Prop := ∃ b : BlockV, e = .returned (.tuple #[.agg b.cells, .int .i64 (codeOf (oneB f off))]) ∧ (oneB f off = true → b = oneT f off) ∧ Keeps Nil w w'
theorem one_any {T : Value} {f : UInt64 → UInt64} {N : Nat} {w : World} (h : Reads T f N w) (off : UInt64) (x : Int) (hx : x = (off.toNat : Int)) :
    Calls Tryz.prog 142 #[T, .int .u64 x] w (OneP f off w) := by
  subst hx
  have H := qH h
  obtain ⟨B, hB⟩ : ∃ B, B = w.heap.size := ⟨_, rfl⟩
  obtain ⟨w0, hw0⟩ : ∃ w0, w0 = w.alloc (.cells #[.int .u64 0, .int .u64 0, .bool false, .int .i64 0, .int .u64 0] 37) := ⟨_, rfl⟩
  have hk0 : Keeps Nil w w0 := by rw [hw0]; exact (Keeps.refl Nil w).alloc _
  have hb0 : w0.heap[B]? = some (.cells #[.int .u64 0, .int .u64 0, .bool false, .int .i64 0, .int .u64 0] 37 (0, 0)) := by rw [hw0, hB]; exact heap_new w _
  obtain ⟨s, u, o, hg⟩ : ∃ s u o, readT f off = ⟨s, u, o⟩ := ⟨_, _, _, rfl⟩
  obtain ⟨y8, hy8⟩ : ∃ y, y = off + 8 := ⟨_, rfl⟩
  have q8 : IntKind.u64.wrap ((off.toNat : Int) + 8) = (y8.toNat : Int) := by rw [hy8]; exact u64_add off 8
  have ho1 : oneB f off = (readB f off && (!u || (needB (f y8) && decide ((needU (f y8)).toNat ≤ s.toNat)))) := by unfold oneB lenB; rw [hg, hy8]
  have ho2 : oneT f off = ⟨off, ⟨s, u, o⟩, if u then f y8 else 0⟩ := by unfold oneT; rw [hg, hy8]
  have HG := qH hg
  have HO := qH (And.intro ho1 ho2)
  have HW0 := qH hw0
  have HB := qH hB
  have K0 := qH (And.intro hk0 hb0)
  clear h hg hy8 ho1 ho2 hw0 hB hk0 hb0
  cases hr : readB f off with
  | false =>
    have HR := qH hr
    clear hr q8
    go_enter Tryz.func142, Tryz.ntmps142
    go_wp2_with fail
    rw [← HW0.out, ← HB.out]
    refine (Read_any (H.out.keeps K0.out.1) off _ rfl).mono ?_
    rintro e w1 ⟨rfl, k1⟩
    rw [HR.out, HG.out, TagV.cells_def, codeOf_false]
    obtain ⟨w2, hw2⟩ : ∃ w2, w2 = w1.alloc (.cells #[.int .u64 (s.toNat : Int), .bool u, .int .i64 o] 35) := ⟨_, rfl⟩
    have k2 : Keeps Nil w0 w2 := by rw [hw2]; exact k1.alloc _
    have b2 : w2.heap[w1.heap.size]? = some (.cells #[.int .u64 (s.toNat : Int), .bool u, .int .i64 o] 35 (0, 0)) := by rw [hw2]; exact heap_new _ _
    have r1 := k1.at K0.out.2 (fun e => e)
    have hlt : B < w1.heap.size := getElem?_lt r1
    have K1 := qH (And.intro (K0.out.1.trans' k1) r1)
    have K2 := qH (And.intro (K0.out.1.trans' k2) (And.intro b2 (k2.at K0.out.2 (fun e => e))))
    have HW2 := qH hw2
    have c0 := (row5 r1).1
    have c1 := (row5 r1).2.1
    have c2 := (row5 r1).2.2.1
    have c3 := (row5 r1).2.2.2.1
    have c4 := (row5 r1).2.2.2.2
    have f0 := frz r1 0
    have f1 := frz r1 1
    have f2 := frz r1 2
    have f3 := frz r1 3
    have f4 := frz r1 4
    clear k1 k2 b2 r1 hw2
    go_wp2_with fail
    refine bodyPost_ret (results_row_tmp rfl rfl (heap_old _ _ (setRow5 K1.out.2)) Tryz.underlying37 rfl (by kernel_rfl)) rfl ?_
    have hbf : oneB f off = false := by rw [HO.out.1, HR.out]; rfl
    have HP : oneB f off = true → (⟨off, ⟨s, u, o⟩, 0⟩ : BlockV) = oneT f off := fun e => by rw [hbf] at e; cases e
    exact ⟨⟨off, ⟨s, u, o⟩, 0⟩, by rw [hbf]; rfl, HP, (keepsRow5 K1.out.1 (by rw [HB.out]; exact Nat.le_refl _) _ _ _ _ _).alloc _⟩
  | true =>
    have HR := qH hr
    clear hr
    cases u with
    | false =>
      clear q8
      go_enter Tryz.func142, Tryz.ntmps142
      go_wp2_with fail
      rw [← HW0.out, ← HB.out]
      refine (Read_any (H.out.keeps K0.out.1) off _ rfl).mono ?_
      rintro e w1 ⟨rfl, k1⟩
      rw [HR.out, HG.out, TagV.cells_def, codeOf_true]
      obtain ⟨w2, hw2⟩ : ∃ w2, w2 = w1.alloc (.cells #[.int .u64 (s.toNat : Int), .bool false, .int .i64 o] 35) := ⟨_, rfl⟩
      have k2 : Keeps Nil w0 w2 := by rw [hw2]; exact k1.alloc _
      have b2 : w2.heap[w1.heap.size]? = some (.cells #[.int .u64 (s.toNat : Int), .bool false, .int .i64 o] 35 (0, 0)) := by rw [hw2]; exact heap_new _ _
      have r1 := k1.at K0.out.2 (fun e => e)
      have hlt : B < w1.heap.size := getElem?_lt r1
      have K1 := qH (And.intro (K0.out.1.trans' k1) r1)
      have K2 := qH (And.intro (K0.out.1.trans' k2) (And.intro b2 (k2.at K0.out.2 (fun e => e))))
      have HW2 := qH hw2
      have c0 := (row5 r1).1
      have c1 := (row5 r1).2.1
      have c2 := (row5 r1).2.2.1
      have c3 := (row5 r1).2.2.2.1
      have c4 := (row5 r1).2.2.2.2
      have f0 := frz r1 0
      have f1 := frz r1 1
      have f2 := frz r1 2
      have f3 := frz r1 3
      have f4 := frz r1 4
      clear k1 k2 b2 r1 hw2
      go_wp2_with fail
      refine bodyPost_ret (results_row_tmp rfl rfl (heap_old _ _ (setRow5 K1.out.2)) Tryz.underlying37 rfl (by kernel_rfl)) rfl ?_
      have hbf : oneB f off = true := by rw [HO.out.1, HR.out]; rfl
      have HP : oneB f off = true → (⟨off, ⟨s, false, o⟩, 0⟩ : BlockV) = oneT f off := fun e => by rw [HO.out.2]; rfl
      exact ⟨⟨off, ⟨s, false, o⟩, 0⟩, by rw [hbf]; rfl, HP, (keepsRow5 K1.out.1 (by rw [HB.out]; exact Nat.le_refl _) _ _ _ _ _).alloc _⟩
    | true =>
      cases hnb : needB (f y8) with
      | false =>
        have HNB := qH hnb
        clear hnb
        go_enter Tryz.func142, Tryz.ntmps142
        go_wp2_with fail
        rw [← HW0.out, ← HB.out]
        refine (Read_any (H.out.keeps K0.out.1) off _ rfl).mono ?_
        rintro e w1 ⟨rfl, k1⟩
        rw [HR.out, HG.out, TagV.cells_def, codeOf_true]
        obtain ⟨w2, hw2⟩ : ∃ w2, w2 = w1.alloc (.cells #[.int .u64 (s.toNat : Int), .bool true, .int .i64 o] 35) := ⟨_, rfl⟩
        have k2 : Keeps Nil w0 w2 := by rw [hw2]; exact k1.alloc _
        have b2 : w2.heap[w1.heap.size]? = some (.cells #[.int .u64 (s.toNat : Int), .bool true, .int .i64 o] 35 (0, 0)) := by rw [hw2]; exact heap_new _ _
        have r1 := k1.at K0.out.2 (fun e => e)
        have hlt : B < w1.heap.size := getElem?_lt r1
        have K1 := qH (And.intro (K0.out.1.trans' k1) r1)
        have K2 := qH (And.intro (K0.out.1.trans' k2) (And.intro b2 (k2.at K0.out.2 (fun e => e))))
        have HW2 := qH hw2
        have c0 := (row5 r1).1
        have c1 := (row5 r1).2.1
        have c2 := (row5 r1).2.2.1
        have c3 := (row5 r1).2.2.2.1
        have c4 := (row5 r1).2.2.2.2
        have f0 := frz r1 0
        have f1 := frz r1 1
        have f2 := frz r1 2
        have f3 := frz r1 3
        have f4 := frz r1 4
        clear k1 k2 b2 r1 hw2
        go_wp2_with fail
        rw [← HW2.out]
        refine (H.out.load w2 K2.out.1 y8 _ rfl).mono ?_
        rintro e w3 ⟨rfl, k3⟩
        have K3 := qH (And.intro (K2.out.1.trans' k3) (And.intro (k3.at K2.out.2.1 (fun e => e)) (k3.at K2.out.2.2 (fun e => e))))
        clear k3 c0 c1 c2 c3 c4 f0 f1 f2 f3 f4 hlt
        have c0 := (row5 K3.out.2.2).1
        have c1 := (row5 K3.out.2.2).2.1
        have c2 := (row5 K3.out.2.2).2.2.1
        have c3 := (row5 K3.out.2.2).2.2.2.1
        have c4 := (row5 K3.out.2.2).2.2.2.2
        have f0 := frz K3.out.2.2 0
        have f1 := frz K3.out.2.2 1
        have f2 := frz K3.out.2.2 2
        have f3 := frz K3.out.2.2 3
        have f4 := frz K3.out.2.2 4
        have d0 := (row3 K3.out.2.1).1
        have d1 := (row3 K3.out.2.1).2.1
        have d2 := (row3 K3.out.2.1).2.2
        go_wp2_with fail
        refine (wNeed_any w3 (f y8) _ rfl).mono ?_
        rintro e w' ⟨rfl, rfl⟩
        rw [HNB.out]
        go_wp2_with fail
        refine bodyPost_ret (results_row_tmp rfl rfl (setRow5 K3.out.2.2) Tryz.underlying37 rfl (by kernel_rfl)) rfl ?_
        have hbf : oneB f off = false := by rw [HO.out.1, HR.out, HNB.out]; rfl
        exact ⟨BlockV.zero, by rw [hbf]; rfl, (fun e => by rw [hbf] at e; cases e), keepsRow5 K3.out.1 (by rw [HB.out]; exact Nat.le_refl _) _ _ _ _ _⟩
      | true =>
        have HNB := qH hnb
        clear hnb
        by_cases hle : (needU (f y8)).toNat ≤ s.toNat
        · have tst : decide (s.toNat < (needU (f y8)).toNat) = false := decide_eq_false (by omega)
          have HLE := qH hle
          clear hle
          go_enter Tryz.func142, Tryz.ntmps142
          go_wp2_with fail
          rw [← HW0.out, ← HB.out]
          refine (Read_any (H.out.keeps K0.out.1) off _ rfl).mono ?_
          rintro e w1 ⟨rfl, k1⟩
          rw [HR.out, HG.out, TagV.cells_def, codeOf_true]
          obtain ⟨w2, hw2⟩ : ∃ w2, w2 = w1.alloc (.cells #[.int .u64 (s.toNat : Int), .bool true, .int .i64 o] 35) := ⟨_, rfl⟩
          have k2 : Keeps Nil w0 w2 := by rw [hw2]; exact k1.alloc _
          have b2 : w2.heap[w1.heap.size]? = some (.cells #[.int .u64 (s.toNat : Int), .bool true, .int .i64 o] 35 (0, 0)) := by rw [hw2]; exact heap_new _ _
          have r1 := k1.at K0.out.2 (fun e => e)
          have hlt : B < w1.heap.size := getElem?_lt r1
          have K1 := qH (And.intro (K0.out.1.trans' k1) r1)
          have K2 := qH (And.intro (K0.out.1.trans' k2) (And.intro b2 (k2.at K0.out.2 (fun e => e))))
          have HW2 := qH hw2
          have c0 := (row5 r1).1
          have c1 := (row5 r1).2.1
          have c2 := (row5 r1).2.2.1
          have c3 := (row5 r1).2.2.2.1
          have c4 := (row5 r1).2.2.2.2
          have f0 := frz r1 0
          have f1 := frz r1 1
          have f2 := frz r1 2
          have f3 := frz r1 3
          have f4 := frz r1 4
          clear k1 k2 b2 r1 hw2
          go_wp2_with fail
          rw [← HW2.out]
          refine (H.out.load w2 K2.out.1 y8 _ rfl).mono ?_
          rintro e w3 ⟨rfl, k3⟩
          have K3 := qH (And.intro (K2.out.1.trans' k3) (And.intro (k3.at K2.out.2.1 (fun e => e)) (k3.at K2.out.2.2 (fun e => e))))
          clear k3 c0 c1 c2 c3 c4 f0 f1 f2 f3 f4 hlt
          have c0 := (row5 K3.out.2.2).1
          have c1 := (row5 K3.out.2.2).2.1
          have c2 := (row5 K3.out.2.2).2.2.1
          have c3 := (row5 K3.out.2.2).2.2.2.1
          have c4 := (row5 K3.out.2.2).2.2.2.2
          have f0 := frz K3.out.2.2 0
          have f1 := frz K3.out.2.2 1
          have f2 := frz K3.out.2.2 2
          have f3 := frz K3.out.2.2 3
          have f4 := frz K3.out.2.2 4
          have d0 := (row3 K3.out.2.1).1
          have d1 := (row3 K3.out.2.1).2.1
          have d2 := (row3 K3.out.2.1).2.2
          go_wp2_with fail
          refine (wNeed_any w3 (f y8) _ rfl).mono ?_
          rintro e w' ⟨rfl, rfl⟩
          rw [HNB.out]
          go_wp2_with fail
          refine bodyPost_ret (results_row_tmp rfl rfl (setRow5 K3.out.2.2) Tryz.underlying37 rfl (by kernel_rfl)) rfl ?_
          have hbf : oneB f off = true := by rw [HO.out.1, HR.out, HNB.out, decide_eq_true HLE.out]; rfl
          exact ⟨⟨off, ⟨s, true, o⟩, f y8⟩, by rw [hbf]; rfl, fun _ => by rw [HO.out.2]; rfl, keepsRow5 K3.out.1 (by rw [HB.out]; exact Nat.le_refl _) _ _ _ _ _⟩
        · have tst : decide (s.toNat < (needU (f y8)).toNat) = true := decide_eq_true (by omega)
          have HLE := qH hle
          clear hle
          go_enter Tryz.func142, Tryz.ntmps142
          go_wp2_with fail
          rw [← HW0.out, ← HB.out]
          refine (Read_any (H.out.keeps K0.out.1) off _ rfl).mono ?_
          rintro e w1 ⟨rfl, k1⟩
          rw [HR.out, HG.out, TagV.cells_def, codeOf_true]
          obtain ⟨w2, hw2⟩ : ∃ w2, w2 = w1.alloc (.cells #[.int .u64 (s.toNat : Int), .bool true, .int .i64 o] 35) := ⟨_, rfl⟩
          have k2 : Keeps Nil w0 w2 := by rw [hw2]; exact k1.alloc _
          have b2 : w2.heap[w1.heap.size]? = some (.cells #[.int .u64 (s.toNat : Int), .bool true, .int .i64 o] 35 (0, 0)) := by rw [hw2]; exact heap_new _ _
          have r1 := k1.at K0.out.2 (fun e => e)
          have hlt : B < w1.heap.size := getElem?_lt r1
          have K1 := qH (And.intro (K0.out.1.trans' k1) r1)
          have K2 := qH (And.intro (K0.out.1.trans' k2) (And.intro b2 (k2.at K0.out.2 (fun e => e))))
          have HW2 := qH hw2
          have c0 := (row5 r1).1
          have c1 := (row5 r1).2.1
          have c2 := (row5 r1).2.2.1
          have c3 := (row5 r1).2.2.2.1
          have c4 := (row5 r1).2.2.2.2
          have f0 := frz r1 0
          have f1 := frz r1 1
          have f2 := frz r1 2
          have f3 := frz r1 3
          have f4 := frz r1 4
          clear k1 k2 b2 r1 hw2
          go_wp2_with fail
          rw [← HW2.out]
          refine (H.out.load w2 K2.out.1 y8 _ rfl).mono ?_
          rintro e w3 ⟨rfl, k3⟩
          have K3 := qH (And.intro (K2.out.1.trans' k3) (And.intro (k3.at K2.out.2.1 (fun e => e)) (k3.at K2.out.2.2 (fun e => e))))
          clear k3 c0 c1 c2 c3 c4 f0 f1 f2 f3 f4 hlt
          have c0 := (row5 K3.out.2.2).1
          have c1 := (row5 K3.out.2.2).2.1
          have c2 := (row5 K3.out.2.2).2.2.1
          have c3 := (row5 K3.out.2.2).2.2.2.1
          have c4 := (row5 K3.out.2.2).2.2.2.2
          have f0 := frz K3.out.2.2 0
          have f1 := frz K3.out.2.2 1
          have f2 := frz K3.out.2.2 2
          have f3 := frz K3.out.2.2 3
          have f4 := frz K3.out.2.2 4
          have d0 := (row3 K3.out.2.1).1
          have d1 := (row3 K3.out.2.1).2.1
          have d2 := (row3 K3.out.2.1).2.2
          go_wp2_with fail
          refine (wNeed_any w3 (f y8) _ rfl).mono ?_
          rintro e w' ⟨rfl, rfl⟩
          rw [HNB.out]
          go_wp2_with fail
          refine bodyPost_ret (results_row_tmp rfl rfl (setRow5 K3.out.2.2) Tryz.underlying37 rfl (by kernel_rfl)) rfl ?_
          have hbf : oneB f off = false := by rw [HO.out.1, HR.out, HNB.out, decide_eq_false HLE.out]; rfl
          exact ⟨BlockV.zero, by rw [hbf]; rfl, (fun e => by rw [hbf] at e; cases e), keepsRow5 K3.out.1 (by rw [HB.out]; exact Nat.le_refl _) _ _ _ _ _⟩
def ReadsK (R : Nat → Prop) (T : Value) (f : UInt64 → UInt64) (n : Nat) (w : World) : Prop := ∀ w', KeptOn R w w' → Reads T f n w'
theorem ReadsK.reads {R : Nat → Prop} {T : Value} {f : UInt64 → UInt64} {n : Nat} {w : World} (h : ReadsK R T f n w) : Reads T f n w := h w (KeptOn.refl _ _)
theorem ReadsK.on {R : Nat → Prop} {T : Value} {f : UInt64 → UInt64} {n : Nat} {w w' : World} (h : ReadsK R T f n w) (k : KeptOn R w w') : ReadsK R T f n w' := fun _ k' => h _ (k.trans k')
theorem ReadsK.keeps {R : Nat → Prop} {T : Value} {f : UInt64 → UInt64} {n : Nat} {w w' : World} (h : ReadsK R T f n w) (hR : ∀ k, R k → k < w.heap.size) (k : Keeps Nil w w') : ReadsK R T f n w' := h.on (k.on (fun i hi => ⟨hR i hi, fun e => e⟩))
theorem ReadsK.nil (R : Nat → Prop) (w : World) : ReadsK R (.pointer none) (fun _ => 0) 0 w := fun _ _ => Reads.nil _
theorem SegAt.on {R : Nat → Prop} {w w' : World} {p q : Nat} {ws : List UInt64} (h : SegAt w p q ws) (k : KeptOn R w w') (hp : R p) (hq : R q) : SegAt w' p q ws := by
 obtain ⟨h1, h2, h3, cap, c, h4, h4', h5, h6, h7⟩ := h
 exact ⟨h1, h2, h3, cap, c, h4, h4', (k p hp).trans h5, (k q hq).trans h6, h7⟩
theorem Mem.readsK {w : World} {s t : Nat} {l : List Put} {ws : List UInt64} {S : Nat → Prop} (h : Mem w s t l ws S) : ReadsK S (.pointer (some ⟨t, 0, none⟩)) (txLoad ws l) (8 * ws.length) w := by
 obtain ⟨q, m, tv, h1, h2, h3, h4, h5⟩ := h
 intro w' k
 exact Mem.reads (S := S) ⟨q, m, tv, h1.on k (fun g hg => (h5 g).2 (.inl hg)), h2.on k ((h5 _).2 (.inr (.inl rfl))) ((h5 _).2 (.inr (.inr rfl))), h3, h4, h5⟩
theorem block_one (b : BlockV) : ∀ u ∈ b.cells.toList, u.oneCell' = true := fun u hu => by
 simp [BlockV.cells] at hu
 rcases hu with rfl | rfl | rfl | rfl | rfl <;> rfl
abbrev kB : Kind BlockV := { slice := 44, elem := 37, size := 5, bytes := 40, zero := .agg #[.int .u64 0, .int .u64 0, .bool false, .int .i64 0, .int .u64 0], enc := fun b => b.cells.toList, len := fun _ => rfl, one := block_one, und := Tryz.underlying44, info := by kernel_rfl, zcells := rfl, pos := by decide, small := by decide }
abbrev kRB : Kind BlockV := { slice := 26, elem := 63, size := 5, bytes := 40, zero := .agg #[.int .u64 0, .int .u64 0, .bool false, .int .i64 0, .int .u64 0], enc := fun b => b.cells.toList, len := fun _ => rfl, one := block_one, und := Tryz.underlying26, info := by kernel_rfl, zcells := rfl, pos := by decide, small := by decide }
end
end Go.Proofs.YtefpbljekfkefaaGreat
