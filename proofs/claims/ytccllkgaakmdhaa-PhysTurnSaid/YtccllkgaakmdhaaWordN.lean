/- word.Add, Need, and carrackref01's. -/
import Derived.Test.YtccllkgaakmdhaaHeadC
import Derived.Laws.Externs
namespace Go.Proofs.Ytccllkgaakmdhaa
open Go.RowKit

def addB (a b : UInt64) : Bool := decide (a.toNat + b.toNat < 18446744073709551616)
def addU (a b : UInt64) : UInt64 := if addB a b then a + b else 0
theorem addU_yes {a b : UInt64} (h : addB a b = true) : addU a b = a + b ∧ (a + b).toNat = a.toNat + b.toNat := by
  have h' : a.toNat + b.toNat < 18446744073709551616 := of_decide_eq_true h
  exact ⟨if_pos h, by rw [UInt64.toNat_add]; omega⟩
theorem addU_no {a b : UInt64} (h : addB a b = false) : addU a b = 0 := if_neg (by rw [h]; decide)

theorem add64_run (x y : Nat) (hx : x < 18446744073709551616) (hy : y < 18446744073709551616) (w : World) :
    (callFunc 126 #[.int .u64 (x : Int), .int .u64 (y : Int), .int .u64 0]).run Try.prog w =
      .ok (.value (.tuple #[.int .u64 (((x + y) % 18446744073709551616 : Nat) : Int), .int .u64 (((x + y) / 18446744073709551616 : Nat) : Int)])) w := by
  rw [run_callFunc_extern Try.func126 (by kernel_rfl) (by kernel_rfl) (by kernel_rfl) (e := add64Entry) (by kernel_rfl), run_add64 x y 0 (by omega) (by omega) (by omega) (by omega)]
  simp only [Result.andThen]
  congr 5 <;> omega

set_option maxRecDepth 100000 in
set_option maxHeartbeats 1000000 in
theorem wAdd_any (w : World) (a b : UInt64) (x y : Int) (hx : x = (a.toNat : Int)) (hy : y = (b.toNat : Int)) :
    Calls Try.prog 124 #[.int .u64 x, .int .u64 y] w fun e w' => e = .returned (.tuple #[.int .u64 ((addU a b).toNat : Int), .bool (addB a b)]) ∧ w = w' := by
  subst hx hy
  have hr := add64_run a.toNat b.toNat a.toNat_lt b.toNat_lt
  cases hb : addB a b with
  | true =>
    obtain ⟨h1, h2⟩ := addU_yes hb
    have h3 : a.toNat + b.toNat < 18446744073709551616 := of_decide_eq_true hb
    obtain ⟨s, hs⟩ : ∃ s, s = (addU a b).toNat := ⟨_, rfl⟩
    rw [Nat.mod_eq_of_lt h3, Nat.div_eq_of_lt h3, ← h2, ← h1, ← hs] at hr
    rw [← hs]
    clear hb h1 h2 h3 hs
    go_enter Try.func124, Try.ntmps124
    go_wp2_with fail
    go_ret2
    exact ⟨rfl, rfl⟩
  | false =>
    have h3 : ¬ a.toNat + b.toNat < 18446744073709551616 := of_decide_eq_false hb
    have h4 : (a.toNat + b.toNat) / 18446744073709551616 = 1 := by have := a.toNat_lt; have := b.toNat_lt; omega
    obtain ⟨s, hs⟩ : ∃ s, s = (a.toNat + b.toNat) % 18446744073709551616 := ⟨_, rfl⟩
    rw [h4, ← hs] at hr
    rw [addU_no hb]
    clear hb h3 h4 hs
    go_enter Try.func124, Try.ntmps124
    go_wp2_with fail
    go_ret2
    exact ⟨rfl, rfl⟩

set_option maxRecDepth 100000 in
set_option maxHeartbeats 1000000 in
theorem rAdd_any (w : World) (a b : UInt64) (x y : Int) (hx : x = (a.toNat : Int)) (hy : y = (b.toNat : Int)) :
    Calls Try.prog 117 #[.int .u64 x, .int .u64 y] w fun e w' => e = .returned (.tuple #[.int .u64 ((addU a b).toNat : Int), .bool (addB a b)]) ∧ w = w' := by
  subst hx hy
  have ha := a.toNat_lt
  have hbb := b.toNat_lt
  obtain ⟨c, hc⟩ : ∃ c, c = 18446744073709551615 - a.toNat := ⟨_, rfl⟩
  have e1 : IntKind.u64.wrap (18446744073709551615 - (a.toNat : Int)) = (c : Int) := by rw [IntWalk.u64_in _ (by omega)]; omega
  cases hb : addB a b with
  | true =>
    obtain ⟨h1, h2⟩ := addU_yes hb
    have h3 : a.toNat + b.toNat < 18446744073709551616 := of_decide_eq_true hb
    obtain ⟨s, hs⟩ : ∃ s, s = (addU a b).toNat := ⟨_, rfl⟩
    have e2 : IntKind.u64.wrap ((a.toNat : Int) + (b.toNat : Int)) = (s : Int) := by rw [IntWalk.u64_in _ (by omega)]; rw [hs, h1, h2]; simp
    have t1 : decide (c < b.toNat) = false := decide_eq_false (by omega)
    rw [← hs]
    clear hb h1 h2 h3 hs ha hbb hc
    go_enter Try.func117, Try.ntmps117
    go_wp2_with fail
    go_ret2
    exact ⟨rfl, rfl⟩
  | false =>
    have h3 : ¬ a.toNat + b.toNat < 18446744073709551616 := of_decide_eq_false hb
    have t1 : decide (c < b.toNat) = true := decide_eq_true (by omega)
    rw [addU_no hb]
    clear hb h3 ha hbb hc
    go_enter Try.func117, Try.ntmps117
    go_wp2_with fail
    go_ret2
    exact ⟨rfl, rfl⟩

/-! ### multiples of a power of two -/
theorem and_low (x k : Nat) : x &&& (2 ^ k - 1) = x % 2 ^ k := Nat.and_two_pow_sub_one_eq_mod x k
theorem and_high (x k : Nat) (hx : x < 2 ^ 64) (hk : k ≤ 64) : x &&& (2 ^ 64 - 2 ^ k) = x - x % 2 ^ k := by
  have e1 : 2 ^ 64 - 2 ^ k = (2 ^ (64 - k) - 1) <<< k := by
    rw [Nat.shiftLeft_eq, Nat.sub_mul, ← Nat.pow_add, Nat.sub_add_cancel hk, Nat.one_mul]
  have e2 : x - x % 2 ^ k = (x / 2 ^ k) <<< k := by
    rw [Nat.shiftLeft_eq]
    have := Nat.div_add_mod x (2 ^ k)
    rw [Nat.mul_comm] at this
    omega
  apply Nat.eq_of_testBit_eq
  intro i
  rw [e1, e2, Nat.testBit_and, Nat.testBit_shiftLeft, Nat.testBit_shiftLeft, Nat.testBit_two_pow_sub_one, Nat.testBit_div_two_pow]
  by_cases h1 : k ≤ i
  · have e : i - k + k = i := by omega
    rw [e]
    by_cases h2 : i - k < 64 - k
    · simp [h1, h2]
    · have h3 : x.testBit i = false := Nat.testBit_lt_two_pow (Nat.lt_of_lt_of_le hx (Nat.pow_le_pow_right (by decide) (by omega)))
      simp [h3]
  · simp [h1]

def needB (n : UInt64) : Bool := decide (max n.toNat 8 + 55 < 18446744073709551616)
def needU (n : UInt64) : UInt64 := if needB n then UInt64.ofNat ((max n.toNat 8 + 55) / 16 * 16) else 0
theorem needU_yes {n : UInt64} (h : needB n = true) : (needU n).toNat = (max n.toNat 8 + 55) / 16 * 16 := by
  have h' : max n.toNat 8 + 55 < 18446744073709551616 := of_decide_eq_true h
  unfold needU
  rw [if_pos h, UInt64.toNat_ofNat']
  omega

set_option maxRecDepth 100000 in
set_option maxHeartbeats 1000000 in
theorem Ones_16 (w : World) : Calls Try.prog 127 #[.int .u64 16] w fun e w' => e = .returned (.int .i64 1) ∧ w = w' := by
  go_enter Try.func127, Try.ntmps127
  go_wp2_with fail
  go_ret
  exact ⟨by kernel_rfl, rfl⟩

def up16B (n : UInt64) : Bool := if n.toNat % 16 = 0 then true else addB (n - UInt64.ofNat (n.toNat % 16)) 16
def up16U (n : UInt64) : UInt64 := if n.toNat % 16 = 0 then n else addU (n - UInt64.ofNat (n.toNat % 16)) 16
theorem need_up {n s : UInt64} (hs : s.toNat = max n.toNat 8 + 40) : up16U s = needU n ∧ up16B s = needB n := by
  have hlt := s.toNat_lt
  have hd : (s - UInt64.ofNat (s.toNat % 16)).toNat = s.toNat - s.toNat % 16 := by
    rw [UInt64.toNat_sub_of_le _ _ (by rw [UInt64.le_iff_toNat_le, UInt64.toNat_ofNat']; omega), UInt64.toNat_ofNat']
    omega
  unfold up16U up16B
  by_cases h0 : s.toNat % 16 = 0
  · rw [if_pos h0, if_pos h0]
    have hn : needB n = true := decide_eq_true (by omega)
    exact ⟨UInt64.toNat_inj.1 (by rw [needU_yes hn]; omega), hn.symm⟩
  · rw [if_neg h0, if_neg h0]
    obtain ⟨d, hdd⟩ : ∃ d, d = s - UInt64.ofNat (s.toNat % 16) := ⟨_, rfl⟩
    rw [← hdd] at hd ⊢
    have e16 : (16 : UInt64).toNat = 16 := rfl
    cases hb : addB d 16 with
    | true =>
      have h3 : d.toNat + (16 : UInt64).toNat < 18446744073709551616 := of_decide_eq_true hb
      rw [e16] at h3
      have hn : needB n = true := decide_eq_true (by omega)
      obtain ⟨a1, a2⟩ := addU_yes hb
      exact ⟨UInt64.toNat_inj.1 (by rw [needU_yes hn, a1, a2, e16]; omega), hn.symm⟩
    | false =>
      have h3 : ¬ d.toNat + (16 : UInt64).toNat < 18446744073709551616 := of_decide_eq_false hb
      rw [e16] at h3
      have hn : needB n = false := decide_eq_false (by omega)
      exact ⟨by rw [addU_no hb]; exact (if_neg (by rw [hn]; decide)).symm, hn.symm⟩

set_option maxRecDepth 100000 in
set_option maxHeartbeats 1000000 in
theorem power_16 (w : World) : Calls Try.prog 123 #[.int .u64 16] w fun e w' => e = .returned (.bool true) ∧ w = w' := by
  go_enter Try.func123, Try.ntmps123
  go_wp2_with fail
  go_loop [0] (fun v => ∃ k : Nat, k ≤ 4 ∧ v = .int .u64 ((2 ^ k : Nat) : Int)) (fun v => (intOf v).toNat)
  case atStart => exact ⟨4, by omega, rfl⟩
  case round =>
    obtain ⟨k, hk, rfl⟩ := hrel
    obtain rfl | rfl | rfl | rfl | rfl : k = 0 ∨ k = 1 ∨ k = 2 ∨ k = 3 ∨ k = 4 := by omega
    · go_wp2_with fail
      go_ret
      exact ⟨rfl, rfl⟩
    · go_wp2_with fail
      go_round
      case rel => exact ⟨0, by omega, rfl⟩
      case measure => simp [intOf]
    · go_wp2_with fail
      go_round
      case rel => exact ⟨1, by omega, rfl⟩
      case measure => simp [intOf]
    · go_wp2_with fail
      go_round
      case rel => exact ⟨2, by omega, rfl⟩
      case measure => simp [intOf]
    · go_wp2_with fail
      go_round
      case rel => exact ⟨3, by omega, rfl⟩
      case measure => simp [intOf]

set_option maxRecDepth 100000 in
set_option maxHeartbeats 1000000 in
theorem wUp_16 (w : World) (n : UInt64) (x : Int) (hx : x = (n.toNat : Int)) :
    Calls Try.prog 125 #[.int .u64 x, .int .u64 16] w fun e w' => e = .returned (.tuple #[.int .u64 ((up16U n).toNat : Int), .bool (up16B n)]) ∧ w = w' := by
  subst hx
  have hlt := n.toNat_lt
  have e1 : bits .and .u64 (n.toNat : Int) 15 = ((n.toNat % 16 : Nat) : Int) := by
    have := u64_and_nat n.toNat 15 n.toNat_lt (by decide)
    rw [and_low n.toNat 4] at this
    exact this
  have e2 : bits .andNot .u64 (n.toNat : Int) 15 = ((n.toNat - n.toNat % 16 : Nat) : Int) := by
    have := u64_andNot_nat n.toNat 15 n.toNat_lt (by decide)
    rw [show 18446744073709551615 - 15 = 2 ^ 64 - 2 ^ 4 by decide, and_high n.toNat 4 n.toNat_lt (by decide)] at this
    exact this
  obtain ⟨r, hr⟩ : ∃ r, r = n.toNat % 16 := ⟨_, rfl⟩
  obtain ⟨d, hd⟩ : ∃ d, d = n - UInt64.ofNat (n.toNat % 16) := ⟨_, rfl⟩
  have hdn : d.toNat = n.toNat - r := by
    rw [hd, UInt64.toNat_sub_of_le _ _ (by rw [UInt64.le_iff_toNat_le, UInt64.toNat_ofNat']; omega), UInt64.toNat_ofNat']
    omega
  rw [← hr] at e1 e2
  have e3 : ((n.toNat - r : Nat) : Int) = (d.toNat : Int) := by rw [hdn]
  rw [e3] at e2
  clear e3
  by_cases h0 : r = 0
  · have t1 : ((r : Int) == 0) = true := by simp [h0]
    have hu : up16B n = true ∧ up16U n = n := by
      unfold up16U up16B
      rw [← hr, if_pos h0, if_pos h0]
      exact ⟨rfl, rfl⟩
    rw [hu.1, hu.2]
    clear h0 hu hr hd hdn hlt
    go_enter Try.func125, Try.ntmps125
    go_wp2_with fail
    refine (Ones_16 w).mono ?_; rintro e w' ⟨rfl, rfl⟩
    go_wp2_with fail
    go_ret2
    exact ⟨rfl, rfl⟩
  · have t1 : ((r : Int) == 0) = false := by rw [beq_eq_false_iff_ne]; omega
    have hu : up16B n = addB d 16 ∧ up16U n = addU d 16 := by
      unfold up16U up16B
      rw [← hr, if_neg h0, if_neg h0, hd, hr]
      exact ⟨rfl, rfl⟩
    rw [hu.1, hu.2]
    have HA := Lib.hid (wAdd_any w d 16 _ _ rfl rfl)
    obtain ⟨p, hp⟩ : ∃ p, p = (addU d 16).toNat := ⟨_, rfl⟩
    obtain ⟨q, hq⟩ : ∃ q, q = addB d 16 := ⟨_, rfl⟩
    rw [← hp, ← hq] at HA ⊢
    clear h0 hu hr hd hdn hlt hp hq
    go_enter Try.func125, Try.ntmps125
    go_wp2_with fail
    refine (Ones_16 w).mono ?_; rintro e w' ⟨rfl, rfl⟩
    go_wp2_with fail
    refine HA.out.mono ?_
    rintro e w' ⟨rfl, rfl⟩
    go_wp2_with fail
    go_ret2
    exact ⟨rfl, rfl⟩

set_option maxRecDepth 100000 in
set_option maxHeartbeats 1000000 in
theorem rUp_16 (w : World) (n : UInt64) (x : Int) (hx : x = (n.toNat : Int)) :
    Calls Try.prog 118 #[.int .u64 x, .int .u64 16] w fun e w' => e = .returned (.tuple #[.int .u64 ((up16U n).toNat : Int), .bool (up16B n)]) ∧ w = w' := by
  subst hx
  have hlt := n.toNat_lt
  obtain ⟨r, hr⟩ : ∃ r, r = n.toNat % 16 := ⟨_, rfl⟩
  obtain ⟨d, hd⟩ : ∃ d, d = n - UInt64.ofNat (n.toNat % 16) := ⟨_, rfl⟩
  have hdn : d.toNat = n.toNat - r := by
    rw [hd, UInt64.toNat_sub_of_le _ _ (by rw [UInt64.le_iff_toNat_le, UInt64.toNat_ofNat']; omega), UInt64.toNat_ofNat']
    omega
  have e1 : (n.toNat : Int) % 16 = (r : Int) := by omega
  have e2 : IntKind.u64.wrap ((n.toNat : Int) - (r : Int)) = (d.toNat : Int) := by rw [IntWalk.u64_in _ (by omega)]; omega
  by_cases h0 : r = 0
  · have t1 : ((r : Int) == 0) = true := by simp [h0]
    have hu : up16B n = true ∧ up16U n = n := by
      unfold up16U up16B
      rw [← hr, if_pos h0, if_pos h0]
      exact ⟨rfl, rfl⟩
    rw [hu.1, hu.2]
    clear h0 hu hr hd hdn hlt
    go_enter Try.func118, Try.ntmps118
    go_wp2_with fail
    refine (power_16 w).mono ?_; rintro e w' ⟨rfl, rfl⟩
    go_wp2_with fail
    go_ret2
    exact ⟨rfl, rfl⟩
  · have t1 : ((r : Int) == 0) = false := by rw [beq_eq_false_iff_ne]; omega
    have hu : up16B n = addB d 16 ∧ up16U n = addU d 16 := by
      unfold up16U up16B
      rw [← hr, if_neg h0, if_neg h0, hd, hr]
      exact ⟨rfl, rfl⟩
    rw [hu.1, hu.2]
    have HA := Lib.hid (rAdd_any w d 16 _ _ rfl rfl)
    obtain ⟨p, hp⟩ : ∃ p, p = (addU d 16).toNat := ⟨_, rfl⟩
    obtain ⟨q, hq⟩ : ∃ q, q = addB d 16 := ⟨_, rfl⟩
    rw [← hp, ← hq] at HA ⊢
    clear h0 hu hr hd hdn hlt hp hq
    go_enter Try.func118, Try.ntmps118
    go_wp2_with fail
    refine (power_16 w).mono ?_; rintro e w' ⟨rfl, rfl⟩
    go_wp2_with fail
    refine HA.out.mono ?_
    rintro e w' ⟨rfl, rfl⟩
    go_wp2_with fail
    go_ret2
    exact ⟨rfl, rfl⟩

set_option maxRecDepth 100000 in
set_option maxHeartbeats 2000000 in
theorem wNeed_any (w : World) (n : UInt64) (x : Int) (hx : x = (n.toNat : Int)) :
    Calls Try.prog 122 #[.int .u64 x] w fun e w' => e = .returned (.tuple #[.int .u64 ((needU n).toNat : Int), .bool (needB n)]) ∧ w = w' := by
  subst hx
  by_cases h8 : n = 8
  · subst h8
    obtain ⟨n, hn8⟩ : ∃ n : UInt64, n = 8 := ⟨_, rfl⟩
    rw [← hn8]
    have en : (n.toNat : Int) = 8 := by rw [hn8]; rfl
    have hmn := Lib.hid (show (8 : UInt64).toNat = max n.toNat 8 by rw [hn8]; rfl)
    clear hn8
    have HA := Lib.hid (wAdd_any w 8 40 _ _ rfl rfl)
    cases hb : addB 8 40 with
    | false =>
      have h3 : ¬ (8 : UInt64).toNat + 40 < 18446744073709551616 := of_decide_eq_false hb
      have hn : needB n = false := decide_eq_false (by have hmn := hmn.out; omega)
      have hu : needU n = 0 := if_neg (by rw [hn]; decide)
      rw [hn, hu]
      rw [hb, addU_no hb] at HA
      clear hb h3 hn hu
      go_enter Try.func122, Try.ntmps122
      go_wp2_with fail
      refine HA.out.mono ?_
      rintro e w' ⟨rfl, rfl⟩
      go_wp2_with fail
      go_ret2
      exact ⟨rfl, rfl⟩
    | true =>
      obtain ⟨h1, h2⟩ := addU_yes hb
      have h3 : (8 : UInt64).toNat + 40 < 18446744073709551616 := of_decide_eq_true hb
      rw [hb, h1] at HA
      obtain ⟨s, hs⟩ : ∃ s, s = (8 : UInt64) + 40 := ⟨_, rfl⟩
      rw [← hs] at HA h2
      have hsn : s.toNat = max n.toNat 8 + 40 := by rw [h2, ← hmn.out]; rfl
      have hu := need_up hsn
      have HU := Lib.hid (wUp_16 w s _ rfl)
      rw [hu.1, hu.2] at HU
      obtain ⟨r1, hr1⟩ : ∃ r, r = (needU n).toNat := ⟨_, rfl⟩
      obtain ⟨r2, hr2⟩ : ∃ r, r = needB n := ⟨_, rfl⟩
      rw [← hr1, ← hr2] at HU ⊢
      clear hb h1 h2 h3 hs hsn hu hr1 hr2
      go_enter Try.func122, Try.ntmps122
      go_wp2_with fail
      refine HA.out.mono ?_
      rintro e w' ⟨rfl, rfl⟩
      go_wp2_with fail
      refine HU.out.mono ?_
      rintro e w' ⟨rfl, rfl⟩
      go_wp2_with fail
      go_ret2
      exact ⟨rfl, rfl⟩
  · by_cases hlt : n.toNat < 8
    · have hmn := Lib.hid (show (8 : UInt64).toNat = max n.toNat 8 by rw [Nat.max_eq_right (by omega)]; rfl)
      have g1 : (n.toNat : Int) < 8 := by omega
      clear h8
      have HA := Lib.hid (wAdd_any w 8 40 _ _ rfl rfl)
      cases hb : addB 8 40 with
      | false =>
        have h3 : ¬ (8 : UInt64).toNat + 40 < 18446744073709551616 := of_decide_eq_false hb
        have hn : needB n = false := decide_eq_false (by have hmn := hmn.out; omega)
        have hu : needU n = 0 := if_neg (by rw [hn]; decide)
        rw [hn, hu]
        rw [hb, addU_no hb] at HA
        clear hb h3 hn hu
        go_enter Try.func122, Try.ntmps122
        go_wp2_with fail
        refine HA.out.mono ?_
        rintro e w' ⟨rfl, rfl⟩
        go_wp2_with fail
        go_ret2
        exact ⟨rfl, rfl⟩
      | true =>
        obtain ⟨h1, h2⟩ := addU_yes hb
        have h3 : (8 : UInt64).toNat + 40 < 18446744073709551616 := of_decide_eq_true hb
        rw [hb, h1] at HA
        obtain ⟨s, hs⟩ : ∃ s, s = (8 : UInt64) + 40 := ⟨_, rfl⟩
        rw [← hs] at HA h2
        have hsn : s.toNat = max n.toNat 8 + 40 := by rw [h2, ← hmn.out]; rfl
        have hu := need_up hsn
        have HU := Lib.hid (wUp_16 w s _ rfl)
        rw [hu.1, hu.2] at HU
        obtain ⟨r1, hr1⟩ : ∃ r, r = (needU n).toNat := ⟨_, rfl⟩
        obtain ⟨r2, hr2⟩ : ∃ r, r = needB n := ⟨_, rfl⟩
        rw [← hr1, ← hr2] at HU ⊢
        clear hb h1 h2 h3 hs hsn hu hr1 hr2
        go_enter Try.func122, Try.ntmps122
        go_wp2_with fail
        refine HA.out.mono ?_
        rintro e w' ⟨rfl, rfl⟩
        go_wp2_with fail
        refine HU.out.mono ?_
        rintro e w' ⟨rfl, rfl⟩
        go_wp2_with fail
        go_ret2
        exact ⟨rfl, rfl⟩
    · have h9 : n.toNat ≠ 8 := fun e => h8 (UInt64.toNat_inj.1 e)
      have hmn := Lib.hid (show n.toNat = max n.toNat 8 by rw [Nat.max_eq_left (by omega)])
      have g1 : (8 : Int) < (n.toNat : Int) := by omega
      clear h8 h9 hlt
      have HA := Lib.hid (wAdd_any w n 40 _ _ rfl rfl)
      cases hb : addB n 40 with
      | false =>
        have h3 : ¬ (n : UInt64).toNat + 40 < 18446744073709551616 := of_decide_eq_false hb
        have hn : needB n = false := decide_eq_false (by have hmn := hmn.out; omega)
        have hu : needU n = 0 := if_neg (by rw [hn]; decide)
        rw [hn, hu]
        rw [hb, addU_no hb] at HA
        clear hb h3 hn hu
        go_enter Try.func122, Try.ntmps122
        go_wp2_with fail
        refine HA.out.mono ?_
        rintro e w' ⟨rfl, rfl⟩
        go_wp2_with fail
        go_ret2
        exact ⟨rfl, rfl⟩
      | true =>
        obtain ⟨h1, h2⟩ := addU_yes hb
        have h3 : (n : UInt64).toNat + 40 < 18446744073709551616 := of_decide_eq_true hb
        rw [hb, h1] at HA
        obtain ⟨s, hs⟩ : ∃ s, s = (n : UInt64) + 40 := ⟨_, rfl⟩
        rw [← hs] at HA h2
        have hsn : s.toNat = max n.toNat 8 + 40 := by rw [h2, ← hmn.out]; rfl
        have hu := need_up hsn
        have HU := Lib.hid (wUp_16 w s _ rfl)
        rw [hu.1, hu.2] at HU
        obtain ⟨r1, hr1⟩ : ∃ r, r = (needU n).toNat := ⟨_, rfl⟩
        obtain ⟨r2, hr2⟩ : ∃ r, r = needB n := ⟨_, rfl⟩
        rw [← hr1, ← hr2] at HU ⊢
        clear hb h1 h2 h3 hs hsn hu hr1 hr2
        go_enter Try.func122, Try.ntmps122
        go_wp2_with fail
        refine HA.out.mono ?_
        rintro e w' ⟨rfl, rfl⟩
        go_wp2_with fail
        refine HU.out.mono ?_
        rintro e w' ⟨rfl, rfl⟩
        go_wp2_with fail
        go_ret2
        exact ⟨rfl, rfl⟩

set_option maxRecDepth 100000 in
set_option maxHeartbeats 2000000 in
theorem rNeed_any (w : World) (n : UInt64) (x : Int) (hx : x = (n.toNat : Int)) :
    Calls Try.prog 105 #[.int .u64 x] w fun e w' => e = .returned (.tuple #[.int .u64 ((needU n).toNat : Int), .bool (needB n)]) ∧ w = w' := by
  subst hx
  by_cases h8 : n = 8
  · subst h8
    obtain ⟨n, hn8⟩ : ∃ n : UInt64, n = 8 := ⟨_, rfl⟩
    rw [← hn8]
    have en : (n.toNat : Int) = 8 := by rw [hn8]; rfl
    have hmn := Lib.hid (show (8 : UInt64).toNat = max n.toNat 8 by rw [hn8]; rfl)
    clear hn8
    have HA := Lib.hid (rAdd_any w 8 40 _ _ rfl rfl)
    cases hb : addB 8 40 with
    | false =>
      have h3 : ¬ (8 : UInt64).toNat + 40 < 18446744073709551616 := of_decide_eq_false hb
      have hn : needB n = false := decide_eq_false (by have hmn := hmn.out; omega)
      have hu : needU n = 0 := if_neg (by rw [hn]; decide)
      rw [hn, hu]
      rw [hb, addU_no hb] at HA
      clear hb h3 hn hu
      go_enter Try.func105, Try.ntmps105
      go_wp2_with fail
      refine HA.out.mono ?_
      rintro e w' ⟨rfl, rfl⟩
      go_wp2_with fail
      go_ret2
      exact ⟨rfl, rfl⟩
    | true =>
      obtain ⟨h1, h2⟩ := addU_yes hb
      have h3 : (8 : UInt64).toNat + 40 < 18446744073709551616 := of_decide_eq_true hb
      rw [hb, h1] at HA
      obtain ⟨s, hs⟩ : ∃ s, s = (8 : UInt64) + 40 := ⟨_, rfl⟩
      rw [← hs] at HA h2
      have hsn : s.toNat = max n.toNat 8 + 40 := by rw [h2, ← hmn.out]; rfl
      have hu := need_up hsn
      have HU := Lib.hid (rUp_16 w s _ rfl)
      rw [hu.1, hu.2] at HU
      obtain ⟨r1, hr1⟩ : ∃ r, r = (needU n).toNat := ⟨_, rfl⟩
      obtain ⟨r2, hr2⟩ : ∃ r, r = needB n := ⟨_, rfl⟩
      rw [← hr1, ← hr2] at HU ⊢
      clear hb h1 h2 h3 hs hsn hu hr1 hr2
      go_enter Try.func105, Try.ntmps105
      go_wp2_with fail
      refine HA.out.mono ?_
      rintro e w' ⟨rfl, rfl⟩
      go_wp2_with fail
      refine HU.out.mono ?_
      rintro e w' ⟨rfl, rfl⟩
      go_wp2_with fail
      go_ret2
      exact ⟨rfl, rfl⟩
  · by_cases hlt : n.toNat < 8
    · have hmn := Lib.hid (show (8 : UInt64).toNat = max n.toNat 8 by rw [Nat.max_eq_right (by omega)]; rfl)
      have g1 : (n.toNat : Int) < 8 := by omega
      clear h8
      have HA := Lib.hid (rAdd_any w 8 40 _ _ rfl rfl)
      cases hb : addB 8 40 with
      | false =>
        have h3 : ¬ (8 : UInt64).toNat + 40 < 18446744073709551616 := of_decide_eq_false hb
        have hn : needB n = false := decide_eq_false (by have hmn := hmn.out; omega)
        have hu : needU n = 0 := if_neg (by rw [hn]; decide)
        rw [hn, hu]
        rw [hb, addU_no hb] at HA
        clear hb h3 hn hu
        go_enter Try.func105, Try.ntmps105
        go_wp2_with fail
        refine HA.out.mono ?_
        rintro e w' ⟨rfl, rfl⟩
        go_wp2_with fail
        go_ret2
        exact ⟨rfl, rfl⟩
      | true =>
        obtain ⟨h1, h2⟩ := addU_yes hb
        have h3 : (8 : UInt64).toNat + 40 < 18446744073709551616 := of_decide_eq_true hb
        rw [hb, h1] at HA
        obtain ⟨s, hs⟩ : ∃ s, s = (8 : UInt64) + 40 := ⟨_, rfl⟩
        rw [← hs] at HA h2
        have hsn : s.toNat = max n.toNat 8 + 40 := by rw [h2, ← hmn.out]; rfl
        have hu := need_up hsn
        have HU := Lib.hid (rUp_16 w s _ rfl)
        rw [hu.1, hu.2] at HU
        obtain ⟨r1, hr1⟩ : ∃ r, r = (needU n).toNat := ⟨_, rfl⟩
        obtain ⟨r2, hr2⟩ : ∃ r, r = needB n := ⟨_, rfl⟩
        rw [← hr1, ← hr2] at HU ⊢
        clear hb h1 h2 h3 hs hsn hu hr1 hr2
        go_enter Try.func105, Try.ntmps105
        go_wp2_with fail
        refine HA.out.mono ?_
        rintro e w' ⟨rfl, rfl⟩
        go_wp2_with fail
        refine HU.out.mono ?_
        rintro e w' ⟨rfl, rfl⟩
        go_wp2_with fail
        go_ret2
        exact ⟨rfl, rfl⟩
    · have h9 : n.toNat ≠ 8 := fun e => h8 (UInt64.toNat_inj.1 e)
      have hmn := Lib.hid (show n.toNat = max n.toNat 8 by rw [Nat.max_eq_left (by omega)])
      have g1 : (8 : Int) < (n.toNat : Int) := by omega
      clear h8 h9 hlt
      have HA := Lib.hid (rAdd_any w n 40 _ _ rfl rfl)
      cases hb : addB n 40 with
      | false =>
        have h3 : ¬ (n : UInt64).toNat + 40 < 18446744073709551616 := of_decide_eq_false hb
        have hn : needB n = false := decide_eq_false (by have hmn := hmn.out; omega)
        have hu : needU n = 0 := if_neg (by rw [hn]; decide)
        rw [hn, hu]
        rw [hb, addU_no hb] at HA
        clear hb h3 hn hu
        go_enter Try.func105, Try.ntmps105
        go_wp2_with fail
        refine HA.out.mono ?_
        rintro e w' ⟨rfl, rfl⟩
        go_wp2_with fail
        go_ret2
        exact ⟨rfl, rfl⟩
      | true =>
        obtain ⟨h1, h2⟩ := addU_yes hb
        have h3 : (n : UInt64).toNat + 40 < 18446744073709551616 := of_decide_eq_true hb
        rw [hb, h1] at HA
        obtain ⟨s, hs⟩ : ∃ s, s = (n : UInt64) + 40 := ⟨_, rfl⟩
        rw [← hs] at HA h2
        have hsn : s.toNat = max n.toNat 8 + 40 := by rw [h2, ← hmn.out]; rfl
        have hu := need_up hsn
        have HU := Lib.hid (rUp_16 w s _ rfl)
        rw [hu.1, hu.2] at HU
        obtain ⟨r1, hr1⟩ : ∃ r, r = (needU n).toNat := ⟨_, rfl⟩
        obtain ⟨r2, hr2⟩ : ∃ r, r = needB n := ⟨_, rfl⟩
        rw [← hr1, ← hr2] at HU ⊢
        clear hb h1 h2 h3 hs hsn hu hr1 hr2
        go_enter Try.func105, Try.ntmps105
        go_wp2_with fail
        refine HA.out.mono ?_
        rintro e w' ⟨rfl, rfl⟩
        go_wp2_with fail
        refine HU.out.mono ?_
        rintro e w' ⟨rfl, rfl⟩
        go_wp2_with fail
        go_ret2
        exact ⟨rfl, rfl⟩
end Go.Proofs.Ytccllkgaakmdhaa
