/- carrackref04.Check. -/
import Derived.Test.YtccllkgaakmdhaaHeadC
import Derived.Test.YtccllkgaakmdhaaRef4
namespace Go.Proofs.Ytccllkgaakmdhaa
open Go.RowKit

theorem quiet_calls {P : Program} {f : FuncId} {args : Array Value} {w : World} {v : Value} (h : Calls P f args w fun e w' => e = .returned v ∧ w = w') : Calls P f args w fun e w' => e = .returned v ∧ w' = w :=
  h.mono fun _ _ ⟨a, b⟩ => ⟨a, b.symm⟩
theorem keeps_drewN (w : World) (n : Nat) : Keeps Nil w (w.drewN n) := ⟨rfl, rfl, rfl, Nat.le_refl _, fun _ _ _ => rfl⟩
theorem loadV_at {ws : List UInt64} {off : UInt64} {i : Nat} (ho : off.toNat = 8 * i) (hi : i < ws.length) : loadV ws off = ws[i]?.getD 0 := by
  have hin : inB ws off = true := by rw [inB_iff, ho]; omega
  unfold loadV
  rw [if_pos hin, ho, show 8 * i / 8 = i by omega]
theorem chk_short {ws : List UInt64} (h : ws.length < 6) (g : UInt64 → UInt64) : chkE (8 * ws.length) g = 12 := by
  have : fitsN (g 16) (8 * ws.length) = false := decide_eq_false (fun e => by omega)
  simp [chkE, codeOf, chkB, this]
theorem chk_long {ws : List UInt64} (h : 6 ≤ ws.length) : chkB (8 * ws.length) (loadV ws) = (ws[0]?.getD 0 == magicU && ws[1]?.getD 0 == 1 && ws[5]?.getD 0 == sumU (ws[2]?.getD 0) && fitsN (ws[2]?.getD 0) (8 * ws.length)) := by
  unfold chkB
  rw [loadV_at (off := 0) (i := 0) (by decide) (by omega), loadV_at (off := 8) (i := 1) (by decide) (by omega), loadV_at (off := 40) (i := 5) (by decide) (by omega), loadV_at (off := 16) (i := 2) (by decide) (by omega)]
theorem magic_ne {a : UInt64} (h : a ≠ magicU) : ((a.toNat : Int) != 7161130718081542961) = true := by rw [← magic_int]; exact (unlike_u64 h).1
theorem magic_same {a : UInt64} (h : a = magicU) : ((a.toNat : Int) != 7161130718081542961) = false := by rw [← magic_int]; exact (same_u64 h).1

set_option maxRecDepth 100000 in
set_option maxHeartbeats 2000000 in
theorem rCheck_any {S : Nat → Prop} {w : World} {v : Value} {ws : List UInt64} (h : View kU S w v ws) (hl : ws.length ≤ 131072) :
    Calls Try.prog 59 #[v] w fun e w' => e = .returned (.int .i64 (chkE (8 * ws.length) (loadV ws))) ∧ Keeps Nil w w' := by
  by_cases h6 : ws.length < 6
  · obtain ⟨a, c, rfl, _⟩ := h.val
    rw [chk_short h6]
    obtain ⟨n, hn⟩ : ∃ n, n = ws.length := ⟨_, rfl⟩
    rw [← hn] at h6 ⊢
    clear hn h hl
    have t1 : decide ((n : Int) < 6) = true := by simp; omega
    go_enter Try.func59, Try.ntmps59
    go_wp2_with fail
    go_quiet (fail)
    go_wp2_with fail
    go_ret
    exact ⟨rfl, keeps_drewN _ _⟩
  · obtain ⟨b, o, cap, rfl, hc, hm, hb, _, hcell⟩ := h.pos (by omega)
    have k0 := View.cellU hcell 0 (by omega)
    rw [Nat.add_zero] at k0
    have k1 := View.cellU hcell 1 (by omega)
    have k2 := View.cellU hcell 2 (by omega)
    have k5 := View.cellU hcell 5 (by omega)
    have HN := chk_long (ws := ws) (by omega)
    obtain ⟨n, hn⟩ : ∃ n, n = ws.length := ⟨_, rfl⟩
    rw [← hn] at h6 hl HN hc ⊢
    obtain ⟨a0, h0⟩ : ∃ a, a = ws[0]?.getD 0 := ⟨_, rfl⟩
    obtain ⟨a1, h1⟩ : ∃ a, a = ws[1]?.getD 0 := ⟨_, rfl⟩
    obtain ⟨a2, h2⟩ : ∃ a, a = ws[2]?.getD 0 := ⟨_, rfl⟩
    obtain ⟨a5, h5⟩ : ∃ a, a = ws[5]?.getD 0 := ⟨_, rfl⟩
    rw [← h0] at k0 HN
    rw [← h1] at k1 HN
    rw [← h2] at k2 HN
    rw [← h5] at k5 HN
    unfold chkE
    rw [HN]
    obtain ⟨r, hr⟩ : ∃ r, r = codeOf (a0 == magicU && a1 == 1 && a5 == sumU a2 && fitsN a2 (8 * n)) := ⟨_, rfl⟩
    rw [← hr]
    have HR := Lib.hid hr
    clear hr
    clear h0 h1 h2 h5 hn h hcell HN hb hm
    have t0 : decide ((n : Int) < 6) = false := by simp; omega
    have t1 : decide (n < 6) = false := by simp; omega
    have g0 : 0 < n := by omega
    have n1 : 1 < n := by omega
    have n2 : 2 < n := by omega
    have n5 : 5 < n := by omega
    have g1 : (1 : Int) < (n : Int) := by omega
    have g2 : (2 : Int) < (n : Int) := by omega
    have g5 : (5 : Int) < (n : Int) := by omega
    have e1 : IntKind.u64.wrap (n : Int) = (n : Int) := IntWalk.u64_in _ (by omega)
    have e2 : IntKind.u64.wrap (8 * (n : Int)) = 8 * (n : Int) := IntWalk.u64_in _ (by omega)
    by_cases c0 : a0 = magicU
    · have q0 := magic_same c0
      by_cases c1 : a1 = 1
      · have q1 : ((a1.toNat : Int) != 1) = false := (same_u64 c1).1
        cases hf : fitsN a2 (8 * n) with
        | true =>
          have HF := Lib.hid hf
          by_cases c5 : a5 = sumU a2
          · have q5 := (same_u64 c5).1
            have HC := Lib.hid (And.intro c0 (And.intro c1 c5))
            clear c0 c1 c5 hf h6
            go_enter Try.func59, Try.ntmps59
            go_wp2_with fail
            go_quiet (((first | (go_at_call 48; exact Calls.quiet_of_same (quiet_calls (HF.out ▸ rFits_any _ a2 (8 * n) _ _ rfl (by simp)))) | (go_at_call 55; exact Calls.quiet_of_same (quiet_calls (rSum_any _ a2 _ rfl))))))
            go_wp2_with fail
            go_ret
            exact ⟨by rw [HR.out]; simp [codeOf, HC.out, HF.out], keeps_drewN _ _⟩
          · have q5 := (unlike_u64 c5).1
            have HC := Lib.hid (And.intro c0 (And.intro c1 c5))
            clear c0 c1 c5 hf h6
            go_enter Try.func59, Try.ntmps59
            go_wp2_with fail
            go_quiet (((first | (go_at_call 48; exact Calls.quiet_of_same (quiet_calls (HF.out ▸ rFits_any _ a2 (8 * n) _ _ rfl (by simp)))) | (go_at_call 55; exact Calls.quiet_of_same (quiet_calls (rSum_any _ a2 _ rfl))))))
            go_wp2_with fail
            go_ret
            exact ⟨by rw [HR.out]; simp [codeOf, HC.out, HF.out], keeps_drewN _ _⟩
        | false =>
          have HF := Lib.hid hf
          have HC := Lib.hid (And.intro c0 c1)
          clear c0 c1 hf h6
          go_enter Try.func59, Try.ntmps59
          go_wp2_with fail
          go_quiet (((first | (go_at_call 48; exact Calls.quiet_of_same (quiet_calls (HF.out ▸ rFits_any _ a2 (8 * n) _ _ rfl (by simp)))) | (go_at_call 55; exact Calls.quiet_of_same (quiet_calls (rSum_any _ a2 _ rfl))))))
          go_wp2_with fail
          go_ret
          exact ⟨by rw [HR.out]; simp [codeOf, HC.out, HF.out], keeps_drewN _ _⟩
      · have q1 : ((a1.toNat : Int) != 1) = true := (unlike_u64 c1).1
        have HC := Lib.hid (And.intro c0 c1)
        clear c0 c1 h6
        go_enter Try.func59, Try.ntmps59
        go_wp2_with fail
        go_quiet (fail)
        go_wp2_with fail
        go_ret
        exact ⟨by rw [HR.out]; simp [codeOf, HC.out], keeps_drewN _ _⟩
    · have q0 := magic_ne c0
      have HC := Lib.hid c0
      clear c0 h6
      go_enter Try.func59, Try.ntmps59
      go_wp2_with fail
      go_quiet (fail)
      go_wp2_with fail
      go_ret
      exact ⟨by rw [HR.out]; simp [codeOf, HC.out], keeps_drewN _ _⟩
end Go.Proofs.Ytccllkgaakmdhaa
