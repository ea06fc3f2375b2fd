/- carracklaw04.HeadNobody. -/
import Derived.Test.YtccllkgaakmdhaaLH
namespace Go.Proofs.Ytccllkgaakmdhaa
open Go.RowKit

theorem mul_gold {x y : UInt64} (h : x * goldU = y * goldU) : x = y := by
  have hi : goldU * 17428512612931826493 = 1 := by decide
  have := congrArg (· * (17428512612931826493 : UInt64)) h
  simpa only [UInt64.mul_assoc, hi, UInt64.mul_one] using this
theorem sum_inj {a b : UInt64} : sumU a = sumU b ↔ a = b := by
  refine ⟨fun h => ?_, fun h => by rw [h]⟩
  have h1 : magicU ^^^ a = magicU ^^^ b := mul_gold h
  have := congrArg (magicU ^^^ ·) h1
  simpa [← UInt64.xor_assoc] using this

set_option maxRecDepth 100000 in
set_option maxHeartbeats 2000000 in
theorem hnobody_any {w : World} (a b : UInt64) : Calls Try.prog 9 #[.int .u64 (a.toNat : Int), .int .u64 (b.toNat : Int)] w fun e w' => e = .returned (.bool true) ∧ Keeps Nil w w' := by
  have hE : chkE 0 (fun _ => 0) = 12 := by decide
  have t1 : (((sumU a).toNat : Int) == ((sumU b).toNat : Int)) = ((a.toNat : Int) == (b.toNat : Int)) := by
    by_cases e : a = b
    · subst e; simp
    · rw [(unlike_u64 e).2, (unlike_u64 (fun h => e (sum_inj.1 h))).2]
  obtain ⟨x, hx⟩ : ∃ x : Bool, x = ((a.toNat : Int) == (b.toNat : Int)) := ⟨_, rfl⟩
  rw [← hx] at t1
  have t2 := hx.symm
  clear hx
  have hE' := Lib.hid hE
  clear hE
  go_enter Try.func9, Try.ntmps9
  go_wp2_with fail
  refine (awake4 _).mono ?_
  rintro e w1 ⟨rfl, k1⟩
  have H1 := Lib.hid k1
  clear k1
  go_wp2_with fail
  refine (Format_nil _ _).mono ?_
  rintro e w2 ⟨rfl, k2⟩
  have H2 := Lib.hid (H1.out.trans' k2)
  clear k2
  go_wp2_with fail
  refine (hResize_nil _ a _ rfl).mono ?_
  rintro e w' ⟨rfl, rfl⟩
  go_wp2_with fail
  refine (hPlant_nil _ _).mono ?_
  rintro e w' ⟨rfl, rfl⟩
  go_wp2_with fail
  refine (hCheck_any (Reads.nil w2)).mono ?_
  rintro e w3 ⟨rfl, k3⟩
  rw [hE'.out]
  have H3 := Lib.hid (H2.out.trans' k3)
  clear k3
  go_wp2_with fail
  refine (hSize_any (Reads.nil w3)).mono ?_
  rintro e w4 ⟨rfl, k4⟩
  have H4 := Lib.hid (H3.out.trans' k4)
  clear k4
  go_wp2_with fail
  refine (hRoot_any (Reads.nil w4)).mono ?_
  rintro e w5 ⟨rfl, k5⟩
  have H5 := Lib.hid (H4.out.trans' k5)
  clear k5
  go_wp2_with fail
  refine (Sum_any _ a _ rfl).mono ?_
  rintro e w' ⟨rfl, rfl⟩
  go_wp2_with fail
  refine (Sum_any _ b _ rfl).mono ?_
  rintro e w' ⟨rfl, rfl⟩
  go_wp2_with fail
  refine (Sum_any _ a _ rfl).mono ?_
  rintro e w' ⟨rfl, rfl⟩
  go_wp2_with fail
  refine (rSum_any _ a _ rfl).mono ?_
  rintro e w' ⟨rfl, rfl⟩
  go_wp2_with fail
  go_ret
  exact ⟨rfl, H5.out⟩
end Go.Proofs.Ytccllkgaakmdhaa
