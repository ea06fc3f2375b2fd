/- Layer 4 (head) and its reference: a size that fits, the checksum. -/
import Derived.Test.YtccllkgaakmdhaaLive
namespace Go.Proofs.Ytccllkgaakmdhaa
open Go.RowKit

def magicU : UInt64 := 7161130718081542961
def goldU : UInt64 := 11400714819323198485
def sumU (x : UInt64) : UInt64 := (magicU ^^^ x) * goldU
def fitsN (a : UInt64) (n : Nat) : Bool := decide (a.toNat % 16 = 0 ∧ 3824 ≤ a.toNat ∧ a.toNat ≤ n)

theorem gold_int : (goldU.toNat : Int) = 11400714819323198485 := by decide
theorem mix_eq (a : UInt64) : IntKind.u64.wrap ((a.toNat : Int) * 11400714819323198485) = ((a * goldU).toNat : Int) := by
  rw [← gold_int]; exact Go.Proofs.Ytccllkgaakmdhaa.u64_mul a goldU
theorem magic_int : (magicU.toNat : Int) = 7161130718081542961 := by decide
theorem sum_eq (a : UInt64) : bits .xor .u64 7161130718081542961 (a.toNat : Int) = ((magicU ^^^ a).toNat : Int) := by
  rw [← magic_int]; exact Go.Proofs.Ytccllkgaakmdhaa.u64_xor magicU a
theorem wMix_any (w : World) (a : UInt64) (x : Int) (hx : x = (a.toNat : Int)) :
    Calls Try.prog 97 #[.int .u64 x] w fun e w' => e = .returned (.int .u64 ↑(a * goldU).toNat) ∧ w = w' := by
  subst hx
  obtain ⟨r, hr⟩ : ∃ r : Nat, r = (a * goldU).toNat := ⟨_, rfl⟩
  have h1 : IntKind.u64.wrap ((a.toNat : Int) * 11400714819323198485) = (r : Int) := by rw [hr]; exact mix_eq a
  rw [← hr]
  clear hr
  go_enter Try.func97, Try.ntmps97
  go_wp2_with fail
  go_ret
  exact ⟨rfl, rfl⟩
theorem rMix_any (w : World) (a : UInt64) (x : Int) (hx : x = (a.toNat : Int)) :
    Calls Try.prog 98 #[.int .u64 x] w fun e w' => e = .returned (.int .u64 ↑(a * goldU).toNat) ∧ w = w' := by
  subst hx
  obtain ⟨r, hr⟩ : ∃ r : Nat, r = (a * goldU).toNat := ⟨_, rfl⟩
  have h1 : IntKind.u64.wrap ((a.toNat : Int) * 11400714819323198485) = (r : Int) := by rw [hr]; exact mix_eq a
  rw [← hr]
  clear hr
  go_enter Try.func98, Try.ntmps98
  go_wp2_with fail
  go_ret
  exact ⟨rfl, rfl⟩
theorem Sum_any (w : World) (a : UInt64) (x : Int) (hx : x = (a.toNat : Int)) :
    Calls Try.prog 54 #[.int .u64 x] w fun e w' => e = .returned (.int .u64 ↑(sumU a).toNat) ∧ w = w' := by
  subst hx
  have e1 : sumU a = (magicU ^^^ a) * goldU := rfl
  rw [e1]
  clear e1
  obtain ⟨b, hb⟩ : ∃ b, b = magicU ^^^ a := ⟨_, rfl⟩
  have h1 : bits .xor .u64 7161130718081542961 (a.toNat : Int) = (b.toNat : Int) := by rw [hb]; exact sum_eq a
  rw [← hb]
  clear hb
  have HM := Lib.hid (wMix_any w b _ rfl)
  obtain ⟨r, hr⟩ : ∃ r : Nat, r = (b * goldU).toNat := ⟨_, rfl⟩
  rw [← hr] at HM ⊢
  clear hr
  go_enter Try.func54, Try.ntmps54
  go_wp2_with fail
  refine HM.out.mono ?_
  rintro e _ ⟨rfl, rfl⟩
  go_wp2_with fail
  go_ret
  exact ⟨rfl, rfl⟩
theorem rSum_any (w : World) (a : UInt64) (x : Int) (hx : x = (a.toNat : Int)) :
    Calls Try.prog 55 #[.int .u64 x] w fun e w' => e = .returned (.int .u64 ↑(sumU a).toNat) ∧ w = w' := by
  subst hx
  have e1 : sumU a = (magicU ^^^ a) * goldU := rfl
  rw [e1]
  clear e1
  obtain ⟨b, hb⟩ : ∃ b, b = magicU ^^^ a := ⟨_, rfl⟩
  have h1 : bits .xor .u64 7161130718081542961 (a.toNat : Int) = (b.toNat : Int) := by rw [hb]; exact sum_eq a
  rw [← hb]
  clear hb
  have HM := Lib.hid (rMix_any w b _ rfl)
  obtain ⟨r, hr⟩ : ∃ r : Nat, r = (b * goldU).toNat := ⟨_, rfl⟩
  rw [← hr] at HM ⊢
  clear hr
  go_enter Try.func55, Try.ntmps55
  go_wp2_with fail
  refine HM.out.mono ?_
  rintro e _ ⟨rfl, rfl⟩
  go_wp2_with fail
  go_ret
  exact ⟨rfl, rfl⟩

theorem fits_any (w : World) (a : UInt64) (b : Nat) (x y : Int) (hx : x = (a.toNat : Int)) (hy : y = (b : Int)) :
    Calls Try.prog 93 #[.int .u64 x, .int .u64 y] w fun e w' => e = .returned (.bool (fitsN a b)) ∧ w = w' := by
  subst hx hy
  have e1 : IntKind.u64.wrap ((a.toNat : Int) % 16) = (a.toNat : Int) % 16 := IntWalk.u64_in _ (by omega)
  have e2 : IntKind.u64.wrap ((a.toNat : Int).tmod 16) = (a.toNat : Int) % 16 := by rw [Int.tmod_eq_emod_of_nonneg (by omega)]; exact e1
  by_cases h1 : a.toNat % 16 = 0
  · have k1 : (a.toNat : Int) % 16 = 0 := by omega
    by_cases h2 : 3824 ≤ a.toNat
    · have k2 : (3824 : Int) ≤ (a.toNat : Int) := by omega
      by_cases h3 : a.toNat ≤ b
      · have k3 : (a.toNat : Int) ≤ (b : Int) := by omega
        have hf : fitsN a b = true := decide_eq_true ⟨h1, h2, h3⟩
        rw [hf]
        clear hf h1 h2 h3
        go_enter Try.func93, Try.ntmps93
        go_wp2_with fail
        go_ret
        exact ⟨rfl, rfl⟩
      · have k3 : ¬ (a.toNat : Int) ≤ (b : Int) := by omega
        have hf : fitsN a b = false := decide_eq_false (fun h => h3 h.2.2)
        rw [hf]
        clear hf h1 h2 h3
        go_enter Try.func93, Try.ntmps93
        go_wp2_with fail
        go_ret
        exact ⟨rfl, rfl⟩
    · have k2 : ¬ (3824 : Int) ≤ (a.toNat : Int) := by omega
      have hf : fitsN a b = false := decide_eq_false (fun h => h2 h.2.1)
      rw [hf]
      clear hf h1 h2
      go_enter Try.func93, Try.ntmps93
      go_wp2_with fail
      go_ret
      exact ⟨rfl, rfl⟩
  · have k1 : (((a.toNat : Int) % 16) == 0) = false := by rw [beq_eq_false_iff_ne]; omega
    have hf : fitsN a b = false := decide_eq_false (fun h => h1 h.1)
    rw [hf]
    clear hf h1
    go_enter Try.func93, Try.ntmps93
    go_wp2_with fail
    go_ret
    exact ⟨rfl, rfl⟩
theorem rFits_any (w : World) (a : UInt64) (b : Nat) (x y : Int) (hx : x = (a.toNat : Int)) (hy : y = (b : Int)) :
    Calls Try.prog 48 #[.int .u64 x, .int .u64 y] w fun e w' => e = .returned (.bool (fitsN a b)) ∧ w = w' := by
  subst hx hy
  have e1 : IntKind.u64.wrap ((a.toNat : Int) % 16) = (a.toNat : Int) % 16 := IntWalk.u64_in _ (by omega)
  have e2 : IntKind.u64.wrap ((a.toNat : Int).tmod 16) = (a.toNat : Int) % 16 := by rw [Int.tmod_eq_emod_of_nonneg (by omega)]; exact e1
  by_cases h1 : a.toNat % 16 = 0
  · have k1 : (a.toNat : Int) % 16 = 0 := by omega
    by_cases h2 : 3824 ≤ a.toNat
    · have k2 : (3824 : Int) ≤ (a.toNat : Int) := by omega
      by_cases h3 : a.toNat ≤ b
      · have k3 : (a.toNat : Int) ≤ (b : Int) := by omega
        have hf : fitsN a b = true := decide_eq_true ⟨h1, h2, h3⟩
        rw [hf]
        clear hf h1 h2 h3
        go_enter Try.func48, Try.ntmps48
        go_wp2_with fail
        go_ret
        exact ⟨rfl, rfl⟩
      · have k3 : ¬ (a.toNat : Int) ≤ (b : Int) := by omega
        have hf : fitsN a b = false := decide_eq_false (fun h => h3 h.2.2)
        rw [hf]
        clear hf h1 h2 h3
        go_enter Try.func48, Try.ntmps48
        go_wp2_with fail
        go_ret
        exact ⟨rfl, rfl⟩
    · have k2 : ¬ (3824 : Int) ≤ (a.toNat : Int) := by omega
      have hf : fitsN a b = false := decide_eq_false (fun h => h2 h.2.1)
      rw [hf]
      clear hf h1 h2
      go_enter Try.func48, Try.ntmps48
      go_wp2_with fail
      go_ret
      exact ⟨rfl, rfl⟩
  · have k1 : (((a.toNat : Int) % 16) == 0) = false := by rw [beq_eq_false_iff_ne]; omega
    have hf : fitsN a b = false := decide_eq_false (fun h => h1 h.1)
    rw [hf]
    clear hf h1
    go_enter Try.func48, Try.ntmps48
    go_wp2_with fail
    go_ret
    exact ⟨rfl, rfl⟩
end Go.Proofs.Ytccllkgaakmdhaa
