/- carracklaw05.TagStands: all cases. -/
import Derived.Test.YtccllkgaakmdhaaW5dA
import Derived.Test.YtccllkgaakmdhaaW5dB
import Derived.Test.YtccllkgaakmdhaaW5dC
namespace Go.Proofs.Ytccllkgaakmdhaa
open Go.RowKit

theorem tstands_any {w : World} (off : UInt64) (g : TagV) (po pv : UInt64) : Calls Try.prog 19 #[.int .u64 (off.toNat : Int), .agg g.cells, .agg #[.int .u64 (po.toNat : Int), .int .u64 (pv.toNat : Int)]] w fun e w' => e = .returned (.bool true) ∧ Keeps Nil w w' := by
  cases hB : writeB (txLoad ws44 []) off g with
  | false => exact stands_no off g po pv hB
  | true =>
    by_cases hm : mineB off g po = true
    · have hp : po = off ∨ po = off + g.size - 8 := of_decide_eq_true hm
      have n16 := stands_mine16 hB hm
      by_cases hv : pv = txLoad ws44 (writeP ws44 [] off g) po
      · obtain ⟨r1, r2⟩ := stands_same hB (p := po) (v := pv) (fun o _ _ e => by rw [e]; exact hv)
        by_cases h1 : po = off
        · exact stands_a1 off g po pv hB r1 r2 h1 hv n16
        · exact stands_a2 off g po pv hB r1 r2 h1 (hp.resolve_left h1) hv n16
      · have hodd := stands_odd hB hm hv
        cases hr : readB (txLoad ws44 (txStore ws44 (writeP ws44 [] off g) po pv)) off with
        | false =>
          by_cases h1 : po = off
          · exact stands_b1 off g po pv hB hr h1 hv
          · exact stands_b2 off g po pv hB hr h1 (hp.resolve_left h1) hv
        | true =>
          by_cases h1 : po = off
          · exact stands_c1 off g po pv hB hr (hodd hr) h1 hv
          · exact stands_c2 off g po pv hB hr (hodd hr) h1 (hp.resolve_left h1) hv
    · have hn : ¬ (po = off ∨ po = off + g.size - 8) := fun e => hm (decide_eq_true e)
      have h1 : po ≠ off := fun e => hn (.inl e)
      have h2 : po ≠ off + g.size - 8 := fun e => hn (.inr e)
      by_cases h16 : po = 16
      · by_cases hlow : pv.toNat < (off + g.size).toNat
        · exact stands_f0 off g po pv hB (by rw [h16]; exact (stands_end hB pv).2.1 hlow) h1 h2 h16 hlow
        · obtain ⟨r1, r2⟩ := (stands_end hB pv).2.2 hlow
          exact stands_e0 off g po pv hB (by rw [h16]; exact r1) (by rw [h16]; exact r2) h1 h2 h16 hlow
      · obtain ⟨r1, r2⟩ := stands_same hB (p := po) (v := pv) (fun o ho _ e => by
          subst e
          rcases ho with ho | ho | ho
          · exact absurd ho h1
          · exact absurd ho h2
          · exact absurd ho h16)
        exact stands_d0 off g po pv hB r1 r2 h1 h2 h16
end Go.Proofs.Ytccllkgaakmdhaa
