/- carracklaw03.TxNobody. -/
import Derived.Test.YtccllkgaakmdhaaL3Awake
namespace Go.Proofs.Ytccllkgaakmdhaa
open Go.RowKit

/-- a struct of two words in a block of its own, behind steps that turn nothing -/
theorem box2 {w w' : World} {k : Nat} {a b : Value} {T : TypeId} (h : w.heap[k]? = some (.cells #[a, b] T (0, 0))) (hK : Keeps Nil w w') :
    w'.heap[k]? = some (.cells #[a, b] T (0, 0)) ∧ w'.cell? ⟨k, 0, none⟩ = some a ∧ w'.cell? ⟨k, 1, none⟩ = some b := by
  have h' := hK.at h (fun e => e)
  exact ⟨h', by simp [World.cell?, h'], by simp [World.cell?, h']⟩

set_option maxRecDepth 100000 in
set_option maxHeartbeats 4000000 in
theorem nobody_any {w : World} (x y : UInt64) : Calls Try.prog 7 #[.agg #[.int .u64 (x.toNat : Int), .int .u64 (y.toNat : Int)]] w fun e w' => e = .returned (.bool true) ∧ Keeps Nil w w' := by
  go_enter Try.func7, Try.ntmps7
  go_wp2_with fail
  refine (awake3 _).mono ?_
  rintro e w1 ⟨rfl, hK1⟩
  obtain ⟨h1, c10, c11⟩ := box2 (heap_new _ _) hK1
  have hsz := hK1.size
  go_wp2_with fail
  refine (TxNew_nil _).mono ?_
  rintro e _ ⟨rfl, rfl⟩
  go_wp2_with fail
  refine (TxStore_nil _ _ _).mono ?_
  rintro e _ ⟨rfl, rfl⟩
  go_wp2_with fail
  refine (Apply_nil _).mono ?_
  rintro e w2 ⟨rfl, hK2⟩
  obtain ⟨h2, c20, c21⟩ := box2 h1 hK2
  have H2 := Lib.hid hK2
  clear c10 c11 hK2
  go_wp2_with fail
  refine (TxLoad_nil _ _).mono ?_
  rintro e _ ⟨rfl, rfl⟩
  go_wp2_with fail
  refine (TxOld_nil _ _).mono ?_
  rintro e _ ⟨rfl, rfl⟩
  go_wp2_with fail
  refine (Puts_nil _).mono ?_
  rintro e _ ⟨rfl, rfl⟩
  go_wp2_with fail
  refine (TxSize_nil _).mono ?_
  rintro e _ ⟨rfl, rfl⟩
  go_wp2_with fail
  refine (TxBare_nil _).mono ?_
  rintro e _ ⟨rfl, rfl⟩
  go_wp2_with fail
  go_ret
  exact ⟨rfl, (((Keeps.refl Nil w).alloc _).trans' hK1).trans' H2.out⟩
end Go.Proofs.Ytccllkgaakmdhaa
