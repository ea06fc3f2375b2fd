/- FitE, FitW: written short. -/
import Derived.Test.YtefpbljekfkefaaGreatS20
import Derived.Test.YtefpbljekfkefaaGreatS01
import Derived.Test.YtefpbljekfkefaaGreatS10
import Derived.Test.YtefpbljekfkefaaGreatS16
set_option maxRecDepth 100000
set_option maxHeartbeats 8000000
namespace Go.Proofs.YtefpbljekfkefaaGreat
section
open Go.RowKit PT
theorem loadVar_place {w : World} {g : Nat} {T : TypeId} {cs : Array Value} {fr : Nat × Nat} (hg : w.heap[g]? = some (.cells cs T fr)) (h3 : cs.size = 3) : (loadVar 57 ⟨g, 0, none⟩).run Tryz.prog w = .ok (.agg cs) w :=
  run_loadVar_row (P := Tryz.prog) w g T 57 cs fr _ hg Tryz.underlying57 rfl (by rw [h3]; kernel_rfl)
def cFitV (H : List BlockV) (n a : UInt64) : Value := if fitC H n a = 0 then (match fitJ H n a with
 | some j => .tuple #[.agg #[.int .u64 (((H[j]?).getD BlockV.zero).off.toNat : Int), .int .u64 ((padU ((H[j]?).getD BlockV.zero).off a).toNat : Int), .int .u64 ((needU n).toNat : Int)], .int .i64 0]
 | none => .tuple #[.agg #[.int .u64 0, .int .u64 0, .int .u64 0], .int .i64 3])
 else .tuple #[.agg #[.int .u64 0, .int .u64 0, .int .u64 0], .int .i64 (fitC H n a)]
theorem Fit_arg {w : World} {a0 : Option Addr} (n a : UInt64) (H : List BlockV) (hal : alignB a = false) :
   Calls Tryz.prog 39 #[.pointer a0, .int .u64 (n.toNat : Int), .int .u64 (a.toNat : Int)] w fun e w' => e = .returned (cFitV H n a) ∧ Keeps Nil w w' := by
 have HR := qH (show cFitV H n a = .tuple #[.agg #[.int .u64 0, .int .u64 0, .int .u64 0], .int .i64 1] by unfold cFitV; rw [fitC_align hal, if_neg (by decide)])
 obtain ⟨RV, hRV⟩ : ∃ v, v = cFitV H n a := ⟨_, rfl⟩
 rw [← hRV] at HR ⊢
 clear hRV
 have HA := qH (fun w => wUp0_any w a)
 cases hp : powB a with
 | false =>
   rw [hp] at HA
   clear hal hp
   have hst := qH (Step.refl Nil w)
   go_enter Tryz.func39, Tryz.ntmps39
   obtain ⟨W1, hW1⟩ := nm (w.alloc (.cells #[.int .u64 (a.toNat : Int)] 25))
   obtain ⟨B1, eB1⟩ := nm (w.heap.size)
   obtain ⟨W2, hW2⟩ := nm (W1.alloc (.cells #[.int .u64 0, .int .u64 0, .int .u64 0] 57))
   obtain ⟨B2, eB2⟩ := nm (w.heap.size + 1)
   obtain ⟨W3, hW3⟩ := nm (W2.alloc (.cells #[.int .i64 0] 41))
   obtain ⟨B3, eB3⟩ := nm (w.heap.size + 2)
   go_wp2_with fail
   rw [← hW1.out]
   rw [← hW2.out]
   rw [← hW3.out]
   try rw [← eB3.out]
   try rw [← eB2.out]
   try rw [← eB1.out]
   have k1 := kA hW1
   have e0B1 := eB1.out
   have hB1 := zB hW1 (Bx.new Nil.lt _ _ e0B1)
   have gB1 := gZ e0B1 hst
   replace hst := sN hst k1
   clear k1 e0B1
   have k2 := kA hW2
   have e0B2 : B2 = W1.heap.size := by rw [eB2.out, hW1.out]; simp []
   have hB2 := zB hW2 (Bx.new Nil.lt _ _ e0B2)
   have gB2 := gZ e0B2 hst
   have nB1B2 := nZ e0B2 hB1
   replace hst := sN hst k2
   replace hB1 := bN hB1 k2
   clear k2 e0B2
   have k3 := kA hW3
   have e0B3 : B3 = W2.heap.size := by rw [eB3.out, hW2.out, hW1.out]; simp []
   have hB3 := zB hW3 (Bx.new Nil.lt _ _ e0B3)
   have gB3 := gZ e0B3 hst
   have nB1B3 := nZ e0B3 hB1
   have nB2B3 := nZ e0B3 hB2
   replace hst := sN hst k3
   replace hB1 := bN hB1 k3
   replace hB2 := bN hB2 k3
   clear k3 e0B3
   refine (HA.out _).mono ?_
   rintro _ _ ⟨rfl, rfl⟩
   have c_B2_0 := cB hB2 0
   have c_B2_1 := cB hB2 1
   have c_B2_2 := cB hB2 2
   have f_B2_0 := hB2.out.frz 0
   have f_B2_1 := hB2.out.frz 1
   have f_B2_2 := hB2.out.frz 2
   have l_B2 := hB2.out.lt
   have c_B3_0 := cB hB3 0
   have f_B3_0 := hB3.out.frz 0
   have l_B3 := hB3.out.lt
   have ne_B1_B2 := nH nB1B2
   have ne_B2_B1 := nG nB1B2
   have ne_B3_B2 := nG nB2B3
   have ne_B2_B3 := nH nB2B3
   have ne_B1_B3 := nH nB1B3
   have ne_B3_B1 := nG nB1B3
   obtain ⟨W5, hW5⟩ := nm ((((W3.setCell ⟨B2, 0, none⟩ (.int .u64 0)).setCell ⟨B2, 1, none⟩ (.int .u64 0)).setCell ⟨B2, 2, none⟩ (.int .u64 0)))
   obtain ⟨W6, hW6⟩ := nm ((W5.setCell ⟨B3, 0, none⟩ (.int .i64 1)))
   go_wp2_with fail
   clear c_B2_0 c_B2_1 c_B2_2 f_B2_0 f_B2_1 f_B2_2 l_B2 c_B3_0 f_B3_0 l_B3 ne_B1_B2 ne_B2_B1 ne_B3_B2 ne_B2_B3 ne_B1_B3 ne_B3_B1
   rw [← hW5.out]
   rw [← hW6.out]
   replace hst := zS hW5 ((((hst.out.set gB2.out _ _).set gB2.out _ _).set gB2.out _ _))
   replace hB1 := zB hW5 ((((hB1.out.other (Nat.ne_of_lt nB1B2.out) _ _).other (Nat.ne_of_lt nB1B2.out) _ _).other (Nat.ne_of_lt nB1B2.out) _ _))
   replace hB2 := zC hW5 ((((hB2.out.set _ _).set _ _).set _ _))
   replace hB3 := zB hW5 ((((hB3.out.other (Nat.ne_of_gt nB2B3.out) _ _).other (Nat.ne_of_gt nB2B3.out) _ _).other (Nat.ne_of_gt nB2B3.out) _ _))
   replace hst := zS hW6 ((hst.out.set gB3.out _ _))
   replace hB1 := zB hW6 ((hB1.out.other (Nat.ne_of_lt nB1B3.out) _ _))
   replace hB2 := zB hW6 ((hB2.out.other (Nat.ne_of_lt nB2B3.out) _ _))
   replace hB3 := zC hW6 ((hB3.out.set _ _))
   refine bodyPost_ret (results_cell2 rfl rfl rfl (loadVar_place hB2.out.1 rfl) (loadVar_errno (cB hB3 0))) rfl ?_
   exact ⟨by rw [HR.out]; rfl, hst.out.keeps⟩
 | true =>
   rw [hp] at HA
   by_cases h1 : a.toNat < 16
   ·clear hal hp
    have hst := qH (Step.refl Nil w)
    go_enter Tryz.func39, Tryz.ntmps39
    obtain ⟨W1, hW1⟩ := nm (w.alloc (.cells #[.int .u64 (a.toNat : Int)] 25))
    obtain ⟨B1, eB1⟩ := nm (w.heap.size)
    obtain ⟨W2, hW2⟩ := nm (W1.alloc (.cells #[.int .u64 0, .int .u64 0, .int .u64 0] 57))
    obtain ⟨B2, eB2⟩ := nm (w.heap.size + 1)
    obtain ⟨W3, hW3⟩ := nm (W2.alloc (.cells #[.int .i64 0] 41))
    obtain ⟨B3, eB3⟩ := nm (w.heap.size + 2)
    go_wp2_with fail
    rw [← hW1.out]
    rw [← hW2.out]
    rw [← hW3.out]
    try rw [← eB3.out]
    try rw [← eB2.out]
    try rw [← eB1.out]
    have k1 := kA hW1
    have e0B1 := eB1.out
    have hB1 := zB hW1 (Bx.new Nil.lt _ _ e0B1)
    have gB1 := gZ e0B1 hst
    replace hst := sN hst k1
    clear k1 e0B1
    have k2 := kA hW2
    have e0B2 : B2 = W1.heap.size := by rw [eB2.out, hW1.out]; simp []
    have hB2 := zB hW2 (Bx.new Nil.lt _ _ e0B2)
    have gB2 := gZ e0B2 hst
    have nB1B2 := nZ e0B2 hB1
    replace hst := sN hst k2
    replace hB1 := bN hB1 k2
    clear k2 e0B2
    have k3 := kA hW3
    have e0B3 : B3 = W2.heap.size := by rw [eB3.out, hW2.out, hW1.out]; simp []
    have hB3 := zB hW3 (Bx.new Nil.lt _ _ e0B3)
    have gB3 := gZ e0B3 hst
    have nB1B3 := nZ e0B3 hB1
    have nB2B3 := nZ e0B3 hB2
    replace hst := sN hst k3
    replace hB1 := bN hB1 k3
    replace hB2 := bN hB2 k3
    clear k3 e0B3
    refine (HA.out _).mono ?_
    rintro _ _ ⟨rfl, rfl⟩
    have d1 : decide (a.toNat < 16) = true := decide_eq_true (h1)
    have c_B1_0 := cB hB1 0
    have l_B1 := hB1.out.lt
    have c_B2_0 := cB hB2 0
    have c_B2_1 := cB hB2 1
    have c_B2_2 := cB hB2 2
    have f_B2_0 := hB2.out.frz 0
    have f_B2_1 := hB2.out.frz 1
    have f_B2_2 := hB2.out.frz 2
    have l_B2 := hB2.out.lt
    have c_B3_0 := cB hB3 0
    have f_B3_0 := hB3.out.frz 0
    have l_B3 := hB3.out.lt
    have ne_B1_B2 := nH nB1B2
    have ne_B2_B1 := nG nB1B2
    have ne_B3_B2 := nG nB2B3
    have ne_B2_B3 := nH nB2B3
    have ne_B1_B3 := nH nB1B3
    have ne_B3_B1 := nG nB1B3
    obtain ⟨W5, hW5⟩ := nm ((((W3.setCell ⟨B2, 0, none⟩ (.int .u64 0)).setCell ⟨B2, 1, none⟩ (.int .u64 0)).setCell ⟨B2, 2, none⟩ (.int .u64 0)))
    obtain ⟨W6, hW6⟩ := nm ((W5.setCell ⟨B3, 0, none⟩ (.int .i64 1)))
    go_wp2_with fail
    clear c_B1_0 l_B1 c_B2_0 c_B2_1 c_B2_2 f_B2_0 f_B2_1 f_B2_2 l_B2 c_B3_0 f_B3_0 l_B3 ne_B1_B2 ne_B2_B1 ne_B3_B2 ne_B2_B3 ne_B1_B3 ne_B3_B1
    rw [← hW5.out]
    rw [← hW6.out]
    replace hst := zS hW5 ((((hst.out.set gB2.out _ _).set gB2.out _ _).set gB2.out _ _))
    replace hB1 := zB hW5 ((((hB1.out.other (Nat.ne_of_lt nB1B2.out) _ _).other (Nat.ne_of_lt nB1B2.out) _ _).other (Nat.ne_of_lt nB1B2.out) _ _))
    replace hB2 := zC hW5 ((((hB2.out.set _ _).set _ _).set _ _))
    replace hB3 := zB hW5 ((((hB3.out.other (Nat.ne_of_gt nB2B3.out) _ _).other (Nat.ne_of_gt nB2B3.out) _ _).other (Nat.ne_of_gt nB2B3.out) _ _))
    replace hst := zS hW6 ((hst.out.set gB3.out _ _))
    replace hB1 := zB hW6 ((hB1.out.other (Nat.ne_of_lt nB1B3.out) _ _))
    replace hB2 := zB hW6 ((hB2.out.other (Nat.ne_of_lt nB2B3.out) _ _))
    replace hB3 := zC hW6 ((hB3.out.set _ _))
    refine bodyPost_ret (results_cell2 rfl rfl rfl (loadVar_place hB2.out.1 rfl) (loadVar_errno (cB hB3 0))) rfl ?_
    exact ⟨by rw [HR.out]; rfl, hst.out.keeps⟩
   ·have h2 : 4096 < a.toNat := by
        unfold alignB at hal
        rw [hp, Bool.true_and] at hal
        have := of_decide_eq_false hal
        omega
    clear hal hp
    have hst := qH (Step.refl Nil w)
    go_enter Tryz.func39, Tryz.ntmps39
    obtain ⟨W1, hW1⟩ := nm (w.alloc (.cells #[.int .u64 (a.toNat : Int)] 25))
    obtain ⟨B1, eB1⟩ := nm (w.heap.size)
    obtain ⟨W2, hW2⟩ := nm (W1.alloc (.cells #[.int .u64 0, .int .u64 0, .int .u64 0] 57))
    obtain ⟨B2, eB2⟩ := nm (w.heap.size + 1)
    obtain ⟨W3, hW3⟩ := nm (W2.alloc (.cells #[.int .i64 0] 41))
    obtain ⟨B3, eB3⟩ := nm (w.heap.size + 2)
    go_wp2_with fail
    rw [← hW1.out]
    rw [← hW2.out]
    rw [← hW3.out]
    try rw [← eB3.out]
    try rw [← eB2.out]
    try rw [← eB1.out]
    have k1 := kA hW1
    have e0B1 := eB1.out
    have hB1 := zB hW1 (Bx.new Nil.lt _ _ e0B1)
    have gB1 := gZ e0B1 hst
    replace hst := sN hst k1
    clear k1 e0B1
    have k2 := kA hW2
    have e0B2 : B2 = W1.heap.size := by rw [eB2.out, hW1.out]; simp []
    have hB2 := zB hW2 (Bx.new Nil.lt _ _ e0B2)
    have gB2 := gZ e0B2 hst
    have nB1B2 := nZ e0B2 hB1
    replace hst := sN hst k2
    replace hB1 := bN hB1 k2
    clear k2 e0B2
    have k3 := kA hW3
    have e0B3 : B3 = W2.heap.size := by rw [eB3.out, hW2.out, hW1.out]; simp []
    have hB3 := zB hW3 (Bx.new Nil.lt _ _ e0B3)
    have gB3 := gZ e0B3 hst
    have nB1B3 := nZ e0B3 hB1
    have nB2B3 := nZ e0B3 hB2
    replace hst := sN hst k3
    replace hB1 := bN hB1 k3
    replace hB2 := bN hB2 k3
    clear k3 e0B3
    refine (HA.out _).mono ?_
    rintro _ _ ⟨rfl, rfl⟩
    have d1 : decide (a.toNat < 16) = false := decide_eq_false (h1)
    have d2 : decide (4096 < a.toNat) = true := decide_eq_true (h2)
    have c_B1_0 := cB hB1 0
    have l_B1 := hB1.out.lt
    have c_B2_0 := cB hB2 0
    have c_B2_1 := cB hB2 1
    have c_B2_2 := cB hB2 2
    have f_B2_0 := hB2.out.frz 0
    have f_B2_1 := hB2.out.frz 1
    have f_B2_2 := hB2.out.frz 2
    have l_B2 := hB2.out.lt
    have c_B3_0 := cB hB3 0
    have f_B3_0 := hB3.out.frz 0
    have l_B3 := hB3.out.lt
    have ne_B1_B2 := nH nB1B2
    have ne_B2_B1 := nG nB1B2
    have ne_B3_B2 := nG nB2B3
    have ne_B2_B3 := nH nB2B3
    have ne_B1_B3 := nH nB1B3
    have ne_B3_B1 := nG nB1B3
    obtain ⟨W5, hW5⟩ := nm ((((W3.setCell ⟨B2, 0, none⟩ (.int .u64 0)).setCell ⟨B2, 1, none⟩ (.int .u64 0)).setCell ⟨B2, 2, none⟩ (.int .u64 0)))
    obtain ⟨W6, hW6⟩ := nm ((W5.setCell ⟨B3, 0, none⟩ (.int .i64 1)))
    go_wp2_with fail
    clear c_B1_0 l_B1 c_B2_0 c_B2_1 c_B2_2 f_B2_0 f_B2_1 f_B2_2 l_B2 c_B3_0 f_B3_0 l_B3 ne_B1_B2 ne_B2_B1 ne_B3_B2 ne_B2_B3 ne_B1_B3 ne_B3_B1
    rw [← hW5.out]
    rw [← hW6.out]
    replace hst := zS hW5 ((((hst.out.set gB2.out _ _).set gB2.out _ _).set gB2.out _ _))
    replace hB1 := zB hW5 ((((hB1.out.other (Nat.ne_of_lt nB1B2.out) _ _).other (Nat.ne_of_lt nB1B2.out) _ _).other (Nat.ne_of_lt nB1B2.out) _ _))
    replace hB2 := zC hW5 ((((hB2.out.set _ _).set _ _).set _ _))
    replace hB3 := zB hW5 ((((hB3.out.other (Nat.ne_of_gt nB2B3.out) _ _).other (Nat.ne_of_gt nB2B3.out) _ _).other (Nat.ne_of_gt nB2B3.out) _ _))
    replace hst := zS hW6 ((hst.out.set gB3.out _ _))
    replace hB1 := zB hW6 ((hB1.out.other (Nat.ne_of_lt nB1B3.out) _ _))
    replace hB2 := zB hW6 ((hB2.out.other (Nat.ne_of_lt nB2B3.out) _ _))
    replace hB3 := zC hW6 ((hB3.out.set _ _))
    refine bodyPost_ret (results_cell2 rfl rfl rfl (loadVar_place hB2.out.1 rfl) (loadVar_errno (cB hB3 0))) rfl ?_
    exact ⟨by rw [HR.out]; rfl, hst.out.keeps⟩
theorem Fit_size {w : World} {a0 : Option Addr} (n a : UInt64) (H : List BlockV) (hal : alignB a = true) (hnb : needB n = false) :
  Calls Tryz.prog 39 #[.pointer a0, .int .u64 (n.toNat : Int), .int .u64 (a.toNat : Int)] w fun e w' => e = .returned (cFitV H n a) ∧ Keeps Nil w w' := by
 have HR := qH (show cFitV H n a = .tuple #[.agg #[.int .u64 0, .int .u64 0, .int .u64 0], .int .i64 2] by unfold cFitV; rw [fitC_size hal hnb, if_neg (by decide)])
 obtain ⟨RV, hRV⟩ : ∃ v, v = cFitV H n a := ⟨_, rfl⟩
 rw [← hRV] at HR ⊢
 clear hRV
 obtain ⟨hp, h1, h2, _⟩ := align_spec hal
 have HA := qH (fun w => wUp0_any w a)
 rw [hp] at HA
 obtain ⟨nd, hnd⟩ : ∃ x, x = needU n := ⟨_, rfl⟩
 have HB := qH (fun w => wNeed_any w n _ rfl)
 rw [hnb, ← hnd] at HB
 have h3 : ¬ a.toNat < 16 := by omega
 have h4 : ¬ 4096 < a.toNat := by omega
 clear hal hp hnb hnd h1 h2
 have hst := qH (Step.refl Nil w)
 go_enter Tryz.func39, Tryz.ntmps39
 obtain ⟨W1, hW1⟩ := nm (w.alloc (.cells #[.int .u64 (a.toNat : Int)] 25))
 obtain ⟨B1, eB1⟩ := nm (w.heap.size)
 obtain ⟨W2, hW2⟩ := nm (W1.alloc (.cells #[.int .u64 0, .int .u64 0, .int .u64 0] 57))
 obtain ⟨B2, eB2⟩ := nm (w.heap.size + 1)
 obtain ⟨W3, hW3⟩ := nm (W2.alloc (.cells #[.int .i64 0] 41))
 obtain ⟨B3, eB3⟩ := nm (w.heap.size + 2)
 go_wp2_with fail
 rw [← hW1.out]
 rw [← hW2.out]
 rw [← hW3.out]
 try rw [← eB3.out]
 try rw [← eB2.out]
 try rw [← eB1.out]
 have k1 := kA hW1
 have e0B1 := eB1.out
 have hB1 := zB hW1 (Bx.new Nil.lt _ _ e0B1)
 have gB1 := gZ e0B1 hst
 replace hst := sN hst k1
 clear k1 e0B1
 have k2 := kA hW2
 have e0B2 : B2 = W1.heap.size := by rw [eB2.out, hW1.out]; simp []
 have hB2 := zB hW2 (Bx.new Nil.lt _ _ e0B2)
 have gB2 := gZ e0B2 hst
 have nB1B2 := nZ e0B2 hB1
 replace hst := sN hst k2
 replace hB1 := bN hB1 k2
 clear k2 e0B2
 have k3 := kA hW3
 have e0B3 : B3 = W2.heap.size := by rw [eB3.out, hW2.out, hW1.out]; simp []
 have hB3 := zB hW3 (Bx.new Nil.lt _ _ e0B3)
 have gB3 := gZ e0B3 hst
 have nB1B3 := nZ e0B3 hB1
 have nB2B3 := nZ e0B3 hB2
 replace hst := sN hst k3
 replace hB1 := bN hB1 k3
 replace hB2 := bN hB2 k3
 clear k3 e0B3
 refine (HA.out _).mono ?_
 rintro _ _ ⟨rfl, rfl⟩
 have d1 : decide (a.toNat < 16) = false := decide_eq_false (h3)
 have d2 : decide (4096 < a.toNat) = false := decide_eq_false (h4)
 have c_B1_0 := cB hB1 0
 have l_B1 := hB1.out.lt
 go_wp2_with fail
 clear c_B1_0 l_B1
 refine (HB.out _).mono ?_
 rintro _ _ ⟨rfl, rfl⟩
 have c_B2_0 := cB hB2 0
 have c_B2_1 := cB hB2 1
 have c_B2_2 := cB hB2 2
 have f_B2_0 := hB2.out.frz 0
 have f_B2_1 := hB2.out.frz 1
 have f_B2_2 := hB2.out.frz 2
 have l_B2 := hB2.out.lt
 have c_B3_0 := cB hB3 0
 have f_B3_0 := hB3.out.frz 0
 have l_B3 := hB3.out.lt
 have ne_B1_B2 := nH nB1B2
 have ne_B2_B1 := nG nB1B2
 have ne_B3_B2 := nG nB2B3
 have ne_B2_B3 := nH nB2B3
 have ne_B1_B3 := nH nB1B3
 have ne_B3_B1 := nG nB1B3
 obtain ⟨W6, hW6⟩ := nm ((((W3.setCell ⟨B2, 0, none⟩ (.int .u64 0)).setCell ⟨B2, 1, none⟩ (.int .u64 0)).setCell ⟨B2, 2, none⟩ (.int .u64 0)))
 obtain ⟨W7, hW7⟩ := nm ((W6.setCell ⟨B3, 0, none⟩ (.int .i64 2)))
 obtain ⟨W8, hW8⟩ := nm (W7.alloc (.cells #[.int .u64 (nd.toNat : Int)] 25))
 obtain ⟨B4, eB4⟩ := nm (W3.heap.size)
 go_wp2_with fail
 clear c_B2_0 c_B2_1 c_B2_2 f_B2_0 f_B2_1 f_B2_2 l_B2 c_B3_0 f_B3_0 l_B3 ne_B1_B2 ne_B2_B1 ne_B3_B2 ne_B2_B3 ne_B1_B3 ne_B3_B1
 rw [← hW6.out]
 rw [← hW7.out]
 rw [← hW8.out]
 try rw [← eB4.out]
 replace hst := zS hW6 ((((hst.out.set gB2.out _ _).set gB2.out _ _).set gB2.out _ _))
 replace hB1 := zB hW6 ((((hB1.out.other (Nat.ne_of_lt nB1B2.out) _ _).other (Nat.ne_of_lt nB1B2.out) _ _).other (Nat.ne_of_lt nB1B2.out) _ _))
 replace hB2 := zC hW6 ((((hB2.out.set _ _).set _ _).set _ _))
 replace hB3 := zB hW6 ((((hB3.out.other (Nat.ne_of_gt nB2B3.out) _ _).other (Nat.ne_of_gt nB2B3.out) _ _).other (Nat.ne_of_gt nB2B3.out) _ _))
 replace hst := zS hW7 ((hst.out.set gB3.out _ _))
 replace hB1 := zB hW7 ((hB1.out.other (Nat.ne_of_lt nB1B3.out) _ _))
 replace hB2 := zB hW7 ((hB2.out.other (Nat.ne_of_lt nB2B3.out) _ _))
 replace hB3 := zC hW7 ((hB3.out.set _ _))
 have k4 := kA hW8
 have e0B4 : B4 = W7.heap.size := by rw [eB4.out, hW7.out, hW6.out]; simp [World.setCell]
 have hB4 := zB hW8 (Bx.new Nil.lt _ _ e0B4)
 have gB4 := gZ e0B4 hst
 have nB1B4 := nZ e0B4 hB1
 have nB2B4 := nZ e0B4 hB2
 have nB3B4 := nZ e0B4 hB3
 replace hst := sN hst k4
 replace hB1 := bN hB1 k4
 replace hB2 := bN hB2 k4
 replace hB3 := bN hB3 k4
 clear k4 e0B4
 refine bodyPost_ret (results_cell2 rfl rfl rfl (loadVar_place hB2.out.1 rfl) (loadVar_errno (cB hB3 0))) rfl ?_
 exact ⟨by rw [HR.out]; rfl, hst.out.keeps⟩
attribute [local go_sem] Oper.semAt_some
def bigL (f : UInt64 → UInt64) (need : UInt64) (l : List UInt64) : List UInt64 := (sortF (cmpF f) l).filter (fun x => decide (need.toNat ≤ (szU (f x)).toNat))
theorem filter_drop {f : UInt64 → UInt64} (need : UInt64) : ∀ {s : List UInt64}, Sorted (ltF szU f) s → ∃ m, s.filter (fun x => decide (need.toNat ≤ (szU (f x)).toNat)) = s.drop m
  | [], _ => ⟨0, rfl⟩
  | x :: s, hs => by
    obtain ⟨h1, h2⟩ := List.pairwise_cons.1 hs
    by_cases hx : need.toNat ≤ (szU (f x)).toNat
    · refine ⟨0, List.filter_eq_self.2 (fun y hy => decide_eq_true ?_)⟩
      rcases List.mem_cons.1 hy with rfl | hy
      · exact hx
      · have := ltK_iff.1 (h1 y hy)
        unfold keyF at this
        simp only at this
        omega
    · obtain ⟨m, hm⟩ := filter_drop need h2
      exact ⟨m + 1, by rw [List.filter_cons, if_neg (by simpa using hx), hm]; rfl⟩
theorem find_next' {f : UInt64 → UInt64} : ∀ {s : List UInt64} {k : Nat} {y : UInt64}, Sorted (ltF szU f) s → s[k]? = some y → s.find? (fun z => ltK (keyF szU f y) (keyF szU f z)) = s[k + 1]?
 | [], k, y, _, h => by simp at h
 | x :: s, 0, y, hs, h => by
   simp at h; subst h
   rw [List.find?_cons, show ltK (keyF szU f x) (keyF szU f x) = false from (ltF_ord szU f).irr x]
   cases s with
   | nil => rfl
   | cons z s => rw [List.find?_cons, show ltK (keyF szU f x) (keyF szU f z) = true from (List.pairwise_cons.1 hs).1 z (by simp)]; rfl
 | x :: s, k + 1, y, hs, h => by
   have h' : s[k]? = some y := by simpa using h
   have hy : y ∈ s := List.mem_of_getElem? h'
   rw [List.find?_cons, show ltK (keyF szU f y) (keyF szU f x) = false from (ltF_ord szU f).asymm ((List.pairwise_cons.1 hs).1 y hy)]
   have := find_next' (List.pairwise_cons.1 hs).2 h'
   simpa using this
section
variable {f : UInt64 → UInt64} {l : List UInt64} (hX : Spot 4800 l) (hn : l.Nodup) (ht : TreeOK f l) (need : UInt64)
include hX hn ht
theorem big_first : ∃ d, AftR szU f (need, 0) (f 32) 0 (((bigL f need l)[0]?).getD 0) d := by
 obtain ⟨d, hd⟩ := (ht.stands hn).after hX (need, 0)
 refine ⟨d, ?_⟩
 have e : (sortF (cmpF f) l).find? (fun y => ltK (need, 0) (keyF szU f y)) = (bigL f need l)[0]? := by
  unfold bigL
  rw [← List.head?_eq_getElem?, List.head?_filter]
  refine find_same (fun x hx => ?_)
  have h0 : 0 < x.toNat := hX.pos x (mem_sortF.1 hx)
  unfold keyF
  by_cases h1 : need.toNat ≤ (szU (f x)).toNat
  ·rw [decide_eq_true h1, ltK_iff]
   show need.toNat < (szU (f x)).toNat ∨ (need.toNat = (szU (f x)).toNat ∧ (0 : UInt64).toNat < x.toNat)
   have : (0 : UInt64).toNat = 0 := rfl
   omega
  ·rw [decide_eq_false h1]
   refine Bool.eq_false_iff.2 (fun h => h1 ?_)
   have h := ltK_iff.1 h
   have h : need.toNat < (szU (f x)).toNat ∨ (need.toNat = (szU (f x)).toNat ∧ (0 : UInt64).toNat < x.toNat) := h
   omega
 rw [e] at hd
 exact hd
theorem big_next (k : Nat) (y : UInt64) (hk : (bigL f need l)[k]? = some y) : ∃ d, AftR szU f ((unpackT (f y)).size, y) (f 32) 0 (((bigL f need l)[k + 1]?).getD 0) d := by
 obtain ⟨d, hd⟩ := (ht.stands hn).after hX (szU (f y), y)
 refine ⟨d, ?_⟩
 have hs := sortF_sorted f hn
 obtain ⟨m, hm⟩ := filter_drop need hs
 have hB : bigL f need l = (sortF (cmpF f) l).drop m := hm
 rw [hB, List.getElem?_drop] at hk
 have e := find_next' hs hk
 rw [show m + k + 1 = m + (k + 1) by omega] at e
 rw [hB, List.getElem?_drop, ← e]
 exact hd
omit hX ht in
theorem big_nodup : (bigL f need l).Nodup := (nodup_sortF hn).filter _
omit hn ht in
theorem big_nz : ∀ y ∈ bigL f need l, y ≠ 0 := fun _ hy => hX.nz (mem_sortF.1 (List.mem_filter.1 hy).1)
end
theorem big_mem {f : UInt64 → UInt64} {l : List UInt64} {need y : UInt64} (h : y ∈ bigL f need l) : y ∈ l ∧ need.toNat ≤ (szU (f y)).toNat := ⟨mem_sortF.1 (List.mem_filter.1 h).1, of_decide_eq_true (List.mem_filter.1 h).2⟩
def fitQ (f : UInt64 → UInt64) (need a x : UInt64) : Bool := decide ((padU x a).toNat ≤ ((szU (f x)) - need).toNat)
theorem big_find {f : UInt64 → UInt64} {l : List UInt64} {need a : UInt64} : (bigL f need l).find? (fitQ f need a) = (sortF (cmpF f) l).find? (fitO f need a) := by
 unfold bigL
 rw [List.find?_filter]
 refine find_same (fun x _ => ?_)
 unfold fitO fitQ
 by_cases h : need.toNat ≤ (szU (f x)).toNat
 · rw [UInt64.toNat_sub_of_le _ _ (by rw [UInt64.le_iff_toNat_le]; exact h)]; simp [h]
 · rw [decide_eq_false h]; rfl
theorem find_none_take {α : Type} {p : α → Bool} {xs : List α} (h : ∀ x ∈ xs, p x = false) : xs.find? p = none := List.find?_eq_none.2 (fun x hx => by rw [h x hx]; decide)
theorem find_at {α : Type} {p : α → Bool} {xs ys : List α} {x : α} {k : Nat} (h : ys ++ [x] = xs.take k) (hy : ∀ z ∈ ys, p z = false) (hx : p x = true) : xs.find? p = some x := by
 rw [← List.take_append_drop k xs, ← h, List.append_assoc, List.find?_append, find_none_take hy]
 simp [hx]
def fitV (r : Option UInt64) (nd a : UInt64) : Value := match r with
 | some x => .tuple #[.agg #[.int .u64 (x.toNat : Int), .int .u64 ((padU x a).toNat : Int), .int .u64 (nd.toNat : Int)], .int .i64 0]
 | none => .tuple #[.agg #[.int .u64 0, .int .u64 0, .int .u64 0], .int .i64 3]
def FI (w w0 : World) (n : Nat) (a need : UInt64) (q : UInt64 → Bool) (pre : List UInt64) (W : World) : Prop :=
 W.heap[n]? = some (.cells #[.int .u64 (a.toNat : Int)] 25 (0, 0)) ∧ W.heap[n + 1]? = some (.cells #[.int .u64 0, .int .u64 0, .int .u64 0] 57 (0, 0)) ∧ W.heap[n + 2]? = some (.cells #[.int .i64 0] 41 (0, 0)) ∧
    W.heap[n + 3]? = some (.cells #[.int .u64 (need.toNat : Int)] 25 (0, 0)) ∧ Keeps Nil w W ∧ w0.heap.size ≤ W.heap.size ∧ ∀ x ∈ pre, x.toNat ≤ 1048576 → q x = false
def FX (w : World) (n : Nat) (a need : UInt64) (q : UInt64 → Bool) (pre : List UInt64) (W : World) : Prop :=
  ∃ ys x p, pre = ys ++ [x] ∧ (∀ z ∈ ys, z.toNat ≤ 1048576 → q z = false) ∧ (x.toNat ≤ 1048576 → p = padU x a ∧ q x = true) ∧ W.heap[n + 1]? = some (.cells #[.int .u64 (x.toNat : Int), .int .u64 (p.toNat : Int), .int .u64 (need.toNat : Int)] 57 (0, 0)) ∧ W.heap[n + 2]? = some (.cells #[.int .i64 0] 41 (0, 0)) ∧ Keeps Nil w W
theorem FI.own {w w0 : World} {n D0 : Nat} {a need : UInt64} {q : UInt64 → Bool} (hD : w.heap.size ≤ D0) : OwnFrom D0 (FI w w0 n a need q) := fun pre W W' row hs hg hr => by
 obtain ⟨h1, h2, h3, h4, h5, h6, h7⟩ := hs
 have hr' := fun r e => (hr r e).2
 exact ⟨cells_grown h1 hg hr', cells_grown h2 hg hr', cells_grown h3 hg hr', cells_grown h4 hg hr', h5.record hg (fun r e => (hr r e).1) hD, Nat.le_trans h6 hg.size, h7⟩
theorem FX.own {w : World} {n D0 : Nat} {a need : UInt64} {q : UInt64 → Bool} (hD : w.heap.size ≤ D0) : OwnFrom D0 (FX w n a need q) := fun pre W W' row hs hg hr => by
 obtain ⟨ys, x, p, h1, h2, h3, h4, h5, h6⟩ := hs
 have hr' := fun r e => (hr r e).2
 exact ⟨ys, x, p, h1, h2, h3, cells_grown h4 hg hr', cells_grown h5 hg hr', h6.record hg (fun r e => (hr r e).1) hD⟩
theorem Fit_main {R : Nat → Prop} {w : World} {a0 : Option Addr} {f : UInt64 → UInt64} {N : Nat} {l : List UInt64} (n a : UInt64) (h : ReadsK R (.pointer a0) f N w) (hR : ∀ k, R k → k < w.heap.size)
    (hX : Spot 4800 l) (hn : l.Nodup) (ht : TreeOK f l) (hal : alignB a = true) (hnb : needB n = true) :
    Calls Tryz.prog 39 #[.pointer a0, .int .u64 (n.toNat : Int), .int .u64 (a.toNat : Int)] w fun e w' => e = .returned (fitV ((bigL f (needU n) l).find? (fitQ f (needU n) a)) (needU n) a) ∧ Keeps Nil w w' := by
  obtain ⟨hp, h1, h2, _⟩ := align_spec hal
  have HA := qH (fun w => wUp0_any w a)
  rw [hp] at HA
  obtain ⟨nd, hnd⟩ : ∃ x, x = needU n := ⟨_, rfl⟩
  have HB := qH (fun w => wNeed_any w n _ rfl)
  rw [hnb, ← hnd] at HB
  rw [← hnd]
  have t1 : decide (a.toNat < 16) = false := decide_eq_false (by omega)
  have t2 : decide (4096 < a.toNat) = false := decide_eq_false (by omega)
  have i1 : ¬ (a.toNat : Int) < 16 := by omega
  have i2 : ¬ (4096 : Int) < (a.toNat : Int) := by omega
  obtain ⟨xs, hxs⟩ : ∃ xs, xs = bigL f nd l := ⟨_, rfl⟩
  have g1 := big_first hX hn ht nd
  have g2 := big_next hX hn ht nd
  have g3 := big_nodup (f := f) hn nd
  have g4 := big_nz (f := f) hX nd
  have g5 : ∀ x ∈ xs, x.toNat ≤ 1048576 := fun x hx => by
    rw [hxs] at hx
    have := hX.inn x (big_mem hx).1
    omega
  rw [← hxs] at g1 g2 g3 g4 ⊢
  obtain ⟨RV, hRV⟩ : ∃ v, v = fitV (xs.find? (fitQ f nd a)) nd a := ⟨_, rfl⟩
  rw [← hRV]
  have HRV := qH hRV
  clear hRV
  obtain ⟨m, hm⟩ : ∃ m, m = w.heap.size := ⟨_, rfl⟩
  obtain ⟨wa, hwa⟩ : ∃ w0, w0 = ((w.alloc (.cells #[.int .u64 (a.toNat : Int)] 25)).alloc (.cells #[.int .u64 0, .int .u64 0, .int .u64 0] 57)).alloc (.cells #[.int .i64 0] 41) := ⟨_, rfl⟩
  have k0 : Keeps Nil w wa := by rw [hwa]; exact (((Keeps.refl Nil _).alloc _).alloc _).alloc _
  have b0 : wa.heap[m]? = some (.cells #[.int .u64 (a.toNat : Int)] 25 (0, 0)) := by rw [hwa, hm]; exact heap_old _ _ (heap_old _ _ (heap_new _ _))
  have b1 : wa.heap[m + 1]? = some (.cells #[.int .u64 0, .int .u64 0, .int .u64 0] 57 (0, 0)) := by
    rw [hwa, hm]; refine heap_old _ _ ?_; simpa using heap_new (w.alloc (.cells #[.int .u64 (a.toNat : Int)] 25)) (.cells #[.int .u64 0, .int .u64 0, .int .u64 0] 57)
  have b2 : wa.heap[m + 2]? = some (.cells #[.int .i64 0] 41 (0, 0)) := by
    rw [hwa, hm]; simpa using heap_new ((w.alloc (.cells #[.int .u64 (a.toNat : Int)] 25)).alloc (.cells #[.int .u64 0, .int .u64 0, .int .u64 0] 57)) (.cells #[.int .i64 0] 41)
  have s0 : wa.heap.size = m + 3 := by rw [hwa, hm]; simp
  have c0 := cell_of_one b0
  have H := qH (And.intro (h.keeps hR k0) (And.intro k0 (And.intro b0 (And.intro b1 (And.intro b2 s0)))))
  have G := qH (And.intro g1 (And.intro g2 (And.intro g3 (And.intro g4 g5))))
  have HW := qH hwa
  have HM := qH hm
  have HR := qH hR
  have HAL := qH hal
  clear h k0 b0 b1 b2 s0 hwa hm hR g1 g2 g3 g4 g5 hal hnb hp h1 h2 hnd hxs hX hn ht
  refine (callsIn_wide (n := 4)).1 ?_
  refine callsIn_of_wp_marks Tryz.func39 rfl trivial ?_ rfl
  simp only [Tryz.ntmps39, List.size_toArray, List.length_cons, List.length_nil, Nat.reduceAdd, Nat.reduceSub, Array.replicate_succ, Array.replicate_zero, List.push_toArray, List.append_toArray, List.nil_append, List.cons_append]
  gi_wp2_with fail
  rw [← HW.out, ← HM.out]
  refine ⟨trivial, ?_⟩
  refine (callsIn_wide.2 (HA.out wa)).mono ?_
  rintro _ _ ⟨rfl, rfl⟩
  gi_wp2_with (refine ⟨trivial, ?_⟩; gi_at_call 81; refine (callsIn_wide.2 (HB.out _)).mono ?_; rintro _ _ ⟨rfl, rfl⟩)
  obtain ⟨w1, hw1⟩ : ∃ W, W = wa.alloc (.cells #[.int .u64 (nd.toNat : Int)] 25) := ⟨_, rfl⟩
  have hsa : wa.heap.size = m + 3 := H.out.2.2.2.2.2
  have hW1 := qH hw1
  rw [hsa]
  rw [← hw1]
  clear hw1
  gi_wp2_with (refine ⟨trivial, ?_⟩; gi_at_call 94; refine (callsIn_wide.2 (frees_any a0 nd w1)).mono ?_; rintro _ _ ⟨rfl, rfl⟩)
  obtain ⟨w0, hw0⟩ : ∃ W, W = (w1.alloc (.cells #[.pointer a0] 24)).alloc (.cells #[.int .u64 (nd.toNat : Int)] 25) := ⟨_, rfl⟩
  have hs1 : w1.heap.size = m + 4 := by rw [hW1.out]; simp [hsa]
  have k1 := kA hW1
  have k2 : Keeps Nil w1 w0 := by rw [hw0]; exact ((Keeps.refl Nil _).alloc _).alloc _
  have k12 := k1.trans' k2
  have b3 : w1.heap[m + 3]? = some (.cells #[.int .u64 (nd.toNat : Int)] 25 (0, 0)) := by rw [hW1.out, ← hsa]; exact heap_new _ _
  have b4 : w0.heap[m + 4]? = some (.cells #[.pointer a0] 24 (0, 0)) := by rw [hw0, ← hs1]; exact heap_old _ _ (heap_new _ _)
  have b5 : w0.heap[m + 5]? = some (.cells #[.int .u64 (nd.toNat : Int)] 25 (0, 0)) := by
    rw [hw0, show m + 5 = (w1.alloc (.cells #[.pointer a0] 24)).heap.size by simp [hs1]]; exact heap_new _ _
  have s0 : w0.heap.size = m + 6 := by rw [hw0]; simp [hs1]
  have b0 := k12.at H.out.2.2.1 (fun e => e)
  have b1 := k12.at H.out.2.2.2.1 (fun e => e)
  have b2 := k12.at H.out.2.2.2.2.1 (fun e => e)
  replace b3 := k2.at b3 (fun e => e)
  have hT0 := H.out.1.keeps (fun k e => Nat.lt_of_lt_of_le (HR.out k e) H.out.2.1.size) k12
  have hK0 := H.out.2.1.trans' k12
  rw [hs1, ← hw0]
  have hR' : ∀ k, R k → k < m := fun k e => by have := HR.out k e; rw [HM.out]; exact this
  have hown0 : ∀ k, OwnB (m + 1) w0 k → k = m + 1 := fun k e => by
    rcases e with e | ⟨n', c, T, f', e⟩
    · exact e
    · rw [b1] at e; simp at e
  have hwm : w.heap.size ≤ m := by rw [HM.out]; exact Nat.le_refl _
  clear hw0 k1 k2 k12
  refine wpIn_rangeFunc_ownF rfl (by omega) (gf := 147) (lb := #[.pointer (some ⟨m + 4, 0, none⟩), .pointer (some ⟨m + 5, 0, none⟩)]) rfl trivial (enters_of Tryz.func147 (by kernel_rfl) rfl)
    (frees_stops (4 - 1) (by omega) (m + 4) (m + 5) w0.heap.size (m + 1) (R := R) (a := a0) (f := f) (N := N) (need := nd) (xs := xs) G.out.2.2.1 G.out.2.2.2.1 G.out.1 G.out.2.1 w0 ⟨by omega, by omega⟩ (fun k e => by rw [hown0 k e]; omega)
      (fun k e => ⟨by have := hR' k e; omega, by have := hR' k e; omega, fun e2 => by have := hR' k e; have := hown0 k e2; omega⟩) b4 ⟨by omega, fun e => by have := hown0 _ e; omega⟩ b5 ⟨by omega, fun e => by have := hown0 _ e; omega⟩ hT0)
    KeptBut.trans (fun W l o o' hl ho hc _ => KeptBut.put W l o o' (by omega) hl ho hc) (Below.refl _ _) (fun _ => by rfl)
    (FI w w0 m a nd (fitQ f nd a)) (fun c pre W => c = .ret ∧ FX w m a nd (fitQ f nd a) pre W) (FI.own (by omega)) (fun c pre W W' row hs hg hr => ⟨hs.1, FX.own (by omega) pre W W' row hs.2 hg hr⟩)
    ⟨b0, b1, b2, b3, hK0, Nat.le_refl _, fun _ h => by simp at h⟩ ?acts ?assign ?body ?done ?stop
  case assign =>
    intro L x W K hK
    dsimp only [encF]
    gi_wp2
    exact hK
  case body =>
    clear hown0 hR' b4 b5 hT0 b0 b1 b2 b3 hK0
    rintro L pre x W ⟨b0, b1, b2, b3, hK, hsz, hq⟩ hpl
    have c0 := cell_of_one b0
    have c3 := cell_of_one b3
    have c1 := row3 b1
    obtain ⟨c10, c11, c12⟩ := c1
    have f10 := frz b1 0
    have f11 := frz b1 1
    have f12 := frz b1 2
    have c2 := cell_of_one b2
    have f2 := frz b2 0
    have HB2 := qH (And.intro b0 (And.intro b1 (And.intro b2 (And.intro b3 (And.intro hK (And.intro hsz hq))))))
    obtain ⟨sz, hsz2⟩ : ∃ z, z = (unpackT (f x)).size := ⟨_, rfl⟩
    obtain ⟨y, hy⟩ : ∃ y, y = sz - nd := ⟨_, rfl⟩
    have q_y : IntKind.u64.wrap ((sz.toNat : Int) - (nd.toNat : Int)) = (y.toNat : Int) := by rw [hy]; exact u64_sub sz nd
    have HQ := qH (show ∀ p : UInt64, p = padU x a → fitQ f nd a x = decide (p.toNat ≤ y.toNat) from fun p hp => by unfold fitQ; rw [hy, hsz2, hp])
    simp only [← hsz2]
    clear b0 b1 b2 b3 hK hsz hq hsz2 hy
    gi_wp2_with (refine ⟨trivial, ?_⟩; gi_at_call 95; refine (callsIn_wide.2 (cpad_all W x a HAL.out)).mono ?_)
    rintro _ _ ⟨⟨p, rfl, hp⟩, rfl⟩
    have HP := qH hp
    clear hp
    have hne21 : (m + 2 = m + 1) = False := eq_false (by omega)
    have hne12 : (m + 1 = m + 2) = False := eq_false (by omega)
    by_cases hle : p.toNat ≤ y.toNat
    · have t3 : (p.toNat : Int) ≤ (y.toNat : Int) := by omega
      have t4 : decide (p.toNat ≤ y.toNat) = true := decide_eq_true hle
      have HLE := qH hle
      clear hle
      gi_wp2
      obtain ⟨b0, b1, b2, b3, hK, hsz, hq⟩ := HB2.out
      refine ⟨(((KeepsOthers.setCell _ _ _).trans (KeepsOthers.setCell _ _ _)).trans (KeepsOthers.setCell _ _ _)).trans (KeepsOthers.setCell _ _ _), rfl, pre, x, p, rfl, hq, fun h => ⟨HP.out h, by rw [HQ.out p (HP.out h)]; exact decide_eq_true HLE.out⟩, ?_, ?_, ?_⟩
      · simpa using heap_setCell_ne (heap_setCell_eq (heap_setCell_eq (heap_setCell_eq b1 0 (.int .u64 (x.toNat : Int))) 1 (.int .u64 (p.toNat : Int))) 2 (.int .u64 (nd.toNat : Int))) ⟨m + 2, 0, none⟩ (.int .i64 0) (by simp)
      · simpa using heap_setCell_eq (heap_setCell_ne (heap_setCell_ne (heap_setCell_ne b2 ⟨m + 1, 0, none⟩ (.int .u64 (x.toNat : Int)) (by simp)) ⟨m + 1, 1, none⟩ (.int .u64 (p.toNat : Int)) (by simp)) ⟨m + 1, 2, none⟩ (.int .u64 (nd.toNat : Int)) (by simp)) 0 (.int .i64 0)
      · exact (((hK.setNew (a := ⟨m + 1, 0, none⟩) (by simp only; omega) _).setNew (a := ⟨m + 1, 1, none⟩) (by simp only; omega) _).setNew (a := ⟨m + 1, 2, none⟩) (by simp only; omega) _).setNew (a := ⟨m + 2, 0, none⟩) (by simp only; omega) _
    · have t3 : ¬ (p.toNat : Int) ≤ (y.toNat : Int) := by omega
      have t4 : decide (p.toNat ≤ y.toNat) = false := decide_eq_false hle
      have HLE := qH hle
      clear hle
      gi_wp2
      obtain ⟨b0, b1, b2, b3, hK, hsz, hq⟩ := HB2.out
      refine ⟨KeepsOthers.refl _, KeptBut.refl _ _ _, b0, b1, b2, b3, hK, hsz, fun z hz h => ?_⟩
      rcases List.mem_append.1 hz with hz | hz
      · exact hq z hz h
      · rw [List.mem_singleton.1 hz] at h ⊢
        rw [HQ.out p (HP.out h)]; exact decide_eq_false HLE.out
  case done =>
    clear hown0 hR' b4 b5 hT0 b0 b1 b2 b3 hK0
    rintro D ys W hD rfl ⟨b0, b1, b2, b3, hK, hsz, hq⟩ hd
    have hf : ys.find? (fitQ f nd a) = none := find_none_take (fun x hx => hq x hx (G.out.2.2.2.2 x hx))
    have HF := qH hf
    obtain ⟨c10, c11, c12⟩ := row3 b1
    have f10 := frz b1 0
    have f11 := frz b1 1
    have f12 := frz b1 2
    have c2 := cell_of_one b2
    have f2 := frz b2 0
    have HB2 := qH (And.intro b1 (And.intro b2 (And.intro hK (And.intro hsz hd))))
    clear b0 b1 b2 b3 hK hsz hd hq hf
    gi_wp2
    obtain ⟨b1, b2, hK, hsz, hd⟩ := HB2.out
    have hD1 : D ≠ m + 1 := fun e => by rw [e, b1] at hd; cases hd
    have hD2 : D ≠ m + 2 := fun e => by rw [e, b2] at hd; cases hd
    have g1 : ((((W.setCell ⟨m + 1, 0, none⟩ (.int .u64 0)).setCell ⟨m + 1, 1, none⟩ (.int .u64 0)).setCell ⟨m + 1, 2, none⟩ (.int .u64 0)).setCell ⟨m + 2, 0, none⟩ (.int .i64 3)).heap[m + 1]? = some (.cells #[.int .u64 0, .int .u64 0, .int .u64 0] 57 (0, 0)) := by
      simpa using heap_setCell_ne (heap_setCell_eq (heap_setCell_eq (heap_setCell_eq b1 0 (.int .u64 0)) 1 (.int .u64 0)) 2 (.int .u64 0)) ⟨m + 2, 0, none⟩ (.int .i64 3) (by simp)
    have g2 : ((((W.setCell ⟨m + 1, 0, none⟩ (.int .u64 0)).setCell ⟨m + 1, 1, none⟩ (.int .u64 0)).setCell ⟨m + 1, 2, none⟩ (.int .u64 0)).setCell ⟨m + 2, 0, none⟩ (.int .i64 3)).heap[m + 2]? = some (.cells #[.int .i64 3] 41 (0, 0)) := by
      simpa using heap_setCell_eq (heap_setCell_ne (heap_setCell_ne (heap_setCell_ne b2 ⟨m + 1, 0, none⟩ (.int .u64 0) (by simp)) ⟨m + 1, 1, none⟩ (.int .u64 0) (by simp)) ⟨m + 1, 2, none⟩ (.int .u64 0) (by simp)) 0 (.int .i64 3)
    have g3 : ((((W.setCell ⟨m + 1, 0, none⟩ (.int .u64 0)).setCell ⟨m + 1, 1, none⟩ (.int .u64 0)).setCell ⟨m + 1, 2, none⟩ (.int .u64 0)).setCell ⟨m + 2, 0, none⟩ (.int .i64 3)).heap[D]? = some (.deferred (some [])) :=
      heap_setCell_ne (heap_setCell_ne (heap_setCell_ne (heap_setCell_ne hd _ _ hD1) _ _ hD1) _ _ hD1) _ _ hD2
    have g4 := (((hK.setNew (a := ⟨m + 1, 0, none⟩) (by simp only; omega) (.int .u64 0)).setNew (a := ⟨m + 1, 1, none⟩) (by simp only; omega) (.int .u64 0)).setNew (a := ⟨m + 1, 2, none⟩) (by simp only; omega) (.int .u64 0)).setNew (a := ⟨m + 2, 0, none⟩) (by simp only; omega) (.int .i64 3)
    have hr : ∀ r, some D = some r → ∃ o : Obj, ((((W.setCell ⟨m + 1, 0, none⟩ (.int .u64 0)).setCell ⟨m + 1, 1, none⟩ (.int .u64 0)).setCell ⟨m + 1, 2, none⟩ (.int .u64 0)).setCell ⟨m + 2, 0, none⟩ (.int .i64 3)).heap[r]? = some o ∧ o.isCells = false := fun r e => by cases e; exact ⟨_, g3, rfl⟩
    refine ⟨by simp, .inl ⟨_, _, rfl, run_takeDeferred g3, ?_⟩⟩
    exact ⟨_, results_cell2 rfl rfl rfl (loadVar_place (cells_grown g1 (grown_put _ D _) hr) rfl) (loadVar_errno (cell_of_one (cells_grown g2 (grown_put _ D _) hr))), by rw [HRV.out, HF.out]; rfl, g4.record (grown_put _ D _) (fun r e => by cases e; omega) (Nat.le_refl _)⟩
  case stop =>
    clear hown0 hR' b4 b5 hT0 b0 b1 b2 b3 hK0
    rintro D c pre W hD ⟨k, hk, hS⟩ ⟨rfl, ys, x, p, h1, h2, h3, h4, h5, h6⟩ hd
    rw [h1] at hS
    have hin : ∀ z ∈ ys ++ [x], z.toNat ≤ 1048576 := fun z hz => G.out.2.2.2.2 z (by rw [hS] at hz; exact List.mem_of_mem_take hz)
    obtain ⟨p1, p2⟩ := h3 (hin x (by simp))
    have hf : xs.find? (fitQ f nd a) = some x := find_at hS (fun z hz => h2 z hz (hin z (by simp [hz]))) p2
    have HF := qH hf
    subst p1
    have HB2 := qH (And.intro h4 (And.intro h5 (And.intro h6 hd)))
    clear h1 h2 h3 h4 h5 h6 hd hS hin p2 hf
    gi_wp2
    obtain ⟨b1, b2, hK, hd⟩ := HB2.out
    have hr : ∀ r, some D = some r → ∃ o : Obj, W.heap[r]? = some o ∧ o.isCells = false := fun r e => by cases e; exact ⟨_, hd, rfl⟩
    refine ⟨by simp, .inl ⟨_, _, rfl, run_takeDeferred hd, ?_⟩⟩
    exact ⟨_, results_cell2 rfl rfl rfl (loadVar_place (cells_grown b1 (grown_put _ D _) hr) rfl) (loadVar_errno (cell_of_one (cells_grown b2 (grown_put _ D _) hr))), by rw [HRV.out, HF.out]; rfl, hK.record (grown_put _ D _) (fun r e => by cases e; omega) (Nat.le_refl _)⟩
theorem Fit_any {R : Nat → Prop} {w : World} {a0 : Option Addr} {f : UInt64 → UInt64} {N E : Nat} {e : UInt64} {H : List BlockV} {Ls : Nat → List UInt64} {K : UInt64 → UInt64 → Prop} (n a : UInt64) (h : ReadsK R (.pointer a0) f N w) (hR : ∀ k, R k → k < w.heap.size)
    (hl : Lay E H) (hW : Wd f e H Ls K) : Calls Tryz.prog 39 #[.pointer a0, .int .u64 (n.toNat : Int), .int .u64 (a.toNat : Int)] w fun e w' => e = .returned (cFitV H n a) ∧ Keeps Nil w w' := by
  cases hal : alignB a with
  | false => exact Fit_arg n a H hal
  | true =>
    cases hnb : needB n with
    | false => exact Fit_size n a H hal hnb
    | true =>
      obtain ⟨s1, s2, _⟩ := hl.spot
      refine (Fit_main n a h hR s1 s2 hW.tree hal hnb).mono ?_
      rintro e' w' ⟨rfl, k⟩
      refine ⟨?_, k⟩
      rw [big_find, fit_same hl hW.tags]
      unfold cFitV
      cases hj : fitJ H n a with
      | none =>
        rw [fitC_none hal hnb hj, if_neg (by decide)]
        unfold fitJ at hj
        rw [hj]; rfl
      | some j =>
        rw [fitC_some hal hnb hj, if_pos rfl]
        unfold fitJ at hj
        rw [hj]; rfl
end
end Go.Proofs.YtefpbljekfkefaaGreat
