/- RFit: written short. -/
import Derived.Test.YtefpbljekfkefaaGreatS20
import Derived.Test.YtefpbljekfkefaaGreatS17
import Derived.Test.YtefpbljekfkefaaGreatS11
import Derived.Test.YtefpbljekfkefaaGreatS01
import Derived.Test.YtefpbljekfkefaaGreatS10
set_option maxRecDepth 100000
set_option maxHeartbeats 8000000
namespace Go.Proofs.YtefpbljekfkefaaGreat
section
open Go.RowKit
def bestI (o : Option Nat) : Int := match o with | none => -1 | some j => (j : Int)
section
variable {P : BlockV → Bool} {H : List BlockV} {k : Nat} {b : BlockV} (hb : H[k]? = some b)
include hb
theorem best_no (hp : P b = false) {o : Option Nat} (h : bestF P H k = o) : bestF P H (k + 1) = o := by
  rw [bestF]; simp only [hb]; rw [if_neg (by rw [hp]; decide)]; exact h
theorem best_first (hp : P b = true) (h : bestF P H k = none) : bestF P H (k + 1) = some k := by
  rw [bestF]; simp only [hb]; rw [if_pos hp, h]
theorem best_less (hp : P b = true) {j : Nat} {c : BlockV} (h : bestF P H k = some j) (hc : H[j]? = some c) (hl : b.tag.size.toNat < c.tag.size.toNat) : bestF P H (k + 1) = some k := by
  rw [bestF]; simp only [hb]; rw [if_pos hp, h]; simp only [hc, Option.getD_some]; rw [if_pos hl]
theorem best_keep (hp : P b = true) {j : Nat} {c : BlockV} (h : bestF P H k = some j) (hc : H[j]? = some c) (hl : ¬ b.tag.size.toNat < c.tag.size.toNat) : bestF P H (k + 1) = some j := by
  rw [bestF]; simp only [hb]; rw [if_pos hp, h]; simp only [hc, Option.getD_some]; rw [if_neg hl]
end
theorem fitB_used {need a : UInt64} {b : BlockV} (h : b.tag.used = true) : fitB need a b = false := by unfold fitB; rw [h]; rfl
theorem fitB_small {need a : UInt64} {b : BlockV} (h : b.tag.size.toNat < need.toNat) : fitB need a b = false := by
  unfold fitB; rw [show decide (need.toNat ≤ b.tag.size.toNat) = false from decide_eq_false (by omega), Bool.and_false, Bool.false_and]
theorem fitB_pad {need a : UInt64} {b : BlockV} (h1 : ¬ b.tag.size.toNat < need.toNat) (h : (b.tag.size - need).toNat < (padU b.off a).toNat) : fitB need a b = false := by
 rw [UInt64.toNat_sub_of_le _ _ (by rw [UInt64.le_iff_toNat_le]; omega)] at h
 unfold fitB; rw [show decide ((padU b.off a).toNat ≤ b.tag.size.toNat - need.toNat) = false from decide_eq_false (by omega), Bool.and_false]
theorem fitB_yes {need a : UInt64} {b : BlockV} (h0 : b.tag.used = false) (h1 : ¬ b.tag.size.toNat < need.toNat) (h : ¬ (b.tag.size - need).toNat < (padU b.off a).toNat) : fitB need a b = true := by
 rw [UInt64.toNat_sub_of_le _ _ (by rw [UInt64.le_iff_toNat_le]; omega)] at h
 unfold fitB; rw [show decide ((padU b.off a).toNat ≤ b.tag.size.toNat - need.toNat) = true from decide_eq_true (by omega), show decide (need.toNat ≤ b.tag.size.toNat) = true from decide_eq_true (by omega), h0]; rfl
def rFitV (H : List BlockV) (n a : UInt64) : Value := if fitC H n a = 0 then (match fitJ H n a with
 | some j => .tuple #[.int .i64 (j : Int), .int .u64 ((padU ((H[j]?).getD BlockV.zero).off a).toNat : Int), .int .u64 ((needU n).toNat : Int), .int .i64 0]
 | none => .tuple #[.int .i64 0, .int .u64 0, .int .u64 0, .int .i64 3])
 else .tuple #[.int .i64 0, .int .u64 0, .int .u64 0, .int .i64 (fitC H n a)]
theorem results_tmp4 {fn : Func} {t u v x : Tmp} (h : fn.results = #[.tmp t, .tmp u, .tmp v, .tmp x]) (tmps : Array Value) (P : Program) (w : World) :
  (results fn tmps).run P w = .ok (.tuple #[tmps.getD t undef, tmps.getD u undef, tmps.getD v undef, tmps.getD x undef]) w := by
 simp [results, h]
theorem rFit_any {S : Nat → Prop} {w : World} {e : UInt64} {vb L0 L1 L2 L3 L4 L5 L6 L7 : Value} {H : List BlockV} {E : Nat} (n a : UInt64) (hl : Lay E H) (hv0 : View kRB S w vb H) (hlen : H.length ≤ 4294967290) :
    Calls Tryz.prog 60 #[.agg #[.int .u64 (e.toNat : Int), vb, L0, L1, L2, L3, L4, L5, L6, L7], .int .u64 (n.toNat : Int), .int .u64 (a.toNat : Int)] w fun e w' => e = .returned (rFitV H n a) ∧ Keeps Nil w w' := by
  obtain ⟨al, cl, rfl, _⟩ := hv0.val
  obtain ⟨M, hM⟩ : ∃ N, N = H.length := ⟨_, rfl⟩
  rw [← hM]
  have hMm : M ≤ 4294967290 := by rw [hM]; exact hlen
  have HV := qH (show View kRB S w (.slice al M cl) H by rw [hM]; exact hv0)
  have HN := qH hM
  have HLY := qH hl
  clear hv0 hlen hM hl
  obtain ⟨nd, hnd⟩ : ∃ x, x = needU n := ⟨_, rfl⟩
  obtain ⟨RV, hRV⟩ : ∃ v, v = rFitV H n a := ⟨_, rfl⟩
  rw [← hRV]
  have HND := qH hnd
  have HRV := qH hRV
  clear hRV hnd
  cases hal : alignB a with
  | false =>
    have HR := qH (show RV = .tuple #[.int .i64 0, .int .u64 0, .int .u64 0, .int .i64 1] by rw [HRV.out]; unfold rFitV; rw [fitC_align hal, if_neg (by decide)])
    have HA := qH (fun w => Align_any w a)
    rw [hal] at HA
    clear hal
    have hst := qH (Step.refl Nil w)
    go_enter Tryz.func60, Tryz.ntmps60
    obtain ⟨W1, hW1⟩ := nm (w.alloc (.cells #[.int .u64 (e.toNat : Int), .slice al M cl, L0, L1, L2, L3, L4, L5, L6, L7] 30))
    obtain ⟨B1, eB1⟩ := nm (w.heap.size)
    go_wp2_with fail
    rw [← hW1.out]
    try rw [← eB1.out]
    have k1 := kA hW1
    have e0B1 := eB1.out
    have hB1 := zB hW1 (Bx.new Nil.lt _ _ e0B1)
    have gB1 := gZ e0B1 hst
    replace hst := sN hst k1
    clear k1 e0B1
    refine (HA.out _).mono ?_
    rintro _ _ ⟨rfl, rfl⟩
    go_wp2_with fail
    (try simp only [Exit.inBlock, Exit.then]); refine bodyPost_ret (results_tmp4 rfl _ _ _) rfl ?_
    exact ⟨by rw [HR.out]; rfl, hst.out.keeps⟩
  | true =>
    have HA := qH (fun w => Align_any w a)
    rw [hal] at HA
    have HAL := qH hal
    have HB := qH (fun w => rNeed_any w n _ rfl)
    clear hal
    cases hnb : needB n with
    | false =>
      have HR := qH (show RV = .tuple #[.int .i64 0, .int .u64 0, .int .u64 0, .int .i64 2] by rw [HRV.out]; unfold rFitV; rw [fitC_size HAL.out hnb, if_neg (by decide)])
      rw [hnb] at HB
      rw [← HND.out] at HB
      clear hnb
      have hst := qH (Step.refl Nil w)
      go_enter Tryz.func60, Tryz.ntmps60
      obtain ⟨W1, hW1⟩ := nm (w.alloc (.cells #[.int .u64 (e.toNat : Int), .slice al M cl, L0, L1, L2, L3, L4, L5, L6, L7] 30))
      obtain ⟨B1, eB1⟩ := nm (w.heap.size)
      go_wp2_with fail
      rw [← hW1.out]
      try rw [← eB1.out]
      have k1 := kA hW1
      have e0B1 := eB1.out
      have hB1 := zB hW1 (Bx.new Nil.lt _ _ e0B1)
      have gB1 := gZ e0B1 hst
      replace hst := sN hst k1
      clear k1 e0B1
      refine (HA.out _).mono ?_
      rintro _ _ ⟨rfl, rfl⟩
      go_wp2_with fail
      refine (HB.out _).mono ?_
      rintro _ _ ⟨rfl, rfl⟩
      go_wp2_with fail
      (try simp only [Exit.inBlock, Exit.then]); refine bodyPost_ret (results_tmp4 rfl _ _ _) rfl ?_
      exact ⟨by rw [HR.out]; rfl, hst.out.keeps⟩
    | true =>
      have HNB := qH hnb
      rw [hnb] at HB
      rw [← HND.out] at HB
      clear hnb
      have hst := qH (Step.refl Nil w)
      go_enter Tryz.func60, Tryz.ntmps60
      obtain ⟨W1, hW1⟩ := nm (w.alloc (.cells #[.int .u64 (e.toNat : Int), .slice al M cl, L0, L1, L2, L3, L4, L5, L6, L7] 30))
      obtain ⟨B1, eB1⟩ := nm (w.heap.size)
      go_wp2_with fail
      rw [← hW1.out]
      try rw [← eB1.out]
      have k1 := kA hW1
      have e0B1 := eB1.out
      have hB1 := zB hW1 (Bx.new Nil.lt _ _ e0B1)
      have gB1 := gZ e0B1 hst
      replace hst := sN hst k1
      clear k1 e0B1
      refine (HA.out _).mono ?_
      rintro _ _ ⟨rfl, rfl⟩
      go_wp2_with fail
      refine (HB.out _).mono ?_
      rintro _ _ ⟨rfl, rfl⟩
      go_wp2_with fail
      go_wp2_with fail
      go_loopw [12, 13] (fun vb i wr => (∃ (k : Nat) (ob : Option Nat), k ≤ M ∧ vb = .int .i64 (bestI ob) ∧ i = .int .i64 (k : Int) ∧ Hid (bestF (fitB nd a) H k = ob) ∧ Hid (Keeps Nil w wr)) ∧ Hid (Bx wr Nil B1 #[.int .u64 (e.toNat : Int), .slice al M cl, L0, L1, L2, L3, L4, L5, L6, L7] 30)) (fun vb i _ => M - (intOf i).toNat)
      case atStart => exact ⟨⟨0, none, by omega, rfl, rfl, qH rfl, qH hst.out.keeps⟩, hB1⟩
      case round =>
        clear hB1
        obtain ⟨hrel, hB1⟩ := hrel
        obtain ⟨k, ob, hk, rfl, rfl, HP, hK0⟩ := hrel
        replace hst := qH (Step.of_nil (S := Nil) hK0.out)
        clear hK0
        by_cases hlt : k < M
        · obtain ⟨gb, go, cap, e1, hcp, _, hgb, _, hcell⟩ := HV.out.pos (by rw [← HN.out]; omega)
          simp only [Value.slice.injEq] at e1
          obtain ⟨rfl, hn1, rfl⟩ := e1
          clear hn1
          have HC := qH (show ∀ i j, j < kRB.size → i < H.length → w.cell? ⟨gb, go + (i * kRB.size + j), none⟩ = (H[i]?).bind (fun x => (kRB.enc x)[j]?) from hcell)
          have HGB := qH hgb
          have hMc : M ≤ cl := by rw [HN.out]; exact hcp
          clear hcell hgb hcp
          obtain ⟨⟨bo, ⟨bs, bu, bw⟩, bl⟩, hx⟩ : ∃ x, H[k]? = some x := ⟨H[k]'(by rw [← HN.out]; exact hlt), by simp⟩
          have hnum := HLY.out.nums (getE_mem hx)
          have ho1 : bo.toNat ≤ 1048576 := by have := hnum; simp only [BlockV.z] at this; omega
          have ho2 : bo.toNat % 16 = 0 := hnum.2.2.2.1
          clear hnum
          have HO := qH (And.intro ho1 ho2)
          clear ho1 ho2
          have HX := qH hx
          have HLT := qH hlt
          clear hx
          cases bu with
          | true =>
            skip
            have c_B1_1 := cB hB1 1
            have l_B1 := hB1.out.lt
            have e_x0 := eX hst HGB (View.cellB HC.out k _ HX.out).1
            have e_x1 := eX hst HGB (View.cellB HC.out k _ HX.out).2.1
            have e_x2 := eX hst HGB (View.cellB HC.out k _ HX.out).2.2.1
            have e_x3 := eX hst HGB (View.cellB HC.out k _ HX.out).2.2.2.1
            have e_x4 := eX hst HGB (View.cellB HC.out k _ HX.out).2.2.2.2
            have l_e_x := Nat.lt_of_lt_of_le HGB.out hst.out.keeps.size
            obtain ⟨W4, hW4⟩ := nm (wr.alloc (.cells #[.int .u64 (bo.toNat : Int), .int .u64 (bs.toNat : Int), .bool true, .int .i64 bw, .int .u64 (bl.toNat : Int)] 63))
            obtain ⟨B2, eB2⟩ := nm (wr.heap.size)
            go_wp2_with fail
            clear c_B1_1 l_B1 e_x0 e_x1 e_x2 e_x3 e_x4 l_e_x
            rw [← hW4.out]
            try rw [← eB2.out]
            have k2 := kA hW4
            have e0B2 := eB2.out
            have hB2 := zB hW4 (Bx.new Nil.lt _ _ e0B2)
            have gB2 := gZ e0B2 hst
            have nB1B2 := nZ e0B2 hB1
            replace hst := sN hst k2
            replace hB1 := bN hB1 k2
            clear k2 e0B2
            obtain ⟨W5, hW5⟩ := nm (W4.drew)
            have kn := kD hW5
            replace hst := sN hst kn
            replace hB1 := bN hB1 kn
            replace hB2 := bN hB2 kn
            clear kn
            refine wp_region_held_drew (S := fun w' => w'.cell? ⟨B2, 2, none⟩ = some (.bool true) ∧ w'.cell? ⟨gb, go + k * 5, none⟩ = some (.int .u64 (bo.toNat : Int)) ∧ w'.cell? ⟨gb, go + k * 5 + 1, none⟩ = some (.int .u64 (bs.toNat : Int)) ∧ w'.cell? ⟨gb, go + k * 5 + 2, none⟩ = some (.bool true) ∧ w'.cell? ⟨gb, go + k * 5 + 3, none⟩ = some (.int .i64 bw) ∧ w'.cell? ⟨gb, go + k * 5 + 4, none⟩ = some (.int .u64 (bl.toNat : Int))) (by kernel_rfl) (by rw [← hW5.out]; exact ⟨cB hB2 2, eX hst HGB (View.cellB HC.out k _ HX.out).1, (hst.out.keeps.cell HGB.out (fun e => e) _).trans (View.cellB HC.out k _ HX.out).2.1, (hst.out.keeps.cell HGB.out (fun e => e) _).trans (View.cellB HC.out k _ HX.out).2.2.1, (hst.out.keeps.cell HGB.out (fun e => e) _).trans (View.cellB HC.out k _ HX.out).2.2.2.1, (hst.out.keeps.cell HGB.out (fun e => e) _).trans (View.cellB HC.out k _ HX.out).2.2.2.2⟩) (fun hHeld => ?_)
            rw [← hW5.out] at hHeld ⊢
            refine fT 0 rfl hHeld ?_
            try simp only [Act.put, List.getElem_toArray, List.getElem_cons_zero, List.setIfInBounds_toArray, List.set_cons_zero, List.set_cons_succ]
            refine fT 1 rfl hHeld ?_; try simp only [sP,sQ]
            refine fT 2 rfl hHeld ?_; try simp only [sP,sQ]
            refine fT 3 rfl hHeld ?_; try simp only [sP,sQ]
            refine fN 4 rfl hHeld ?_; try simp only [sP,sQ]
            refine fN 5 rfl hHeld ?_; try simp only [sP,sQ]
            refine fN 6 rfl hHeld ?_; try simp only [sP,sQ]
            refine fN 7 rfl hHeld ?_; try simp only [sP,sQ]
            refine fN 8 rfl hHeld ?_; try simp only [sP,sQ]
            refine fT 9 rfl hHeld ?_; try simp only [sP,sQ]
            refine fT 10 rfl hHeld ?_; try simp only [sP,sQ]
            refine fN 11 rfl hHeld ?_; try simp only [sP,sQ]
            refine fN 12 rfl hHeld ?_; try simp only [sP,sQ]
            refine fN 13 rfl hHeld ?_; try simp only [sP,sQ]
            refine fN 14 rfl hHeld ?_; try simp only [sP,sQ]
            refine fN 15 rfl hHeld ?_; try simp only [sP,sQ]
            refine fN 16 rfl hHeld ?_; try simp only [sP,sQ]
            refine fN 17 rfl hHeld ?_; try simp only [sP,sQ]
            refine fN 18 rfl hHeld ?_; try simp only [sP,sQ]
            refine fN 19 rfl hHeld ?_; try simp only [sP,sQ]
            refine fN 20 rfl hHeld ?_; try simp only [sP,sQ]
            refine fT 21 rfl hHeld ?_; try simp only [sP,sQ]
            refine fD ?_
            clear hHeld
            have c_B2_2 := cB hB2 2
            have l_B2 := hB2.out.lt
            have e_x0 := eX hst HGB (View.cellB HC.out k _ HX.out).1
            have e_x1 := eX hst HGB (View.cellB HC.out k _ HX.out).2.1
            have e_x2 := eX hst HGB (View.cellB HC.out k _ HX.out).2.2.1
            have e_x3 := eX hst HGB (View.cellB HC.out k _ HX.out).2.2.2.1
            have e_x4 := eX hst HGB (View.cellB HC.out k _ HX.out).2.2.2.2
            have l_e_x := Nat.lt_of_lt_of_le HGB.out hst.out.keeps.size
            go_wp2_with fail
            clear c_B2_2 l_B2 e_x0 e_x1 e_x2 e_x3 e_x4 l_e_x
            go_roundw
            case rel => exact ⟨⟨k + 1, ob, by have := HLT.out; omega, rfl, by go_num, qH (best_no HX.out (fitB_used rfl) HP.out), qH hst.out.keeps⟩, hB1⟩
            case measure => simp [intOf]; have := HLT.out; omega
          | false =>
            by_cases hq : bs.toNat < nd.toNat
            · skip
              have c_B1_1 := cB hB1 1
              have l_B1 := hB1.out.lt
              have e_x0 := eX hst HGB (View.cellB HC.out k _ HX.out).1
              have e_x1 := eX hst HGB (View.cellB HC.out k _ HX.out).2.1
              have e_x2 := eX hst HGB (View.cellB HC.out k _ HX.out).2.2.1
              have e_x3 := eX hst HGB (View.cellB HC.out k _ HX.out).2.2.2.1
              have e_x4 := eX hst HGB (View.cellB HC.out k _ HX.out).2.2.2.2
              have l_e_x := Nat.lt_of_lt_of_le HGB.out hst.out.keeps.size
              obtain ⟨W4, hW4⟩ := nm (wr.alloc (.cells #[.int .u64 (bo.toNat : Int), .int .u64 (bs.toNat : Int), .bool false, .int .i64 bw, .int .u64 (bl.toNat : Int)] 63))
              obtain ⟨B2, eB2⟩ := nm (wr.heap.size)
              go_wp2_with fail
              clear c_B1_1 l_B1 e_x0 e_x1 e_x2 e_x3 e_x4 l_e_x
              rw [← hW4.out]
              try rw [← eB2.out]
              have k2 := kA hW4
              have e0B2 := eB2.out
              have hB2 := zB hW4 (Bx.new Nil.lt _ _ e0B2)
              have gB2 := gZ e0B2 hst
              have nB1B2 := nZ e0B2 hB1
              replace hst := sN hst k2
              replace hB1 := bN hB1 k2
              clear k2 e0B2
              obtain ⟨W5, hW5⟩ := nm (W4.drew)
              have kn := kD hW5
              replace hst := sN hst kn
              replace hB1 := bN hB1 kn
              replace hB2 := bN hB2 kn
              clear kn
              refine wp_region_held_drew (S := fun w' => w'.cell? ⟨B2, 1, none⟩ = some (.int .u64 (bs.toNat : Int)) ∧ w'.cell? ⟨B2, 2, none⟩ = some (.bool false) ∧ w'.cell? ⟨gb, go + k * 5, none⟩ = some (.int .u64 (bo.toNat : Int)) ∧ w'.cell? ⟨gb, go + k * 5 + 1, none⟩ = some (.int .u64 (bs.toNat : Int)) ∧ w'.cell? ⟨gb, go + k * 5 + 2, none⟩ = some (.bool false) ∧ w'.cell? ⟨gb, go + k * 5 + 3, none⟩ = some (.int .i64 bw) ∧ w'.cell? ⟨gb, go + k * 5 + 4, none⟩ = some (.int .u64 (bl.toNat : Int))) (by kernel_rfl) (by rw [← hW5.out]; exact ⟨cB hB2 1, cB hB2 2, eX hst HGB (View.cellB HC.out k _ HX.out).1, (hst.out.keeps.cell HGB.out (fun e => e) _).trans (View.cellB HC.out k _ HX.out).2.1, (hst.out.keeps.cell HGB.out (fun e => e) _).trans (View.cellB HC.out k _ HX.out).2.2.1, (hst.out.keeps.cell HGB.out (fun e => e) _).trans (View.cellB HC.out k _ HX.out).2.2.2.1, (hst.out.keeps.cell HGB.out (fun e => e) _).trans (View.cellB HC.out k _ HX.out).2.2.2.2⟩) (fun hHeld => ?_)
              rw [← hW5.out] at hHeld ⊢
              refine fT 0 rfl hHeld ?_
              try simp only [Act.put, List.getElem_toArray, List.getElem_cons_zero, List.setIfInBounds_toArray, List.set_cons_zero, List.set_cons_succ]
              refine fT 1 rfl hHeld ?_; try simp only [sP,sQ]
              refine fT 2 rfl hHeld ?_; try simp only [sP,sQ]
              refine fT 3 rfl hHeld ?_; try simp only [sP,sQ]
              refine fT 4 rfl hHeld ?_; try simp only [sP,sQ]
              refine fT 5 rfl hHeld ?_; try simp only [sP,sQ]
              refine fT 6 rfl hHeld ?_; try simp only [sP,sQ]
              refine fT 7 rfl hHeld ?_; try simp only [sP,sQ]
              have d1 : decide (bs.toNat < nd.toNat) = true := decide_eq_true (hq)
              refine fT 8 rfl hHeld ?_; try simp only [sP,sQ]
              refine fT 9 rfl hHeld ?_; try simp only [sP,sQ]
              refine fT 10 rfl hHeld ?_; try simp only [sP,sQ]
              refine fN 11 rfl hHeld ?_; try simp only [sP,sQ]
              refine fN 12 rfl hHeld ?_; try simp only [sP,sQ]
              refine fN 13 rfl hHeld ?_; try simp only [sP,sQ]
              refine fN 14 rfl hHeld ?_; try simp only [sP,sQ]
              refine fN 15 rfl hHeld ?_; try simp only [sP,sQ]
              refine fN 16 rfl hHeld ?_; try simp only [sP,sQ]
              refine fN 17 rfl hHeld ?_; try simp only [sP,sQ]
              refine fN 18 rfl hHeld ?_; try simp only [sP,sQ]
              refine fN 19 rfl hHeld ?_; try simp only [sP,sQ]
              refine fN 20 rfl hHeld ?_; try simp only [sP,sQ]
              refine fT 21 rfl hHeld ?_; try simp only [sP,sQ]
              refine fD ?_
              clear hHeld
              have c_B2_1 := cB hB2 1
              have c_B2_2 := cB hB2 2
              have l_B2 := hB2.out.lt
              have e_x0 := eX hst HGB (View.cellB HC.out k _ HX.out).1
              have e_x1 := eX hst HGB (View.cellB HC.out k _ HX.out).2.1
              have e_x2 := eX hst HGB (View.cellB HC.out k _ HX.out).2.2.1
              have e_x3 := eX hst HGB (View.cellB HC.out k _ HX.out).2.2.2.1
              have e_x4 := eX hst HGB (View.cellB HC.out k _ HX.out).2.2.2.2
              have l_e_x := Nat.lt_of_lt_of_le HGB.out hst.out.keeps.size
              go_wp2_with fail
              clear c_B2_1 c_B2_2 l_B2 e_x0 e_x1 e_x2 e_x3 e_x4 l_e_x
              go_roundw
              case rel => exact ⟨⟨k + 1, ob, by have := HLT.out; omega, rfl, by go_num, qH (best_no HX.out (fitB_small hq) HP.out), qH hst.out.keeps⟩, hB1⟩
              case measure => simp [intOf]; have := HLT.out; omega
            · by_cases hq2 : (bs - nd).toNat < (padU bo a).toNat
              · skip
                have c_B1_1 := cB hB1 1
                have l_B1 := hB1.out.lt
                have e_x0 := eX hst HGB (View.cellB HC.out k _ HX.out).1
                have e_x1 := eX hst HGB (View.cellB HC.out k _ HX.out).2.1
                have e_x2 := eX hst HGB (View.cellB HC.out k _ HX.out).2.2.1
                have e_x3 := eX hst HGB (View.cellB HC.out k _ HX.out).2.2.2.1
                have e_x4 := eX hst HGB (View.cellB HC.out k _ HX.out).2.2.2.2
                have l_e_x := Nat.lt_of_lt_of_le HGB.out hst.out.keeps.size
                obtain ⟨W4, hW4⟩ := nm (wr.alloc (.cells #[.int .u64 (bo.toNat : Int), .int .u64 (bs.toNat : Int), .bool false, .int .i64 bw, .int .u64 (bl.toNat : Int)] 63))
                obtain ⟨B2, eB2⟩ := nm (wr.heap.size)
                go_wp2_with fail
                clear c_B1_1 l_B1 e_x0 e_x1 e_x2 e_x3 e_x4 l_e_x
                rw [← hW4.out]
                try rw [← eB2.out]
                have k2 := kA hW4
                have e0B2 := eB2.out
                have hB2 := zB hW4 (Bx.new Nil.lt _ _ e0B2)
                have gB2 := gZ e0B2 hst
                have nB1B2 := nZ e0B2 hB1
                replace hst := sN hst k2
                replace hB1 := bN hB1 k2
                clear k2 e0B2
                obtain ⟨W5, hW5⟩ := nm (W4.drew)
                have kn := kD hW5
                replace hst := sN hst kn
                replace hB1 := bN hB1 kn
                replace hB2 := bN hB2 kn
                clear kn
                refine wp_region_held_drew (S := fun w' => w'.cell? ⟨B2, 0, none⟩ = some (.int .u64 (bo.toNat : Int)) ∧ w'.cell? ⟨B2, 1, none⟩ = some (.int .u64 (bs.toNat : Int)) ∧ w'.cell? ⟨B2, 2, none⟩ = some (.bool false) ∧ w'.cell? ⟨gb, go + k * 5, none⟩ = some (.int .u64 (bo.toNat : Int)) ∧ w'.cell? ⟨gb, go + k * 5 + 1, none⟩ = some (.int .u64 (bs.toNat : Int)) ∧ w'.cell? ⟨gb, go + k * 5 + 2, none⟩ = some (.bool false) ∧ w'.cell? ⟨gb, go + k * 5 + 3, none⟩ = some (.int .i64 bw) ∧ w'.cell? ⟨gb, go + k * 5 + 4, none⟩ = some (.int .u64 (bl.toNat : Int))) (by kernel_rfl) (by rw [← hW5.out]; exact ⟨cB hB2 0, cB hB2 1, cB hB2 2, eX hst HGB (View.cellB HC.out k _ HX.out).1, (hst.out.keeps.cell HGB.out (fun e => e) _).trans (View.cellB HC.out k _ HX.out).2.1, (hst.out.keeps.cell HGB.out (fun e => e) _).trans (View.cellB HC.out k _ HX.out).2.2.1, (hst.out.keeps.cell HGB.out (fun e => e) _).trans (View.cellB HC.out k _ HX.out).2.2.2.1, (hst.out.keeps.cell HGB.out (fun e => e) _).trans (View.cellB HC.out k _ HX.out).2.2.2.2⟩) (fun hHeld => ?_)
                rw [← hW5.out] at hHeld ⊢
                refine fT 0 rfl hHeld ?_
                try simp only [Act.put, List.getElem_toArray, List.getElem_cons_zero, List.setIfInBounds_toArray, List.set_cons_zero, List.set_cons_succ]
                refine fT 1 rfl hHeld ?_; try simp only [sP,sQ]
                refine fT 2 rfl hHeld ?_; try simp only [sP,sQ]
                refine fT 3 rfl hHeld ?_; try simp only [sP,sQ]
                refine fT 4 rfl hHeld ?_; try simp only [sP,sQ]
                refine fT 5 rfl hHeld ?_; try simp only [sP,sQ]
                refine fT 6 rfl hHeld ?_; try simp only [sP,sQ]
                refine fT 7 rfl hHeld ?_; try simp only [sP,sQ]
                have d1 : decide (bs.toNat < nd.toNat) = false := decide_eq_false (hq)
                refine fT 8 rfl hHeld ?_; try simp only [sP,sQ]
                refine fT 9 rfl hHeld ?_; try simp only [sP,sQ]
                refine fT 10 rfl hHeld ?_; try simp only [sP,sQ]
                refine fT 11 rfl hHeld ?_; try simp only [sP,sQ]
                refine fT 12 rfl hHeld ?_; try simp only [sP,sQ]
                refine fT 13 rfl hHeld ?_; try simp only [sP,sQ]
                refine fT 15 rfl hHeld ?_; try simp only [sP,sQ]
                refine fT 16 rfl hHeld ?_; try simp only [sP,sQ]
                refine fT 17 rfl hHeld ?_; try simp only [sP,sQ]
                refine fT 18 rfl hHeld ?_; try simp only [sP,sQ]
                obtain ⟨y1, zy1⟩ : ∃ y : UInt64, y = bs - nd := ⟨_, rfl⟩
                have q1 : IntKind.u64.wrap ((bs.toNat : Int) - (nd.toNat : Int)) = (y1.toNat : Int) := by rw [zy1]; exact u64_sub bs nd
                replace zy1 := qH zy1
                refine fT 19 rfl hHeld ?_; try simp only [sP,sQ]
                refine wpAnyH_ready (rs := [14]) (by kernel_rfl) (by simp) ?_
                refine (AllReadyH.cons (o := _) rfl (fun K hK => ?_) AllReadyH.nil)
                go_simp
                refine (rpad_any _ bo a HAL.out HO.out.1 HO.out.2).mono ?_
                rintro _ _ ⟨rfl, rfl⟩
                obtain ⟨v1, zv1⟩ : ∃ v : UInt64, v = padU bo a := ⟨_, rfl⟩
                rw [← zv1]
                replace zv1 := qH zv1
                refine hK.out _ _ (⟨cB hB2 0, cB hB2 1, cB hB2 2, eX hst HGB (View.cellB HC.out k _ HX.out).1, (hst.out.keeps.cell HGB.out (fun e => e) _).trans (View.cellB HC.out k _ HX.out).2.1, (hst.out.keeps.cell HGB.out (fun e => e) _).trans (View.cellB HC.out k _ HX.out).2.2.1, (hst.out.keeps.cell HGB.out (fun e => e) _).trans (View.cellB HC.out k _ HX.out).2.2.2.1, (hst.out.keeps.cell HGB.out (fun e => e) _).trans (View.cellB HC.out k _ HX.out).2.2.2.2⟩) (fun hHeld => ?_)
                clear hK K
                try simp only [sP,sQ]
                have d2 : decide (y1.toNat < v1.toNat) = true := decide_eq_true (by rw [zy1.out, zv1.out]; exact hq2)
                refine fT 20 rfl hHeld ?_; try simp only [sP,sQ]
                refine fT 21 rfl hHeld ?_; try simp only [sP,sQ]
                refine fD ?_
                clear hHeld
                have c_B2_0 := cB hB2 0
                have c_B2_1 := cB hB2 1
                have c_B2_2 := cB hB2 2
                have l_B2 := hB2.out.lt
                have e_x0 := eX hst HGB (View.cellB HC.out k _ HX.out).1
                have e_x1 := eX hst HGB (View.cellB HC.out k _ HX.out).2.1
                have e_x2 := eX hst HGB (View.cellB HC.out k _ HX.out).2.2.1
                have e_x3 := eX hst HGB (View.cellB HC.out k _ HX.out).2.2.2.1
                have e_x4 := eX hst HGB (View.cellB HC.out k _ HX.out).2.2.2.2
                have l_e_x := Nat.lt_of_lt_of_le HGB.out hst.out.keeps.size
                go_wp2_with fail
                clear c_B2_0 c_B2_1 c_B2_2 l_B2 e_x0 e_x1 e_x2 e_x3 e_x4 l_e_x
                go_roundw
                case rel => exact ⟨⟨k + 1, ob, by have := HLT.out; omega, rfl, by go_num, qH (best_no HX.out (fitB_pad hq hq2) HP.out), qH hst.out.keeps⟩, hB1⟩
                case measure => simp [intOf]; have := HLT.out; omega
              · have HF := qH (fitB_yes (need := nd) (a := a) (b := ⟨bo, ⟨bs, false, bw⟩, bl⟩) rfl hq hq2)
                cases ob with
                | none =>
                  rw [show bestI none = -1 from rfl]
                  have c_B1_1 := cB hB1 1
                  have l_B1 := hB1.out.lt
                  have e_x0 := eX hst HGB (View.cellB HC.out k _ HX.out).1
                  have e_x1 := eX hst HGB (View.cellB HC.out k _ HX.out).2.1
                  have e_x2 := eX hst HGB (View.cellB HC.out k _ HX.out).2.2.1
                  have e_x3 := eX hst HGB (View.cellB HC.out k _ HX.out).2.2.2.1
                  have e_x4 := eX hst HGB (View.cellB HC.out k _ HX.out).2.2.2.2
                  have l_e_x := Nat.lt_of_lt_of_le HGB.out hst.out.keeps.size
                  obtain ⟨W4, hW4⟩ := nm (wr.alloc (.cells #[.int .u64 (bo.toNat : Int), .int .u64 (bs.toNat : Int), .bool false, .int .i64 bw, .int .u64 (bl.toNat : Int)] 63))
                  obtain ⟨B2, eB2⟩ := nm (wr.heap.size)
                  go_wp2_with fail
                  clear c_B1_1 l_B1 e_x0 e_x1 e_x2 e_x3 e_x4 l_e_x
                  rw [← hW4.out]
                  try rw [← eB2.out]
                  have k2 := kA hW4
                  have e0B2 := eB2.out
                  have hB2 := zB hW4 (Bx.new Nil.lt _ _ e0B2)
                  have gB2 := gZ e0B2 hst
                  have nB1B2 := nZ e0B2 hB1
                  replace hst := sN hst k2
                  replace hB1 := bN hB1 k2
                  clear k2 e0B2
                  obtain ⟨W5, hW5⟩ := nm (W4.drew)
                  have kn := kD hW5
                  replace hst := sN hst kn
                  replace hB1 := bN hB1 kn
                  replace hB2 := bN hB2 kn
                  clear kn
                  refine wp_region_held_drew (S := fun w' => w'.cell? ⟨B2, 0, none⟩ = some (.int .u64 (bo.toNat : Int)) ∧ w'.cell? ⟨B2, 1, none⟩ = some (.int .u64 (bs.toNat : Int)) ∧ w'.cell? ⟨B2, 2, none⟩ = some (.bool false) ∧ w'.cell? ⟨gb, go + k * 5, none⟩ = some (.int .u64 (bo.toNat : Int)) ∧ w'.cell? ⟨gb, go + k * 5 + 1, none⟩ = some (.int .u64 (bs.toNat : Int)) ∧ w'.cell? ⟨gb, go + k * 5 + 2, none⟩ = some (.bool false) ∧ w'.cell? ⟨gb, go + k * 5 + 3, none⟩ = some (.int .i64 bw) ∧ w'.cell? ⟨gb, go + k * 5 + 4, none⟩ = some (.int .u64 (bl.toNat : Int))) (by kernel_rfl) (by rw [← hW5.out]; exact ⟨cB hB2 0, cB hB2 1, cB hB2 2, eX hst HGB (View.cellB HC.out k _ HX.out).1, (hst.out.keeps.cell HGB.out (fun e => e) _).trans (View.cellB HC.out k _ HX.out).2.1, (hst.out.keeps.cell HGB.out (fun e => e) _).trans (View.cellB HC.out k _ HX.out).2.2.1, (hst.out.keeps.cell HGB.out (fun e => e) _).trans (View.cellB HC.out k _ HX.out).2.2.2.1, (hst.out.keeps.cell HGB.out (fun e => e) _).trans (View.cellB HC.out k _ HX.out).2.2.2.2⟩) (fun hHeld => ?_)
                  rw [← hW5.out] at hHeld ⊢
                  refine fT 0 rfl hHeld ?_
                  try simp only [Act.put, List.getElem_toArray, List.getElem_cons_zero, List.setIfInBounds_toArray, List.set_cons_zero, List.set_cons_succ]
                  refine fT 1 rfl hHeld ?_; try simp only [sP,sQ]
                  refine fT 2 rfl hHeld ?_; try simp only [sP,sQ]
                  refine fT 3 rfl hHeld ?_; try simp only [sP,sQ]
                  refine fT 4 rfl hHeld ?_; try simp only [sP,sQ]
                  refine fT 5 rfl hHeld ?_; try simp only [sP,sQ]
                  refine fT 6 rfl hHeld ?_; try simp only [sP,sQ]
                  refine fT 7 rfl hHeld ?_; try simp only [sP,sQ]
                  have d1 : decide (bs.toNat < nd.toNat) = false := decide_eq_false (hq)
                  refine fT 8 rfl hHeld ?_; try simp only [sP,sQ]
                  refine fT 9 rfl hHeld ?_; try simp only [sP,sQ]
                  refine fT 10 rfl hHeld ?_; try simp only [sP,sQ]
                  refine fT 11 rfl hHeld ?_; try simp only [sP,sQ]
                  refine fT 12 rfl hHeld ?_; try simp only [sP,sQ]
                  refine fT 13 rfl hHeld ?_; try simp only [sP,sQ]
                  refine fT 15 rfl hHeld ?_; try simp only [sP,sQ]
                  refine fT 16 rfl hHeld ?_; try simp only [sP,sQ]
                  refine fT 17 rfl hHeld ?_; try simp only [sP,sQ]
                  refine fT 18 rfl hHeld ?_; try simp only [sP,sQ]
                  obtain ⟨y1, zy1⟩ : ∃ y : UInt64, y = bs - nd := ⟨_, rfl⟩
                  have q1 : IntKind.u64.wrap ((bs.toNat : Int) - (nd.toNat : Int)) = (y1.toNat : Int) := by rw [zy1]; exact u64_sub bs nd
                  replace zy1 := qH zy1
                  refine fT 19 rfl hHeld ?_; try simp only [sP,sQ]
                  refine wpAnyH_ready (rs := [14]) (by kernel_rfl) (by simp) ?_
                  refine (AllReadyH.cons (o := _) rfl (fun K hK => ?_) AllReadyH.nil)
                  go_simp
                  refine (rpad_any _ bo a HAL.out HO.out.1 HO.out.2).mono ?_
                  rintro _ _ ⟨rfl, rfl⟩
                  obtain ⟨v1, zv1⟩ : ∃ v : UInt64, v = padU bo a := ⟨_, rfl⟩
                  rw [← zv1]
                  replace zv1 := qH zv1
                  refine hK.out _ _ (⟨cB hB2 0, cB hB2 1, cB hB2 2, eX hst HGB (View.cellB HC.out k _ HX.out).1, (hst.out.keeps.cell HGB.out (fun e => e) _).trans (View.cellB HC.out k _ HX.out).2.1, (hst.out.keeps.cell HGB.out (fun e => e) _).trans (View.cellB HC.out k _ HX.out).2.2.1, (hst.out.keeps.cell HGB.out (fun e => e) _).trans (View.cellB HC.out k _ HX.out).2.2.2.1, (hst.out.keeps.cell HGB.out (fun e => e) _).trans (View.cellB HC.out k _ HX.out).2.2.2.2⟩) (fun hHeld => ?_)
                  clear hK K
                  try simp only [sP,sQ]
                  have d2 : decide (y1.toNat < v1.toNat) = false := decide_eq_false (by rw [zy1.out, zv1.out]; exact hq2)
                  refine fT 20 rfl hHeld ?_; try simp only [sP,sQ]
                  refine fT 21 rfl hHeld ?_; try simp only [sP,sQ]
                  refine fD ?_
                  clear hHeld
                  have c_B2_0 := cB hB2 0
                  have c_B2_1 := cB hB2 1
                  have c_B2_2 := cB hB2 2
                  have l_B2 := hB2.out.lt
                  have e_x0 := eX hst HGB (View.cellB HC.out k _ HX.out).1
                  have e_x1 := eX hst HGB (View.cellB HC.out k _ HX.out).2.1
                  have e_x2 := eX hst HGB (View.cellB HC.out k _ HX.out).2.2.1
                  have e_x3 := eX hst HGB (View.cellB HC.out k _ HX.out).2.2.2.1
                  have e_x4 := eX hst HGB (View.cellB HC.out k _ HX.out).2.2.2.2
                  have l_e_x := Nat.lt_of_lt_of_le HGB.out hst.out.keeps.size
                  go_wp2_with fail
                  clear c_B2_0 c_B2_1 c_B2_2 l_B2 e_x0 e_x1 e_x2 e_x3 e_x4 l_e_x
                  obtain ⟨W7, hW7⟩ := nm (W5.drew)
                  have kn := kD hW7
                  replace hst := sN hst kn
                  replace hB1 := bN hB1 kn
                  replace hB2 := bN hB2 kn
                  clear kn
                  refine wp_region_held_drew (S := fun w' => w'.cell? ⟨gb, go + k * 5, none⟩ = some (.int .u64 (bo.toNat : Int)) ∧ w'.cell? ⟨gb, go + k * 5 + 1, none⟩ = some (.int .u64 (bs.toNat : Int)) ∧ w'.cell? ⟨gb, go + k * 5 + 2, none⟩ = some (.bool false) ∧ w'.cell? ⟨gb, go + k * 5 + 3, none⟩ = some (.int .i64 bw) ∧ w'.cell? ⟨gb, go + k * 5 + 4, none⟩ = some (.int .u64 (bl.toNat : Int))) (by kernel_rfl) (by rw [← hW7.out]; exact ⟨eX hst HGB (View.cellB HC.out k _ HX.out).1, (hst.out.keeps.cell HGB.out (fun e => e) _).trans (View.cellB HC.out k _ HX.out).2.1, (hst.out.keeps.cell HGB.out (fun e => e) _).trans (View.cellB HC.out k _ HX.out).2.2.1, (hst.out.keeps.cell HGB.out (fun e => e) _).trans (View.cellB HC.out k _ HX.out).2.2.2.1, (hst.out.keeps.cell HGB.out (fun e => e) _).trans (View.cellB HC.out k _ HX.out).2.2.2.2⟩) (fun hHeld => ?_)
                  rw [← hW7.out] at hHeld ⊢
                  refine fT 0 rfl hHeld ?_
                  try simp only [Act.put, List.getElem_toArray, List.getElem_cons_zero, List.setIfInBounds_toArray, List.set_cons_zero, List.set_cons_succ]
                  refine fT 1 rfl hHeld ?_; try simp only [sP,sQ]
                  refine fT 2 rfl hHeld ?_; try simp only [sP,sQ]
                  refine fN 3 rfl hHeld ?_; try simp only [sP,sQ]
                  refine fN 4 rfl hHeld ?_; try simp only [sP,sQ]
                  refine fN 5 rfl hHeld ?_; try simp only [sP,sQ]
                  refine fN 6 rfl hHeld ?_; try simp only [sP,sQ]
                  refine fN 7 rfl hHeld ?_; try simp only [sP,sQ]
                  refine fN 8 rfl hHeld ?_; try simp only [sP,sQ]
                  refine fN 9 rfl hHeld ?_; try simp only [sP,sQ]
                  refine fN 10 rfl hHeld ?_; try simp only [sP,sQ]
                  refine fN 11 rfl hHeld ?_; try simp only [sP,sQ]
                  refine fN 12 rfl hHeld ?_; try simp only [sP,sQ]
                  refine fN 13 rfl hHeld ?_; try simp only [sP,sQ]
                  refine fT 14 rfl hHeld ?_; try simp only [sP,sQ]
                  refine fD ?_
                  clear hHeld
                  have e_x0 := eX hst HGB (View.cellB HC.out k _ HX.out).1
                  have e_x1 := eX hst HGB (View.cellB HC.out k _ HX.out).2.1
                  have e_x2 := eX hst HGB (View.cellB HC.out k _ HX.out).2.2.1
                  have e_x3 := eX hst HGB (View.cellB HC.out k _ HX.out).2.2.2.1
                  have e_x4 := eX hst HGB (View.cellB HC.out k _ HX.out).2.2.2.2
                  have l_e_x := Nat.lt_of_lt_of_le HGB.out hst.out.keeps.size
                  go_wp2_with fail
                  clear e_x0 e_x1 e_x2 e_x3 e_x4 l_e_x
                  go_roundw
                  case rel => exact ⟨⟨k + 1, some k, by have := HLT.out; omega, rfl, by go_num, qH (best_first HX.out HF.out HP.out), qH hst.out.keeps⟩, hB1⟩
                  case measure => simp [intOf]; have := HLT.out; omega
                | some j =>
                  obtain ⟨hjk, ⟨vo, ⟨vs, vu, vw⟩, vl⟩, hy, hcf, _⟩ := (show _ ∧ ∃ _, _ from by have h := bestF_spec (fitB nd a) H k (by rw [← HN.out]; omega); rw [HP.out] at h; exact h)
                  have HY := qH hy
                  have HJK := qH (show j < M by omega)
                  have HJ64 := qH (show j ≤ 4294967290 by omega)
                  clear hy hjk
                  have dj : decide ((j : Int) < 0) = false := decide_eq_false (by omega)
                  have hjM := HJK.out
                  rw [show bestI (some j) = (j : Int) from rfl]
                  by_cases hq3 : bs.toNat < vs.toNat
                  · skip
                    have c_B1_1 := cB hB1 1
                    have l_B1 := hB1.out.lt
                    have e_x0 := eX hst HGB (View.cellB HC.out k _ HX.out).1
                    have e_x1 := eX hst HGB (View.cellB HC.out k _ HX.out).2.1
                    have e_x2 := eX hst HGB (View.cellB HC.out k _ HX.out).2.2.1
                    have e_x3 := eX hst HGB (View.cellB HC.out k _ HX.out).2.2.2.1
                    have e_x4 := eX hst HGB (View.cellB HC.out k _ HX.out).2.2.2.2
                    have l_e_x := Nat.lt_of_lt_of_le HGB.out hst.out.keeps.size
                    have e_y0 := eX hst HGB (View.cellB HC.out j _ HY.out).1
                    have e_y1 := eX hst HGB (View.cellB HC.out j _ HY.out).2.1
                    have e_y2 := eX hst HGB (View.cellB HC.out j _ HY.out).2.2.1
                    have e_y3 := eX hst HGB (View.cellB HC.out j _ HY.out).2.2.2.1
                    have e_y4 := eX hst HGB (View.cellB HC.out j _ HY.out).2.2.2.2
                    have l_e_y := Nat.lt_of_lt_of_le HGB.out hst.out.keeps.size
                    obtain ⟨W4, hW4⟩ := nm (wr.alloc (.cells #[.int .u64 (bo.toNat : Int), .int .u64 (bs.toNat : Int), .bool false, .int .i64 bw, .int .u64 (bl.toNat : Int)] 63))
                    obtain ⟨B2, eB2⟩ := nm (wr.heap.size)
                    go_wp2_with fail
                    clear c_B1_1 l_B1 e_x0 e_x1 e_x2 e_x3 e_x4 l_e_x e_y0 e_y1 e_y2 e_y3 e_y4 l_e_y
                    rw [← hW4.out]
                    try rw [← eB2.out]
                    have k2 := kA hW4
                    have e0B2 := eB2.out
                    have hB2 := zB hW4 (Bx.new Nil.lt _ _ e0B2)
                    have gB2 := gZ e0B2 hst
                    have nB1B2 := nZ e0B2 hB1
                    replace hst := sN hst k2
                    replace hB1 := bN hB1 k2
                    clear k2 e0B2
                    obtain ⟨W5, hW5⟩ := nm (W4.drew)
                    have kn := kD hW5
                    replace hst := sN hst kn
                    replace hB1 := bN hB1 kn
                    replace hB2 := bN hB2 kn
                    clear kn
                    refine wp_region_held_drew (S := fun w' => w'.cell? ⟨B2, 0, none⟩ = some (.int .u64 (bo.toNat : Int)) ∧ w'.cell? ⟨B2, 1, none⟩ = some (.int .u64 (bs.toNat : Int)) ∧ w'.cell? ⟨B2, 2, none⟩ = some (.bool false) ∧ w'.cell? ⟨gb, go + k * 5, none⟩ = some (.int .u64 (bo.toNat : Int)) ∧ w'.cell? ⟨gb, go + k * 5 + 1, none⟩ = some (.int .u64 (bs.toNat : Int)) ∧ w'.cell? ⟨gb, go + k * 5 + 2, none⟩ = some (.bool false) ∧ w'.cell? ⟨gb, go + k * 5 + 3, none⟩ = some (.int .i64 bw) ∧ w'.cell? ⟨gb, go + k * 5 + 4, none⟩ = some (.int .u64 (bl.toNat : Int)) ∧ w'.cell? ⟨gb, go + j * 5, none⟩ = some (.int .u64 (vo.toNat : Int)) ∧ w'.cell? ⟨gb, go + j * 5 + 1, none⟩ = some (.int .u64 (vs.toNat : Int)) ∧ w'.cell? ⟨gb, go + j * 5 + 2, none⟩ = some (.bool vu) ∧ w'.cell? ⟨gb, go + j * 5 + 3, none⟩ = some (.int .i64 vw) ∧ w'.cell? ⟨gb, go + j * 5 + 4, none⟩ = some (.int .u64 (vl.toNat : Int))) (by kernel_rfl) (by rw [← hW5.out]; exact ⟨cB hB2 0, cB hB2 1, cB hB2 2, eX hst HGB (View.cellB HC.out k _ HX.out).1, (hst.out.keeps.cell HGB.out (fun e => e) _).trans (View.cellB HC.out k _ HX.out).2.1, (hst.out.keeps.cell HGB.out (fun e => e) _).trans (View.cellB HC.out k _ HX.out).2.2.1, (hst.out.keeps.cell HGB.out (fun e => e) _).trans (View.cellB HC.out k _ HX.out).2.2.2.1, (hst.out.keeps.cell HGB.out (fun e => e) _).trans (View.cellB HC.out k _ HX.out).2.2.2.2, (hst.out.keeps.cell HGB.out (fun e => e) _).trans (View.cellB HC.out j _ HY.out).1, (hst.out.keeps.cell HGB.out (fun e => e) _).trans (View.cellB HC.out j _ HY.out).2.1, (hst.out.keeps.cell HGB.out (fun e => e) _).trans (View.cellB HC.out j _ HY.out).2.2.1, (hst.out.keeps.cell HGB.out (fun e => e) _).trans (View.cellB HC.out j _ HY.out).2.2.2.1, (hst.out.keeps.cell HGB.out (fun e => e) _).trans (View.cellB HC.out j _ HY.out).2.2.2.2⟩) (fun hHeld => ?_)
                    rw [← hW5.out] at hHeld ⊢
                    refine fT 0 rfl hHeld ?_
                    try simp only [Act.put, List.getElem_toArray, List.getElem_cons_zero, List.setIfInBounds_toArray, List.set_cons_zero, List.set_cons_succ]
                    refine fT 1 rfl hHeld ?_; try simp only [sP,sQ]
                    refine fT 2 rfl hHeld ?_; try simp only [sP,sQ]
                    refine fT 3 rfl hHeld ?_; try simp only [sP,sQ]
                    refine fT 4 rfl hHeld ?_; try simp only [sP,sQ]
                    refine fT 5 rfl hHeld ?_; try simp only [sP,sQ]
                    refine fT 6 rfl hHeld ?_; try simp only [sP,sQ]
                    refine fT 7 rfl hHeld ?_; try simp only [sP,sQ]
                    have d1 : decide (bs.toNat < nd.toNat) = false := decide_eq_false (hq)
                    refine fT 8 rfl hHeld ?_; try simp only [sP,sQ]
                    refine fT 9 rfl hHeld ?_; try simp only [sP,sQ]
                    refine fT 10 rfl hHeld ?_; try simp only [sP,sQ]
                    refine fT 11 rfl hHeld ?_; try simp only [sP,sQ]
                    refine fT 12 rfl hHeld ?_; try simp only [sP,sQ]
                    refine fT 13 rfl hHeld ?_; try simp only [sP,sQ]
                    refine fT 15 rfl hHeld ?_; try simp only [sP,sQ]
                    refine fT 16 rfl hHeld ?_; try simp only [sP,sQ]
                    refine fT 17 rfl hHeld ?_; try simp only [sP,sQ]
                    refine fT 18 rfl hHeld ?_; try simp only [sP,sQ]
                    obtain ⟨y1, zy1⟩ : ∃ y : UInt64, y = bs - nd := ⟨_, rfl⟩
                    have q1 : IntKind.u64.wrap ((bs.toNat : Int) - (nd.toNat : Int)) = (y1.toNat : Int) := by rw [zy1]; exact u64_sub bs nd
                    replace zy1 := qH zy1
                    refine fT 19 rfl hHeld ?_; try simp only [sP,sQ]
                    refine wpAnyH_ready (rs := [14]) (by kernel_rfl) (by simp) ?_
                    refine (AllReadyH.cons (o := _) rfl (fun K hK => ?_) AllReadyH.nil)
                    go_simp
                    refine (rpad_any _ bo a HAL.out HO.out.1 HO.out.2).mono ?_
                    rintro _ _ ⟨rfl, rfl⟩
                    obtain ⟨v1, zv1⟩ : ∃ v : UInt64, v = padU bo a := ⟨_, rfl⟩
                    rw [← zv1]
                    replace zv1 := qH zv1
                    refine hK.out _ _ (⟨cB hB2 0, cB hB2 1, cB hB2 2, eX hst HGB (View.cellB HC.out k _ HX.out).1, (hst.out.keeps.cell HGB.out (fun e => e) _).trans (View.cellB HC.out k _ HX.out).2.1, (hst.out.keeps.cell HGB.out (fun e => e) _).trans (View.cellB HC.out k _ HX.out).2.2.1, (hst.out.keeps.cell HGB.out (fun e => e) _).trans (View.cellB HC.out k _ HX.out).2.2.2.1, (hst.out.keeps.cell HGB.out (fun e => e) _).trans (View.cellB HC.out k _ HX.out).2.2.2.2, (hst.out.keeps.cell HGB.out (fun e => e) _).trans (View.cellB HC.out j _ HY.out).1, (hst.out.keeps.cell HGB.out (fun e => e) _).trans (View.cellB HC.out j _ HY.out).2.1, (hst.out.keeps.cell HGB.out (fun e => e) _).trans (View.cellB HC.out j _ HY.out).2.2.1, (hst.out.keeps.cell HGB.out (fun e => e) _).trans (View.cellB HC.out j _ HY.out).2.2.2.1, (hst.out.keeps.cell HGB.out (fun e => e) _).trans (View.cellB HC.out j _ HY.out).2.2.2.2⟩) (fun hHeld => ?_)
                    clear hK K
                    try simp only [sP,sQ]
                    have d2 : decide (y1.toNat < v1.toNat) = false := decide_eq_false (by rw [zy1.out, zv1.out]; exact hq2)
                    refine fT 20 rfl hHeld ?_; try simp only [sP,sQ]
                    refine fT 21 rfl hHeld ?_; try simp only [sP,sQ]
                    refine fD ?_
                    clear hHeld
                    have c_B2_0 := cB hB2 0
                    have c_B2_1 := cB hB2 1
                    have c_B2_2 := cB hB2 2
                    have l_B2 := hB2.out.lt
                    have e_x0 := eX hst HGB (View.cellB HC.out k _ HX.out).1
                    have e_x1 := eX hst HGB (View.cellB HC.out k _ HX.out).2.1
                    have e_x2 := eX hst HGB (View.cellB HC.out k _ HX.out).2.2.1
                    have e_x3 := eX hst HGB (View.cellB HC.out k _ HX.out).2.2.2.1
                    have e_x4 := eX hst HGB (View.cellB HC.out k _ HX.out).2.2.2.2
                    have l_e_x := Nat.lt_of_lt_of_le HGB.out hst.out.keeps.size
                    have e_y0 := eX hst HGB (View.cellB HC.out j _ HY.out).1
                    have e_y1 := eX hst HGB (View.cellB HC.out j _ HY.out).2.1
                    have e_y2 := eX hst HGB (View.cellB HC.out j _ HY.out).2.2.1
                    have e_y3 := eX hst HGB (View.cellB HC.out j _ HY.out).2.2.2.1
                    have e_y4 := eX hst HGB (View.cellB HC.out j _ HY.out).2.2.2.2
                    have l_e_y := Nat.lt_of_lt_of_le HGB.out hst.out.keeps.size
                    go_wp2_with fail
                    clear c_B2_0 c_B2_1 c_B2_2 l_B2 e_x0 e_x1 e_x2 e_x3 e_x4 l_e_x e_y0 e_y1 e_y2 e_y3 e_y4 l_e_y
                    obtain ⟨W7, hW7⟩ := nm (W5.drew)
                    have kn := kD hW7
                    replace hst := sN hst kn
                    replace hB1 := bN hB1 kn
                    replace hB2 := bN hB2 kn
                    clear kn
                    refine wp_region_held_drew (S := fun w' => w'.cell? ⟨B1, 1, none⟩ = some (.slice (some ⟨gb, go, none⟩) M cl) ∧ w'.cell? ⟨B2, 1, none⟩ = some (.int .u64 (bs.toNat : Int)) ∧ w'.cell? ⟨gb, go + k * 5, none⟩ = some (.int .u64 (bo.toNat : Int)) ∧ w'.cell? ⟨gb, go + k * 5 + 1, none⟩ = some (.int .u64 (bs.toNat : Int)) ∧ w'.cell? ⟨gb, go + k * 5 + 2, none⟩ = some (.bool false) ∧ w'.cell? ⟨gb, go + k * 5 + 3, none⟩ = some (.int .i64 bw) ∧ w'.cell? ⟨gb, go + k * 5 + 4, none⟩ = some (.int .u64 (bl.toNat : Int)) ∧ w'.cell? ⟨gb, go + j * 5, none⟩ = some (.int .u64 (vo.toNat : Int)) ∧ w'.cell? ⟨gb, go + j * 5 + 1, none⟩ = some (.int .u64 (vs.toNat : Int)) ∧ w'.cell? ⟨gb, go + j * 5 + 2, none⟩ = some (.bool vu) ∧ w'.cell? ⟨gb, go + j * 5 + 3, none⟩ = some (.int .i64 vw) ∧ w'.cell? ⟨gb, go + j * 5 + 4, none⟩ = some (.int .u64 (vl.toNat : Int))) (by kernel_rfl) (by rw [← hW7.out]; exact ⟨cB hB1 1, cB hB2 1, eX hst HGB (View.cellB HC.out k _ HX.out).1, (hst.out.keeps.cell HGB.out (fun e => e) _).trans (View.cellB HC.out k _ HX.out).2.1, (hst.out.keeps.cell HGB.out (fun e => e) _).trans (View.cellB HC.out k _ HX.out).2.2.1, (hst.out.keeps.cell HGB.out (fun e => e) _).trans (View.cellB HC.out k _ HX.out).2.2.2.1, (hst.out.keeps.cell HGB.out (fun e => e) _).trans (View.cellB HC.out k _ HX.out).2.2.2.2, (hst.out.keeps.cell HGB.out (fun e => e) _).trans (View.cellB HC.out j _ HY.out).1, (hst.out.keeps.cell HGB.out (fun e => e) _).trans (View.cellB HC.out j _ HY.out).2.1, (hst.out.keeps.cell HGB.out (fun e => e) _).trans (View.cellB HC.out j _ HY.out).2.2.1, (hst.out.keeps.cell HGB.out (fun e => e) _).trans (View.cellB HC.out j _ HY.out).2.2.2.1, (hst.out.keeps.cell HGB.out (fun e => e) _).trans (View.cellB HC.out j _ HY.out).2.2.2.2⟩) (fun hHeld => ?_)
                    rw [← hW7.out] at hHeld ⊢
                    refine fT 0 rfl hHeld ?_
                    try simp only [Act.put, List.getElem_toArray, List.getElem_cons_zero, List.setIfInBounds_toArray, List.set_cons_zero, List.set_cons_succ]
                    refine fT 1 rfl hHeld ?_; try simp only [sP,sQ]
                    refine fT 2 rfl hHeld ?_; try simp only [sP,sQ]
                    refine fT 3 rfl hHeld ?_; try simp only [sP,sQ]
                    refine fT 4 rfl hHeld ?_; try simp only [sP,sQ]
                    refine fT 5 rfl hHeld ?_; try simp only [sP,sQ]
                    refine fT 6 rfl hHeld ?_; try simp only [sP,sQ]
                    refine fT 7 rfl hHeld ?_; try simp only [sP,sQ]
                    refine fT 8 rfl hHeld ?_; try simp only [sP,sQ]
                    refine fT 9 rfl hHeld ?_; try simp only [sP,sQ]
                    refine fT 10 rfl hHeld ?_; try simp only [sP,sQ]
                    refine fT 11 rfl hHeld ?_; try simp only [sP,sQ]
                    refine fT 12 rfl hHeld ?_; try simp only [sP,sQ]
                    have d3 : decide (bs.toNat < vs.toNat) = true := decide_eq_true (hq3)
                    refine fT 13 rfl hHeld ?_; try simp only [sP,sQ]
                    refine fT 14 rfl hHeld ?_; try simp only [sP,sQ]
                    refine fD ?_
                    clear hHeld
                    have c_B1_1 := cB hB1 1
                    have l_B1 := hB1.out.lt
                    have c_B2_1 := cB hB2 1
                    have l_B2 := hB2.out.lt
                    have e_x0 := eX hst HGB (View.cellB HC.out k _ HX.out).1
                    have e_x1 := eX hst HGB (View.cellB HC.out k _ HX.out).2.1
                    have e_x2 := eX hst HGB (View.cellB HC.out k _ HX.out).2.2.1
                    have e_x3 := eX hst HGB (View.cellB HC.out k _ HX.out).2.2.2.1
                    have e_x4 := eX hst HGB (View.cellB HC.out k _ HX.out).2.2.2.2
                    have l_e_x := Nat.lt_of_lt_of_le HGB.out hst.out.keeps.size
                    have e_y0 := eX hst HGB (View.cellB HC.out j _ HY.out).1
                    have e_y1 := eX hst HGB (View.cellB HC.out j _ HY.out).2.1
                    have e_y2 := eX hst HGB (View.cellB HC.out j _ HY.out).2.2.1
                    have e_y3 := eX hst HGB (View.cellB HC.out j _ HY.out).2.2.2.1
                    have e_y4 := eX hst HGB (View.cellB HC.out j _ HY.out).2.2.2.2
                    have l_e_y := Nat.lt_of_lt_of_le HGB.out hst.out.keeps.size
                    go_wp2_with fail
                    clear c_B1_1 l_B1 c_B2_1 l_B2 e_x0 e_x1 e_x2 e_x3 e_x4 l_e_x e_y0 e_y1 e_y2 e_y3 e_y4 l_e_y
                    go_roundw
                    case rel => exact ⟨⟨k + 1, some k, by have := HLT.out; omega, rfl, by go_num, qH (best_less HX.out HF.out HP.out HY.out hq3), qH hst.out.keeps⟩, hB1⟩
                    case measure => simp [intOf]; have := HLT.out; omega
                  · skip
                    have c_B1_1 := cB hB1 1
                    have l_B1 := hB1.out.lt
                    have e_x0 := eX hst HGB (View.cellB HC.out k _ HX.out).1
                    have e_x1 := eX hst HGB (View.cellB HC.out k _ HX.out).2.1
                    have e_x2 := eX hst HGB (View.cellB HC.out k _ HX.out).2.2.1
                    have e_x3 := eX hst HGB (View.cellB HC.out k _ HX.out).2.2.2.1
                    have e_x4 := eX hst HGB (View.cellB HC.out k _ HX.out).2.2.2.2
                    have l_e_x := Nat.lt_of_lt_of_le HGB.out hst.out.keeps.size
                    have e_y0 := eX hst HGB (View.cellB HC.out j _ HY.out).1
                    have e_y1 := eX hst HGB (View.cellB HC.out j _ HY.out).2.1
                    have e_y2 := eX hst HGB (View.cellB HC.out j _ HY.out).2.2.1
                    have e_y3 := eX hst HGB (View.cellB HC.out j _ HY.out).2.2.2.1
                    have e_y4 := eX hst HGB (View.cellB HC.out j _ HY.out).2.2.2.2
                    have l_e_y := Nat.lt_of_lt_of_le HGB.out hst.out.keeps.size
                    obtain ⟨W4, hW4⟩ := nm (wr.alloc (.cells #[.int .u64 (bo.toNat : Int), .int .u64 (bs.toNat : Int), .bool false, .int .i64 bw, .int .u64 (bl.toNat : Int)] 63))
                    obtain ⟨B2, eB2⟩ := nm (wr.heap.size)
                    go_wp2_with fail
                    clear c_B1_1 l_B1 e_x0 e_x1 e_x2 e_x3 e_x4 l_e_x e_y0 e_y1 e_y2 e_y3 e_y4 l_e_y
                    rw [← hW4.out]
                    try rw [← eB2.out]
                    have k2 := kA hW4
                    have e0B2 := eB2.out
                    have hB2 := zB hW4 (Bx.new Nil.lt _ _ e0B2)
                    have gB2 := gZ e0B2 hst
                    have nB1B2 := nZ e0B2 hB1
                    replace hst := sN hst k2
                    replace hB1 := bN hB1 k2
                    clear k2 e0B2
                    obtain ⟨W5, hW5⟩ := nm (W4.drew)
                    have kn := kD hW5
                    replace hst := sN hst kn
                    replace hB1 := bN hB1 kn
                    replace hB2 := bN hB2 kn
                    clear kn
                    refine wp_region_held_drew (S := fun w' => w'.cell? ⟨B2, 0, none⟩ = some (.int .u64 (bo.toNat : Int)) ∧ w'.cell? ⟨B2, 1, none⟩ = some (.int .u64 (bs.toNat : Int)) ∧ w'.cell? ⟨B2, 2, none⟩ = some (.bool false) ∧ w'.cell? ⟨gb, go + k * 5, none⟩ = some (.int .u64 (bo.toNat : Int)) ∧ w'.cell? ⟨gb, go + k * 5 + 1, none⟩ = some (.int .u64 (bs.toNat : Int)) ∧ w'.cell? ⟨gb, go + k * 5 + 2, none⟩ = some (.bool false) ∧ w'.cell? ⟨gb, go + k * 5 + 3, none⟩ = some (.int .i64 bw) ∧ w'.cell? ⟨gb, go + k * 5 + 4, none⟩ = some (.int .u64 (bl.toNat : Int)) ∧ w'.cell? ⟨gb, go + j * 5, none⟩ = some (.int .u64 (vo.toNat : Int)) ∧ w'.cell? ⟨gb, go + j * 5 + 1, none⟩ = some (.int .u64 (vs.toNat : Int)) ∧ w'.cell? ⟨gb, go + j * 5 + 2, none⟩ = some (.bool vu) ∧ w'.cell? ⟨gb, go + j * 5 + 3, none⟩ = some (.int .i64 vw) ∧ w'.cell? ⟨gb, go + j * 5 + 4, none⟩ = some (.int .u64 (vl.toNat : Int))) (by kernel_rfl) (by rw [← hW5.out]; exact ⟨cB hB2 0, cB hB2 1, cB hB2 2, eX hst HGB (View.cellB HC.out k _ HX.out).1, (hst.out.keeps.cell HGB.out (fun e => e) _).trans (View.cellB HC.out k _ HX.out).2.1, (hst.out.keeps.cell HGB.out (fun e => e) _).trans (View.cellB HC.out k _ HX.out).2.2.1, (hst.out.keeps.cell HGB.out (fun e => e) _).trans (View.cellB HC.out k _ HX.out).2.2.2.1, (hst.out.keeps.cell HGB.out (fun e => e) _).trans (View.cellB HC.out k _ HX.out).2.2.2.2, (hst.out.keeps.cell HGB.out (fun e => e) _).trans (View.cellB HC.out j _ HY.out).1, (hst.out.keeps.cell HGB.out (fun e => e) _).trans (View.cellB HC.out j _ HY.out).2.1, (hst.out.keeps.cell HGB.out (fun e => e) _).trans (View.cellB HC.out j _ HY.out).2.2.1, (hst.out.keeps.cell HGB.out (fun e => e) _).trans (View.cellB HC.out j _ HY.out).2.2.2.1, (hst.out.keeps.cell HGB.out (fun e => e) _).trans (View.cellB HC.out j _ HY.out).2.2.2.2⟩) (fun hHeld => ?_)
                    rw [← hW5.out] at hHeld ⊢
                    refine fT 0 rfl hHeld ?_
                    try simp only [Act.put, List.getElem_toArray, List.getElem_cons_zero, List.setIfInBounds_toArray, List.set_cons_zero, List.set_cons_succ]
                    refine fT 1 rfl hHeld ?_; try simp only [sP,sQ]
                    refine fT 2 rfl hHeld ?_; try simp only [sP,sQ]
                    refine fT 3 rfl hHeld ?_; try simp only [sP,sQ]
                    refine fT 4 rfl hHeld ?_; try simp only [sP,sQ]
                    refine fT 5 rfl hHeld ?_; try simp only [sP,sQ]
                    refine fT 6 rfl hHeld ?_; try simp only [sP,sQ]
                    refine fT 7 rfl hHeld ?_; try simp only [sP,sQ]
                    have d1 : decide (bs.toNat < nd.toNat) = false := decide_eq_false (hq)
                    refine fT 8 rfl hHeld ?_; try simp only [sP,sQ]
                    refine fT 9 rfl hHeld ?_; try simp only [sP,sQ]
                    refine fT 10 rfl hHeld ?_; try simp only [sP,sQ]
                    refine fT 11 rfl hHeld ?_; try simp only [sP,sQ]
                    refine fT 12 rfl hHeld ?_; try simp only [sP,sQ]
                    refine fT 13 rfl hHeld ?_; try simp only [sP,sQ]
                    refine fT 15 rfl hHeld ?_; try simp only [sP,sQ]
                    refine fT 16 rfl hHeld ?_; try simp only [sP,sQ]
                    refine fT 17 rfl hHeld ?_; try simp only [sP,sQ]
                    refine fT 18 rfl hHeld ?_; try simp only [sP,sQ]
                    obtain ⟨y1, zy1⟩ : ∃ y : UInt64, y = bs - nd := ⟨_, rfl⟩
                    have q1 : IntKind.u64.wrap ((bs.toNat : Int) - (nd.toNat : Int)) = (y1.toNat : Int) := by rw [zy1]; exact u64_sub bs nd
                    replace zy1 := qH zy1
                    refine fT 19 rfl hHeld ?_; try simp only [sP,sQ]
                    refine wpAnyH_ready (rs := [14]) (by kernel_rfl) (by simp) ?_
                    refine (AllReadyH.cons (o := _) rfl (fun K hK => ?_) AllReadyH.nil)
                    go_simp
                    refine (rpad_any _ bo a HAL.out HO.out.1 HO.out.2).mono ?_
                    rintro _ _ ⟨rfl, rfl⟩
                    obtain ⟨v1, zv1⟩ : ∃ v : UInt64, v = padU bo a := ⟨_, rfl⟩
                    rw [← zv1]
                    replace zv1 := qH zv1
                    refine hK.out _ _ (⟨cB hB2 0, cB hB2 1, cB hB2 2, eX hst HGB (View.cellB HC.out k _ HX.out).1, (hst.out.keeps.cell HGB.out (fun e => e) _).trans (View.cellB HC.out k _ HX.out).2.1, (hst.out.keeps.cell HGB.out (fun e => e) _).trans (View.cellB HC.out k _ HX.out).2.2.1, (hst.out.keeps.cell HGB.out (fun e => e) _).trans (View.cellB HC.out k _ HX.out).2.2.2.1, (hst.out.keeps.cell HGB.out (fun e => e) _).trans (View.cellB HC.out k _ HX.out).2.2.2.2, (hst.out.keeps.cell HGB.out (fun e => e) _).trans (View.cellB HC.out j _ HY.out).1, (hst.out.keeps.cell HGB.out (fun e => e) _).trans (View.cellB HC.out j _ HY.out).2.1, (hst.out.keeps.cell HGB.out (fun e => e) _).trans (View.cellB HC.out j _ HY.out).2.2.1, (hst.out.keeps.cell HGB.out (fun e => e) _).trans (View.cellB HC.out j _ HY.out).2.2.2.1, (hst.out.keeps.cell HGB.out (fun e => e) _).trans (View.cellB HC.out j _ HY.out).2.2.2.2⟩) (fun hHeld => ?_)
                    clear hK K
                    try simp only [sP,sQ]
                    have d2 : decide (y1.toNat < v1.toNat) = false := decide_eq_false (by rw [zy1.out, zv1.out]; exact hq2)
                    refine fT 20 rfl hHeld ?_; try simp only [sP,sQ]
                    refine fT 21 rfl hHeld ?_; try simp only [sP,sQ]
                    refine fD ?_
                    clear hHeld
                    have c_B2_0 := cB hB2 0
                    have c_B2_1 := cB hB2 1
                    have c_B2_2 := cB hB2 2
                    have l_B2 := hB2.out.lt
                    have e_x0 := eX hst HGB (View.cellB HC.out k _ HX.out).1
                    have e_x1 := eX hst HGB (View.cellB HC.out k _ HX.out).2.1
                    have e_x2 := eX hst HGB (View.cellB HC.out k _ HX.out).2.2.1
                    have e_x3 := eX hst HGB (View.cellB HC.out k _ HX.out).2.2.2.1
                    have e_x4 := eX hst HGB (View.cellB HC.out k _ HX.out).2.2.2.2
                    have l_e_x := Nat.lt_of_lt_of_le HGB.out hst.out.keeps.size
                    have e_y0 := eX hst HGB (View.cellB HC.out j _ HY.out).1
                    have e_y1 := eX hst HGB (View.cellB HC.out j _ HY.out).2.1
                    have e_y2 := eX hst HGB (View.cellB HC.out j _ HY.out).2.2.1
                    have e_y3 := eX hst HGB (View.cellB HC.out j _ HY.out).2.2.2.1
                    have e_y4 := eX hst HGB (View.cellB HC.out j _ HY.out).2.2.2.2
                    have l_e_y := Nat.lt_of_lt_of_le HGB.out hst.out.keeps.size
                    go_wp2_with fail
                    clear c_B2_0 c_B2_1 c_B2_2 l_B2 e_x0 e_x1 e_x2 e_x3 e_x4 l_e_x e_y0 e_y1 e_y2 e_y3 e_y4 l_e_y
                    obtain ⟨W7, hW7⟩ := nm (W5.drew)
                    have kn := kD hW7
                    replace hst := sN hst kn
                    replace hB1 := bN hB1 kn
                    replace hB2 := bN hB2 kn
                    clear kn
                    refine wp_region_held_drew (S := fun w' => w'.cell? ⟨B1, 1, none⟩ = some (.slice (some ⟨gb, go, none⟩) M cl) ∧ w'.cell? ⟨B2, 1, none⟩ = some (.int .u64 (bs.toNat : Int)) ∧ w'.cell? ⟨gb, go + k * 5, none⟩ = some (.int .u64 (bo.toNat : Int)) ∧ w'.cell? ⟨gb, go + k * 5 + 1, none⟩ = some (.int .u64 (bs.toNat : Int)) ∧ w'.cell? ⟨gb, go + k * 5 + 2, none⟩ = some (.bool false) ∧ w'.cell? ⟨gb, go + k * 5 + 3, none⟩ = some (.int .i64 bw) ∧ w'.cell? ⟨gb, go + k * 5 + 4, none⟩ = some (.int .u64 (bl.toNat : Int)) ∧ w'.cell? ⟨gb, go + j * 5, none⟩ = some (.int .u64 (vo.toNat : Int)) ∧ w'.cell? ⟨gb, go + j * 5 + 1, none⟩ = some (.int .u64 (vs.toNat : Int)) ∧ w'.cell? ⟨gb, go + j * 5 + 2, none⟩ = some (.bool vu) ∧ w'.cell? ⟨gb, go + j * 5 + 3, none⟩ = some (.int .i64 vw) ∧ w'.cell? ⟨gb, go + j * 5 + 4, none⟩ = some (.int .u64 (vl.toNat : Int))) (by kernel_rfl) (by rw [← hW7.out]; exact ⟨cB hB1 1, cB hB2 1, eX hst HGB (View.cellB HC.out k _ HX.out).1, (hst.out.keeps.cell HGB.out (fun e => e) _).trans (View.cellB HC.out k _ HX.out).2.1, (hst.out.keeps.cell HGB.out (fun e => e) _).trans (View.cellB HC.out k _ HX.out).2.2.1, (hst.out.keeps.cell HGB.out (fun e => e) _).trans (View.cellB HC.out k _ HX.out).2.2.2.1, (hst.out.keeps.cell HGB.out (fun e => e) _).trans (View.cellB HC.out k _ HX.out).2.2.2.2, (hst.out.keeps.cell HGB.out (fun e => e) _).trans (View.cellB HC.out j _ HY.out).1, (hst.out.keeps.cell HGB.out (fun e => e) _).trans (View.cellB HC.out j _ HY.out).2.1, (hst.out.keeps.cell HGB.out (fun e => e) _).trans (View.cellB HC.out j _ HY.out).2.2.1, (hst.out.keeps.cell HGB.out (fun e => e) _).trans (View.cellB HC.out j _ HY.out).2.2.2.1, (hst.out.keeps.cell HGB.out (fun e => e) _).trans (View.cellB HC.out j _ HY.out).2.2.2.2⟩) (fun hHeld => ?_)
                    rw [← hW7.out] at hHeld ⊢
                    refine fT 0 rfl hHeld ?_
                    try simp only [Act.put, List.getElem_toArray, List.getElem_cons_zero, List.setIfInBounds_toArray, List.set_cons_zero, List.set_cons_succ]
                    refine fT 1 rfl hHeld ?_; try simp only [sP,sQ]
                    refine fT 2 rfl hHeld ?_; try simp only [sP,sQ]
                    refine fT 3 rfl hHeld ?_; try simp only [sP,sQ]
                    refine fT 4 rfl hHeld ?_; try simp only [sP,sQ]
                    refine fT 5 rfl hHeld ?_; try simp only [sP,sQ]
                    refine fT 6 rfl hHeld ?_; try simp only [sP,sQ]
                    refine fT 7 rfl hHeld ?_; try simp only [sP,sQ]
                    refine fT 8 rfl hHeld ?_; try simp only [sP,sQ]
                    refine fT 9 rfl hHeld ?_; try simp only [sP,sQ]
                    refine fT 10 rfl hHeld ?_; try simp only [sP,sQ]
                    refine fT 11 rfl hHeld ?_; try simp only [sP,sQ]
                    refine fT 12 rfl hHeld ?_; try simp only [sP,sQ]
                    have d3 : decide (bs.toNat < vs.toNat) = false := decide_eq_false (hq3)
                    refine fT 13 rfl hHeld ?_; try simp only [sP,sQ]
                    refine fT 14 rfl hHeld ?_; try simp only [sP,sQ]
                    refine fD ?_
                    clear hHeld
                    have c_B1_1 := cB hB1 1
                    have l_B1 := hB1.out.lt
                    have c_B2_1 := cB hB2 1
                    have l_B2 := hB2.out.lt
                    have e_x0 := eX hst HGB (View.cellB HC.out k _ HX.out).1
                    have e_x1 := eX hst HGB (View.cellB HC.out k _ HX.out).2.1
                    have e_x2 := eX hst HGB (View.cellB HC.out k _ HX.out).2.2.1
                    have e_x3 := eX hst HGB (View.cellB HC.out k _ HX.out).2.2.2.1
                    have e_x4 := eX hst HGB (View.cellB HC.out k _ HX.out).2.2.2.2
                    have l_e_x := Nat.lt_of_lt_of_le HGB.out hst.out.keeps.size
                    have e_y0 := eX hst HGB (View.cellB HC.out j _ HY.out).1
                    have e_y1 := eX hst HGB (View.cellB HC.out j _ HY.out).2.1
                    have e_y2 := eX hst HGB (View.cellB HC.out j _ HY.out).2.2.1
                    have e_y3 := eX hst HGB (View.cellB HC.out j _ HY.out).2.2.2.1
                    have e_y4 := eX hst HGB (View.cellB HC.out j _ HY.out).2.2.2.2
                    have l_e_y := Nat.lt_of_lt_of_le HGB.out hst.out.keeps.size
                    go_wp2_with fail
                    clear c_B1_1 l_B1 c_B2_1 l_B2 e_x0 e_x1 e_x2 e_x3 e_x4 l_e_x e_y0 e_y1 e_y2 e_y3 e_y4 l_e_y
                    go_roundw
                    case rel => exact ⟨⟨k + 1, some j, by have := HLT.out; omega, rfl, by go_num, qH (best_keep HX.out HF.out HP.out HY.out hq3), qH hst.out.keeps⟩, hB1⟩
                    case measure => simp [intOf]; have := HLT.out; omega
        · have hkM : k = M := by omega
          cases ob with
          | none =>
            rw [show bestI none = -1 from rfl]
            have HR := qH (show RV = .tuple #[.int .i64 0, .int .u64 0, .int .u64 0, .int .i64 3] by rw [HRV.out]; unfold rFitV; rw [fitC_none HAL.out HNB.out (by unfold fitJ; rw [← HND.out, ← HN.out, ← hkM]; exact HP.out), if_neg (by decide)])
            clear hkM
            have c_B1_1 := cB hB1 1
            have l_B1 := hB1.out.lt
            go_wp2_with fail
            (try simp only [Exit.inBlock, Exit.then]); refine bodyPost_ret (results_tmp4 rfl _ _ _) rfl ?_
            clear c_B1_1 l_B1
            exact ⟨by rw [HR.out]; rfl, hst.out.keeps⟩
          | some j =>
            rw [show bestI (some j) = (j : Int) from rfl]
            have hM0 : 0 < M := by have h := bestF_spec (fitB nd a) H k (by rw [← HN.out]; omega); rw [HP.out] at h; have := h.1; omega
            obtain ⟨gb, go, cap, e1, hcp, _, hgb, _, hcell⟩ := HV.out.pos (by rw [← HN.out]; exact hM0)
            simp only [Value.slice.injEq] at e1
            obtain ⟨rfl, hn1, rfl⟩ := e1
            clear hn1
            have HC := qH (show ∀ i j, j < kRB.size → i < H.length → w.cell? ⟨gb, go + (i * kRB.size + j), none⟩ = (H[i]?).bind (fun x => (kRB.enc x)[j]?) from hcell)
            have HGB := qH hgb
            have hMc : M ≤ cl := by rw [HN.out]; exact hcp
            clear hcell hgb hcp
            obtain ⟨hjk, ⟨vo, ⟨vs, vu, vw⟩, vl⟩, hy, hcf, _⟩ := (show _ ∧ ∃ _, _ from by have h := bestF_spec (fitB nd a) H k (by rw [← HN.out]; omega); rw [HP.out] at h; exact h)
            have HY := qH hy
            have HJK := qH (show j < M by omega)
            have HJ64 := qH (show j ≤ 4294967290 by omega)
            clear hy hjk
            have dj : decide ((j : Int) < 0) = false := decide_eq_false (by omega)
            have hjM := HJK.out
            have hnum := HLY.out.nums (getE_mem HY.out)
            have HO2 := qH (show vo.toNat ≤ 1048576 ∧ vo.toNat % 16 = 0 from ⟨by have := hnum; simp only [BlockV.z] at this; omega, hnum.2.2.2.1⟩)
            clear hnum
            have HR := qH (show RV = .tuple #[.int .i64 (j : Int), .int .u64 ((padU vo a).toNat : Int), .int .u64 (nd.toNat : Int), .int .i64 0] by have hJ : fitJ H n a = some j := (by unfold fitJ; rw [← HND.out, ← HN.out, ← hkM]; exact HP.out); rw [HRV.out]; unfold rFitV; rw [fitC_some HAL.out HNB.out hJ, if_pos rfl, hJ, HND.out]; simp only [HY.out, Option.getD_some])
            clear hkM
            have c_B1_1 := cB hB1 1
            have l_B1 := hB1.out.lt
            have e_y0 := eX hst HGB (View.cellB HC.out j _ HY.out).1
            have e_y1 := eX hst HGB (View.cellB HC.out j _ HY.out).2.1
            have e_y2 := eX hst HGB (View.cellB HC.out j _ HY.out).2.2.1
            have e_y3 := eX hst HGB (View.cellB HC.out j _ HY.out).2.2.2.1
            have e_y4 := eX hst HGB (View.cellB HC.out j _ HY.out).2.2.2.2
            have l_e_y := Nat.lt_of_lt_of_le HGB.out hst.out.keeps.size
            go_wp2_with fail
            clear c_B1_1 l_B1 e_y0 e_y1 e_y2 e_y3 e_y4 l_e_y
            refine (rpad_any _ vo a HAL.out HO2.out.1 HO2.out.2).mono ?_
            rintro _ _ ⟨rfl, rfl⟩
            obtain ⟨v1, zv1⟩ : ∃ v : UInt64, v = padU vo a := ⟨_, rfl⟩
            rw [← zv1]
            replace zv1 := qH zv1
            have e_y0 := eX hst HGB (View.cellB HC.out j _ HY.out).1
            have e_y1 := eX hst HGB (View.cellB HC.out j _ HY.out).2.1
            have e_y2 := eX hst HGB (View.cellB HC.out j _ HY.out).2.2.1
            have e_y3 := eX hst HGB (View.cellB HC.out j _ HY.out).2.2.2.1
            have e_y4 := eX hst HGB (View.cellB HC.out j _ HY.out).2.2.2.2
            have l_e_y := Nat.lt_of_lt_of_le HGB.out hst.out.keeps.size
            go_wp2_with fail
            (try simp only [Exit.inBlock, Exit.then]); refine bodyPost_ret (results_tmp4 rfl _ _ _) rfl ?_
            clear e_y0 e_y1 e_y2 e_y3 e_y4 l_e_y
            exact ⟨by rw [HR.out, ← zv1.out]; rfl, hst.out.keeps⟩
end
end Go.Proofs.YtefpbljekfkefaaGreat
