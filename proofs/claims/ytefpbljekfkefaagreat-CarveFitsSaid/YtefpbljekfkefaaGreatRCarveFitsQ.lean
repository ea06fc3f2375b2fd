/- W10f, RCarveFits: written short. -/
import Derived.Test.YtefpbljekfkefaaGreatS28
import Derived.Test.YtefpbljekfkefaaGreatS01
import Derived.Test.YtefpbljekfkefaaGreatS10
import Derived.Test.YtefpbljekfkefaaGreatS04
set_option maxRecDepth 100000
set_option maxHeartbeats 8000000
namespace Go.Proofs.YtefpbljekfkefaaGreat
section
open Go.RowKit PT
theorem carveFits_any {w : World} {vl : Value} {l : List AskV} (n a : UInt64) (hl : Look kAs w vl l) :
  Calls Tryz.prog 13 #[vl, .int .u64 (n.toNat : Int), .int .u64 (a.toNat : Int)] w fun e w' => e = .returned (.bool true) ∧ Keeps Nil w w' := by
 obtain ⟨al, lcap, rfl, hlm⟩ := hl.val
 have HL := qH hl
 obtain ⟨⟨H, Ls⟩, hh⟩ : ∃ h, h = takenV l := ⟨_, rfl⟩
 have htl := takenV_tile l
 rw [← hh] at htl
 have HT := qH htl
 have HHT := qH hh
 obtain ⟨M, hM⟩ : ∃ x, x = H.length := ⟨_, rfl⟩
 have hlen : 3776 + 48 * H.length ≤ 4800 := htl.len
 have hM6 : M ≤ 65535 := by omega
 have HM := qH hM
 obtain ⟨n0, hn0⟩ : ∃ x, x = l.length := ⟨_, rfl⟩
 have HN0 := qH hn0
 rw [← hn0]
 clear hl hlm hh htl hM hlen hn0
 have hgd := plc_gd
 rcases fitC_cases H n a with hc | ⟨hc, j, b, hj, hb, hal, hnb, hfb⟩
 ·obtain ⟨cd, hcd⟩ : ∃ x, x = fitC H n a := ⟨_, rfl⟩
  have HC := qH hc
  have HCD := qH hcd
  have d3 : (cd != 0) = true := by rw [hcd]; exact bne_iff_ne.2 hc
  clear hc hcd
  have hst := qH (Step.refl Nil w)
  go_enter Tryz.func13, Tryz.ntmps13
  go_wp2_with fail
  refine (awake10 _).mono ?_
  rintro _ W1 ⟨rfl, kn⟩
  replace hst := sN hst kn
  clear kn
  go_wp2_with fail
  refine (taken10 (show Look kAs _ (.slice al n0 lcap) l by rw [HN0.out]; exact HL.out.keeps_nil hst.out.keeps)).mono ?_
  rintro _ W2 ⟨t, hv, S1, f, K, rfl, hT, hW, hX, kn⟩
  rw [← HHT.out] at hW hX
  obtain ⟨ab, cl, LA, LN, LC, rfl, hv0, hLv⟩ := hX
  simp only at hW hv0 hLv ⊢
  rw [← HM.out] at hv0 ⊢
  have hX := qH (And.intro hv0 hLv)
  replace hT := qH hT
  replace hW := qH hW
  replace hst := sT hst kn
  clear kn hv0 hLv
  obtain ⟨W3, hW3⟩ := nm (W2.alloc (.cells #[.int .u64 4800, .slice ab M cl, .slice (LA 0) (LN 0) (LC 0), .slice (LA 1) (LN 1) (LC 1), .slice (LA 2) (LN 2) (LC 2), .slice (LA 3) (LN 3) (LC 3), .slice (LA 4) (LN 4) (LC 4), .slice (LA 5) (LN 5) (LC 5), .slice (LA 6) (LN 6) (LC 6), .slice (LA 7) (LN 7) (LC 7)] 30))
  obtain ⟨B1, eB1⟩ := nm (W2.heap.size)
  go_wp2_with fail
  rw [← hW3.out]
  try rw [← eB1.out]
  have k1 := kA hW3
  have e0B1 := eB1.out
  have hB1 := zB hW3 (Bx.new hT.out.lt _ _ e0B1)
  have gB1 := gZ e0B1 hst
  replace hst := sN hst k1
  replace hX := qH (And.intro (hX.out.1.keeps_nil k1) (fun c hc => (hX.out.2 c hc).keeps_nil k1))
  replace hT := qH (hT.out.nil k1)
  clear k1 e0B1
  refine (Fit_any n a hT.out.readsK hT.out.lt (HT.out.lay (Nat.le_refl _)) hW.out).mono ?_
  rintro _ W4 ⟨rfl, kn⟩
  rw [cFitV_no HC.out, ← HCD.out]
  replace hst := sN hst kn
  replace hX := qH (And.intro (hX.out.1.keeps_nil kn) (fun c hc => (hX.out.2 c hc).keeps_nil kn))
  replace hT := qH (hT.out.nil kn)
  replace hB1 := bN hB1 kn
  clear kn
  have c_B1_0 := cB hB1 0
  have c_B1_1 := cB hB1 1
  have c_B1_2 := cB hB1 2
  have c_B1_3 := cB hB1 3
  have c_B1_4 := cB hB1 4
  have c_B1_5 := cB hB1 5
  have c_B1_6 := cB hB1 6
  have c_B1_7 := cB hB1 7
  have c_B1_8 := cB hB1 8
  have c_B1_9 := cB hB1 9
  have l_B1 := hB1.out.lt
  obtain ⟨W5, hW5⟩ := nm (W4.alloc (.cells #[.int .u64 0, .int .u64 0, .int .u64 0] 57))
  obtain ⟨B2, eB2⟩ := nm (W4.heap.size)
  go_wp2_with fail
  clear c_B1_0 c_B1_1 c_B1_2 c_B1_3 c_B1_4 c_B1_5 c_B1_6 c_B1_7 c_B1_8 c_B1_9 l_B1
  rw [← hW5.out]
  try rw [← eB2.out]
  have k2 := kA hW5
  have e0B2 := eB2.out
  have hB2 := zB hW5 (Bx.new hT.out.lt _ _ e0B2)
  have gB2 := gZ e0B2 hst
  have nB1B2 := nZ e0B2 hB1
  replace hst := sN hst k2
  replace hX := qH (And.intro (hX.out.1.keeps_nil k2) (fun c hc => (hX.out.2 c hc).keeps_nil k2))
  replace hT := qH (hT.out.nil k2)
  replace hB1 := bN hB1 k2
  clear k2 e0B2
  refine (rFit_any (e := 4800) n a (HT.out.lay (Nat.le_refl _)) (show View kRB S1 _ (.slice ab M cl) H from hX.out.1) (by rw [← HM.out]; omega)).mono ?_
  rintro _ W6 ⟨rfl, kn⟩
  rw [rFitV_no HC.out, ← HCD.out]
  replace hst := sN hst kn
  replace hX := qH (And.intro (hX.out.1.keeps_nil kn) (fun c hc => (hX.out.2 c hc).keeps_nil kn))
  replace hT := qH (hT.out.nil kn)
  replace hB1 := bN hB1 kn
  replace hB2 := bN hB2 kn
  clear kn
  have qs1 : ∀ w, (binOp .eql 57 (.agg #[.int .u64 0, .int .u64 0, .int .u64 0]) (.agg #[.int .u64 0, .int .u64 0, .int .u64 0])).run Tryz.prog w = .ok (.bool true) w := fun w => plc_yes 0 0 0 w
  have c_B2_0 := cB hB2 0
  have c_B2_1 := cB hB2 1
  have c_B2_2 := cB hB2 2
  have l_B2 := hB2.out.lt
  go_wp2_with fail
  go_ret
  clear c_B2_0 c_B2_1 c_B2_2 l_B2
  exact ⟨rfl, hst.out.keeps⟩
 ·obtain ⟨bo, bt, bl⟩ := b
  obtain ⟨pd, hpd⟩ : ∃ x, x = padU bo a := ⟨_, rfl⟩
  obtain ⟨nd, hnd⟩ : ∃ x, x = needU n := ⟨_, rfl⟩
  have hjM : j < M := by rw [HM.out]; exact (List.getElem?_eq_some_iff.1 hb).1
  have HFC := qH (cFitV_yes hc hj hb)
  have HFR := qH (rFitV_yes hc hj hb)
  have HPD := qH (And.intro hpd hnd)
  have HJ := qH hb
  clear hc hj hb hal hnb hfb hpd hnd
  have hst := qH (Step.refl Nil w)
  go_enter Tryz.func13, Tryz.ntmps13
  go_wp2_with fail
  refine (awake10 _).mono ?_
  rintro _ W1 ⟨rfl, kn⟩
  replace hst := sN hst kn
  clear kn
  go_wp2_with fail
  refine (taken10 (show Look kAs _ (.slice al n0 lcap) l by rw [HN0.out]; exact HL.out.keeps_nil hst.out.keeps)).mono ?_
  rintro _ W2 ⟨t, hv, S1, f, K, rfl, hT, hW, hX, kn⟩
  rw [← HHT.out] at hW hX
  obtain ⟨ab, cl, LA, LN, LC, rfl, hv0, hLv⟩ := hX
  simp only at hW hv0 hLv ⊢
  rw [← HM.out] at hv0 ⊢
  obtain ⟨gb, go, cap, e1, hcp, hcm, hgb, _, hcell⟩ := hv0.pos (by rw [← HM.out]; omega)
  rw [← HM.out] at e1 hcp
  simp only [Value.slice.injEq] at e1
  obtain ⟨rfl, _, rfl⟩ := e1
  obtain ⟨WT, hWT⟩ : ∃ W, W = W2 := ⟨_, rfl⟩
  have HCX := qH (show ∀ i j, j < kRB.size → i < H.length → WT.cell? ⟨gb, go + (i * kRB.size + j), none⟩ = (H[i]?).bind (fun x => (kRB.enc x)[j]?) by rw [hWT]; exact hcell)
  have HGB := qH (show gb < WT.heap.size by rw [hWT]; exact hgb)
  have hkT := qH (show Keeps Nil WT W2 by rw [hWT]; exact Keeps.refl Nil _)
  clear hcm hgb hcell hWT
  have hX := qH (And.intro hv0 hLv)
  replace hT := qH hT
  replace hW := qH hW
  replace hst := sT hst kn
  clear kn hv0 hLv
  have e_x0 := (hkT.out.cell HGB.out (fun e => e) _).trans (View.cellB HCX.out j _ HJ.out).1
  obtain ⟨W3, hW3⟩ := nm (W2.alloc (.cells #[.int .u64 4800, .slice (some ⟨gb, go, none⟩) M cl, .slice (LA 0) (LN 0) (LC 0), .slice (LA 1) (LN 1) (LC 1), .slice (LA 2) (LN 2) (LC 2), .slice (LA 3) (LN 3) (LC 3), .slice (LA 4) (LN 4) (LC 4), .slice (LA 5) (LN 5) (LC 5), .slice (LA 6) (LN 6) (LC 6), .slice (LA 7) (LN 7) (LC 7)] 30))
  obtain ⟨B1, eB1⟩ := nm (W2.heap.size)
  go_wp2_with fail
  clear e_x0
  rw [← hW3.out]
  try rw [← eB1.out]
  have k1 := kA hW3
  have e0B1 := eB1.out
  have hB1 := zB hW3 (Bx.new hT.out.lt _ _ e0B1)
  have gB1 := gZ e0B1 hst
  replace hst := sN hst k1
  replace hX := qH (And.intro (hX.out.1.keeps_nil k1) (fun c hc => (hX.out.2 c hc).keeps_nil k1))
  replace hkT := qH (hkT.out.trans' k1)
  replace hT := qH (hT.out.nil k1)
  clear k1 e0B1
  refine (Fit_any n a hT.out.readsK hT.out.lt (HT.out.lay (Nat.le_refl _)) hW.out).mono ?_
  rintro _ W4 ⟨rfl, kn⟩
  rw [HFC.out, ← HPD.out.1, ← HPD.out.2]
  replace hst := sN hst kn
  replace hX := qH (And.intro (hX.out.1.keeps_nil kn) (fun c hc => (hX.out.2 c hc).keeps_nil kn))
  replace hkT := qH (hkT.out.trans' kn)
  replace hT := qH (hT.out.nil kn)
  replace hB1 := bN hB1 kn
  clear kn
  have c_B1_0 := cB hB1 0
  have c_B1_1 := cB hB1 1
  have c_B1_2 := cB hB1 2
  have c_B1_3 := cB hB1 3
  have c_B1_4 := cB hB1 4
  have c_B1_5 := cB hB1 5
  have c_B1_6 := cB hB1 6
  have c_B1_7 := cB hB1 7
  have c_B1_8 := cB hB1 8
  have c_B1_9 := cB hB1 9
  have l_B1 := hB1.out.lt
  have e_x0 := (hkT.out.cell HGB.out (fun e => e) _).trans (View.cellB HCX.out j _ HJ.out).1
  obtain ⟨W5, hW5⟩ := nm (W4.alloc (.cells #[.int .u64 (bo.toNat : Int), .int .u64 (pd.toNat : Int), .int .u64 (nd.toNat : Int)] 57))
  obtain ⟨B2, eB2⟩ := nm (W4.heap.size)
  go_wp2_with fail
  clear c_B1_0 c_B1_1 c_B1_2 c_B1_3 c_B1_4 c_B1_5 c_B1_6 c_B1_7 c_B1_8 c_B1_9 l_B1 e_x0
  rw [← hW5.out]
  try rw [← eB2.out]
  have k2 := kA hW5
  have e0B2 := eB2.out
  have hB2 := zB hW5 (Bx.new hT.out.lt _ _ e0B2)
  have gB2 := gZ e0B2 hst
  have nB1B2 := nZ e0B2 hB1
  replace hst := sN hst k2
  replace hX := qH (And.intro (hX.out.1.keeps_nil k2) (fun c hc => (hX.out.2 c hc).keeps_nil k2))
  replace hkT := qH (hkT.out.trans' k2)
  replace hT := qH (hT.out.nil k2)
  replace hB1 := bN hB1 k2
  clear k2 e0B2
  refine (rFit_any (e := 4800) n a (HT.out.lay (Nat.le_refl _)) (show View kRB S1 _ (.slice (some ⟨gb, go, none⟩) M cl) H from hX.out.1) (by rw [← HM.out]; omega)).mono ?_
  rintro _ W6 ⟨rfl, kn⟩
  rw [HFR.out, ← HPD.out.1, ← HPD.out.2]
  replace hst := sN hst kn
  replace hX := qH (And.intro (hX.out.1.keeps_nil kn) (fun c hc => (hX.out.2 c hc).keeps_nil kn))
  replace hkT := qH (hkT.out.trans' kn)
  replace hT := qH (hT.out.nil kn)
  replace hB1 := bN hB1 kn
  replace hB2 := bN hB2 kn
  clear kn
  have e_x0 := (hkT.out.cell HGB.out (fun e => e) _).trans (View.cellB HCX.out j _ HJ.out).1
  go_wp2_with fail
  clear e_x0
  obtain ⟨W7, hW7⟩ := nm (W6.drew)
  have kn := kD hW7
  replace hst := sN hst kn
  replace hX := qH (And.intro (hX.out.1.keeps_nil kn) (fun c hc => (hX.out.2 c hc).keeps_nil kn))
  replace hkT := qH (hkT.out.trans' kn)
  replace hT := qH (hT.out.nil kn)
  replace hB1 := bN hB1 kn
  replace hB2 := bN hB2 kn
  clear kn
  refine wp_region_held_drew (S := fun w' => w'.cell? ⟨B1, 1, none⟩ = some (.slice (some ⟨gb, go, none⟩) M cl) ∧ w'.cell? ⟨B2, 0, none⟩ = some (.int .u64 (bo.toNat : Int)) ∧ w'.cell? ⟨B2, 1, none⟩ = some (.int .u64 (pd.toNat : Int)) ∧ w'.cell? ⟨B2, 2, none⟩ = some (.int .u64 (nd.toNat : Int)) ∧ w'.cell? ⟨gb, go + j * 5, none⟩ = some (.int .u64 (bo.toNat : Int))) (by kernel_rfl) (by rw [← hW7.out]; exact ⟨cB hB1 1, cB hB2 0, cB hB2 1, cB hB2 2, (hkT.out.cell HGB.out (fun e => e) _).trans (View.cellB HCX.out j _ HJ.out).1⟩) (fun hHeld => ?_)
  rw [← hW7.out] at hHeld ⊢
  refine fT 0 rfl hHeld ?_
  try simp only [Act.put, List.getElem_toArray, List.getElem_cons_zero, List.setIfInBounds_toArray, List.set_cons_zero, List.set_cons_succ]
  refine fT 1 rfl hHeld ?_; try simp only [sP,sQ]
  refine fT 2 rfl hHeld ?_; try simp only [sP,sQ]
  refine fT 3 rfl hHeld ?_; try simp only [sP,sQ]
  refine fT 4 rfl hHeld ?_; try simp only [sP,sQ]
  refine fT 5 rfl hHeld ?_; try simp only [sP,sQ]
  refine fT 6 rfl hHeld ?_; try simp only [sP,sQ]
  refine fT 7 rfl hHeld ?_; try simp only [sP,sQ]
  refine fT 8 rfl hHeld ?_; try simp only [sP,sQ]
  refine fT 9 rfl hHeld ?_; try simp only [sP,sQ]
  refine fT 10 rfl hHeld ?_; try simp only [sP,sQ]
  refine fT 11 rfl hHeld ?_; try simp only [sP,sQ]
  refine fT 12 rfl hHeld ?_; try simp only [sP,sQ]
  refine fT 13 rfl hHeld ?_; try simp only [sP,sQ]
  refine fT 14 rfl hHeld ?_; try simp only [sP,sQ]
  refine fT 15 rfl hHeld ?_; try simp only [sP,sQ]
  refine fT 16 rfl hHeld ?_; try simp only [sP,sQ]
  refine fT 17 rfl hHeld ?_; try simp only [sP,sQ]
  refine fT 18 rfl hHeld ?_; try simp only [sP,sQ]
  have qs1 : ∀ w, (binOp .eql 57 (.agg #[.int .u64 (bo.toNat : Int), .int .u64 (pd.toNat : Int), .int .u64 (nd.toNat : Int)]) (.agg #[.int .u64 (bo.toNat : Int), .int .u64 (pd.toNat : Int), .int .u64 (nd.toNat : Int)])).run Tryz.prog w = .ok (.bool true) w := fun w => plc_yes (bo.toNat : Int) (pd.toNat : Int) (nd.toNat : Int) w
  refine fT 19 rfl hHeld ?_; try simp only [sP,sQ]
  refine fT 20 rfl hHeld ?_; try simp only [sP,sQ]
  refine fT 21 rfl hHeld ?_; try simp only [sP,sQ]
  refine fD ?_
  clear hHeld
  have c_B1_1 := cB hB1 1
  have l_B1 := hB1.out.lt
  have c_B2_0 := cB hB2 0
  have c_B2_1 := cB hB2 1
  have c_B2_2 := cB hB2 2
  have l_B2 := hB2.out.lt
  have e_x0 := (hkT.out.cell HGB.out (fun e => e) _).trans (View.cellB HCX.out j _ HJ.out).1
  go_wp2_with fail
  go_ret
  clear c_B1_1 l_B1 c_B2_0 c_B2_1 c_B2_2 l_B2 e_x0
  exact ⟨rfl, hst.out.keeps⟩
end
section
open Go.ChangeShapes Go.WideShapes Go.ChangeAt Go.RowKit Go.Deep Go.Joins
theorem carveFits_lifted (os : Os) (started : os.Started) (H : Type) (enc : TypeId × Value → H) :
  ReturnsInHanded {} Tryz.checked os 13 .any (Rows.carveFitsSpec.pre6 enc Tryz.prog Tryz.f13 Rows.carveFitsRow.domain false) (Rows.carveFitsSpec.post enc Tryz.prog Tryz.f13 false true false false) := by
 refine returnsInHanded_of_change (C := Tryz.checked) prog_own started (by kernel_rfl) Tryz.func13
  (ChangeSpec.witness6 (enc := enc) (C := Tryz.checked) false ⟨#[], #[.slice none 0 0, .int .u64 0, .int .u64 0], []⟩ 8 (by kernel_rfl) (by kernel_rfl) (by kernel_rfl) (by kernel_rfl)) ?_
 intro W base args ds gs before hval0 hW hcnd _
 have hval : ∀ (j : Nat) t v, Tryz.f13.params[j]? = some t → args[j]? = some v → Value.okWide Tryz.prog W .any base t v := hval0
 have hW' := hW
 obtain ⟨p, q, hA0, hV, rfl, hfz, hnd⟩ := hW
 have hA : DataW.TrodAll enc Tryz.prog W 0 (fun _ => true) true Tryz.f13.params.toList args.toList ds p := hA0
 rw [Tryz.params13] at hA hval
 obtain ⟨v0, v1, v2, d0, d1, d2, p0, p1, p2, rfl, rfl, rfl, h0, h1, h2⟩ := trodAll_three hA
 obtain ⟨rfl, rfl⟩ := trodVars_none hV
 have s0 : v0.cells.toList = [v0] := by obtain ⟨_, _, _, rfl⟩ := okWide_slice Tryz.underlying90 (hval 0 90 v0 rfl rfl); rfl
 obtain ⟨l0, k0⟩ := open_look (K := kAs) Tryz.underlying90 (by kernel_rfl) dec_ask h0 s0
 obtain ⟨n1, rfl, rfl, rfl, w1⟩ := open_int Tryz.underlying25 (hval 1 25 v1 rfl rfl) h1
 obtain ⟨u1, rfl⟩ := u64_some w1
 obtain ⟨n2, rfl, rfl, rfl, w2⟩ := open_int Tryz.underlying25 (hval 2 25 v2 rfl rfl) h2
 obtain ⟨u2, rfl⟩ := u64_some w2
 simp only [List.append_nil] at hW'
 refine (carveFits_any u1 u2 k0).mono fun e W' ⟨he, hK⟩ => ?_
 subst he
 exact ⟨_, rfl, row_post prog_laid (by first | exact hW' | simpa using hW') rfl (by kernel_rfl) (by kernel_rfl) Tryz.underlying4 rfl hK⟩
theorem carveFits_holds : Rows.CarveFitsSaid :=
 OpenClaim.holds_of_wide 13 Tryz.f13 rfl rfl rfl rfl rfl rfl rfl ⟨rfl, rfl, rfl, rfl, rfl⟩ rfl rfl rfl rfl rfl (by kernel_rfl) Tryz.func13 (joined_of (by kernel_rfl))
  (of_decide_eq_true (by kernel_rfl)) (by unfold Func.isWrapper; rw [if_neg (by decide +kernel)]; exact ⟨rfl, rfl⟩)
  (fun os started H enc _ => carveFits_lifted os started H enc)
end
end Go.Proofs.YtefpbljekfkefaaGreat
