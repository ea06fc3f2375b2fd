/- W10t, RCarveTakes: written short. -/
import Derived.Test.YtefpbljekfkefaaGreatS28
import Derived.Test.YtefpbljekfkefaaGreatS01
import Derived.Test.YtefpbljekfkefaaGreatS10
import Derived.Test.YtefpbljekfkefaaGreatS04
set_option maxRecDepth 100000
set_option maxHeartbeats 8000000
namespace Go.Proofs.YtefpbljekfkefaaGreat
section
open Go.RowKit PT
theorem carveTakes_any {w : World} {vl : Value} {l : List AskV} (ow : Int) (n a : UInt64) (hl : Look kAs w vl l) :
  Calls Tryz.prog 14 #[vl, .int .i64 ow, .agg #[.int .u64 (n.toNat : Int), .int .u64 (a.toNat : Int)]] w fun e w' => e = .returned (.bool true) ∧ Keeps Nil w w' := by
 obtain ⟨al, lcap, rfl, hlm⟩ := hl.val
 have HL := qH hl
 obtain ⟨⟨H, Ls⟩, hh⟩ : ∃ h, h = takenV l := ⟨_, rfl⟩
 have htl := takenV_tile l
 rw [← hh] at htl
 have HT := qH htl
 have HHT := qH hh
 obtain ⟨M, hM⟩ : ∃ x, x = H.length := ⟨_, rfl⟩
 have hlen : 3776 + 48 * H.length ≤ 4800 := htl.len
 have hM6 : M ≤ 65535 := by omega
 have HM := qH hM
 obtain ⟨n0, hn0⟩ : ∃ x, x = l.length := ⟨_, rfl⟩
 have HN0 := qH hn0
 rw [← hn0]
 clear hl hlm hh htl hM hlen hn0
 have hst := qH (Step.refl Nil w)
 go_enter Tryz.func14, Tryz.ntmps14
 obtain ⟨W1, hW1⟩ := nm (w.alloc (.cells #[.int .u64 (n.toNat : Int), .int .u64 (a.toNat : Int)] 95))
 obtain ⟨B1, eB1⟩ := nm (w.heap.size)
 go_wp2_with fail
 rw [← hW1.out]
 try rw [← eB1.out]
 have k1 := kA hW1
 have e0B1 := eB1.out
 have hB1 := zB hW1 (Bx.new Nil.lt _ _ e0B1)
 have gB1 := gZ e0B1 hst
 replace hst := sN hst k1
 clear k1 e0B1
 refine (awake10 _).mono ?_
 rintro _ W2 ⟨rfl, kn⟩
 replace hst := sN hst kn
 replace hB1 := bN hB1 kn
 clear kn
 go_wp2_with fail
 refine (taken10 (show Look kAs _ (.slice al n0 lcap) l by rw [HN0.out]; exact HL.out.keeps_nil hst.out.keeps)).mono ?_
 rintro _ W3 ⟨t, hv, S1, f, K, rfl, hT, hW, hX, kn⟩
 rw [← HHT.out] at hW hX
 obtain ⟨ab, cl, LA, LN, LC, rfl, hv0, hLv⟩ := hX
 simp only at hW hv0 hLv ⊢
 rw [← HM.out] at hv0 ⊢
 have hX := qH (And.intro hv0 hLv)
 replace hT := qH hT
 replace hW := qH hW
 replace hst := sT hst kn
 replace hB1 := bS hB1 kn
 clear kn hv0 hLv
 obtain ⟨W4, hW4⟩ := nm (W3.alloc (.cells #[.int .u64 4800, .slice ab M cl, .slice (LA 0) (LN 0) (LC 0), .slice (LA 1) (LN 1) (LC 1), .slice (LA 2) (LN 2) (LC 2), .slice (LA 3) (LN 3) (LC 3), .slice (LA 4) (LN 4) (LC 4), .slice (LA 5) (LN 5) (LC 5), .slice (LA 6) (LN 6) (LC 6), .slice (LA 7) (LN 7) (LC 7)] 30))
 obtain ⟨B2, eB2⟩ := nm (W3.heap.size)
 go_wp2_with fail
 rw [← hW4.out]
 try rw [← eB2.out]
 have k2 := kA hW4
 have e0B2 := eB2.out
 have hB2 := zB hW4 (Bx.new hT.out.lt _ _ e0B2)
 have gB2 := gZ e0B2 hst
 have nB1B2 := nZ e0B2 hB1
 replace hst := sN hst k2
 replace hX := qH (And.intro (hX.out.1.keeps_nil k2) (fun c hc => (hX.out.2 c hc).keeps_nil k2))
 replace hT := qH (hT.out.nil k2)
 replace hB1 := bN hB1 k2
 clear k2 e0B2
 refine (sound10 (h := (H, Ls)) hT.out hW.out HT.out (by decide) ⟨ab, cl, LA, LN, LC, (by rw [HM.out]; rfl), (by rw [← HM.out]; exact hX.out.1), hX.out.2⟩).mono ?_
 rintro _ W5 ⟨rfl, kn⟩
 replace hst := sN hst kn
 replace hX := qH (And.intro (hX.out.1.keeps_nil kn) (fun c hc => (hX.out.2 c hc).keeps_nil kn))
 replace hT := qH (hT.out.nil kn)
 replace hB1 := bN hB1 kn
 replace hB2 := bN hB2 kn
 clear kn
 have c_B1_0 := cB hB1 0
 have c_B1_1 := cB hB1 1
 have l_B1 := hB1.out.lt
 go_wp2_with fail
 clear c_B1_0 c_B1_1 l_B1
 obtain ⟨⟨⟨H2, Ls2⟩, p, cd⟩, htv⟩ : ∃ v, v = takeV (H, Ls) ow n a := ⟨_, rfl⟩
 have hta := Take_any (h := (H, Ls)) hT.out hW.out HT.out (by decide) ow n a
 have HLL := qH (fun c hc => hW.out.lens c hc)
 have HT2 := qH (show Tile 3776 H2 (4800 : UInt64).toNat by have h := takeV_tile (h := (H, Ls)) (owner := ow) (n := n) (a := a) HT.out (Nat.le_refl _); rw [← htv] at h; exact h)
 rw [← htv] at hta
 have HTV := qH htv
 clear htv
 skip
 refine (hta).mono ?_
 clear hta
 rintro _ W6 ⟨rfl, f2, S2, K2, hT2, hW2, kn⟩
 replace hst := sT hst kn
 replace hX := qH (And.intro (hX.out.1.steps kn) (fun c hc => (hX.out.2 c hc).steps kn))
 replace hB1 := bS hB1 kn
 replace hB2 := bS hB2 kn
 replace hT := qH hT2
 replace hW := qH hW2
 clear kn hT2 hW2
 have c_B1_0 := cB hB1 0
 have c_B1_1 := cB hB1 1
 have l_B1 := hB1.out.lt
 have c_B2_0 := cB hB2 0
 have c_B2_1 := cB hB2 1
 have c_B2_2 := cB hB2 2
 have c_B2_3 := cB hB2 3
 have c_B2_4 := cB hB2 4
 have c_B2_5 := cB hB2 5
 have c_B2_6 := cB hB2 6
 have c_B2_7 := cB hB2 7
 have c_B2_8 := cB hB2 8
 have c_B2_9 := cB hB2 9
 have l_B2 := hB2.out.lt
 go_wp2_with fail
 clear c_B1_0 c_B1_1 l_B1 c_B2_0 c_B2_1 c_B2_2 c_B2_3 c_B2_4 c_B2_5 c_B2_6 c_B2_7 c_B2_8 c_B2_9 l_B2
 have htb := rTake_any (S := S2) (h := (H, Ls)) (e := 4800) (E := 4800) ⟨ab, cl, LA, LN, LC, rfl, (show View kRB _ _ (.slice ab H.length cl) H by rw [← HM.out]; exact hX.out.1), hX.out.2⟩ hT.out.lt HT.out (by decide) HLL.out ow n a
 simp only at htb
 rw [← HM.out, ← HTV.out] at htb
 refine (htb).mono ?_
 clear htb
 rintro _ W7 ⟨hv, rfl, hX2, kn⟩
 obtain ⟨ab2, cl2, LA2, LN2, LC2, rfl, hv2, hLv2⟩ := hX2
 simp only at hv2 hLv2 ⊢
 obtain ⟨M2, hM2⟩ : ∃ x, x = H2.length := ⟨_, rfl⟩
 rw [← hM2] at hv2 ⊢
 have HM2 := qH hM2
 have hX3 := qH (And.intro hv2 hLv2)
 clear hX hv2 hLv2 hM2
 replace hst := sN hst kn
 replace hT := qH (hT.out.nil kn)
 replace hB1 := bN hB1 kn
 replace hB2 := bN hB2 kn
 clear kn
 obtain ⟨W8, hW8⟩ := nm (W7.alloc (.cells #[.int .u64 4800, .slice ab2 M2 cl2, .slice (LA2 0) (LN2 0) (LC2 0), .slice (LA2 1) (LN2 1) (LC2 1), .slice (LA2 2) (LN2 2) (LC2 2), .slice (LA2 3) (LN2 3) (LC2 3), .slice (LA2 4) (LN2 4) (LC2 4), .slice (LA2 5) (LN2 5) (LC2 5), .slice (LA2 6) (LN2 6) (LC2 6), .slice (LA2 7) (LN2 7) (LC2 7)] 30))
 obtain ⟨B3, eB3⟩ := nm (W7.heap.size)
 go_wp2_with fail
 rw [← hW8.out]
 try rw [← eB3.out]
 have k3 := kA hW8
 have e0B3 := eB3.out
 have hB3 := zB hW8 (Bx.new hT.out.lt _ _ e0B3)
 have gB3 := gZ e0B3 hst
 have nB1B3 := nZ e0B3 hB1
 have nB2B3 := nZ e0B3 hB2
 replace hst := sN hst k3
 replace hX3 := qH (And.intro (hX3.out.1.keeps_nil k3) (fun c hc => (hX3.out.2 c hc).keeps_nil k3))
 replace hT := qH (hT.out.nil k3)
 replace hB1 := bN hB1 k3
 replace hB2 := bN hB2 k3
 clear k3 e0B3
 refine (sound10 (h := (H2, Ls2)) hT.out hW.out HT2.out (by decide) ⟨ab2, cl2, LA2, LN2, LC2, (by rw [HM2.out]; rfl), (by rw [← HM2.out]; exact hX3.out.1), hX3.out.2⟩).mono ?_
 rintro _ W9 ⟨rfl, kn⟩
 replace hst := sN hst kn
 replace hX3 := qH (And.intro (hX3.out.1.keeps_nil kn) (fun c hc => (hX3.out.2 c hc).keeps_nil kn))
 replace hT := qH (hT.out.nil kn)
 replace hB1 := bN hB1 kn
 replace hB2 := bN hB2 kn
 replace hB3 := bN hB3 kn
 clear kn
 go_wp2_with fail
 go_ret
 exact ⟨rfl, hst.out.keeps⟩
end
section
open Go.ChangeShapes Go.WideShapes Go.ChangeAt Go.RowKit Go.Deep Go.Joins
theorem carveTakes_lifted (os : Os) (started : os.Started) (H : Type) (enc : TypeId × Value → H) :
  ReturnsInHanded {} Tryz.checked os 14 .any (Rows.carveTakesSpec.pre6 enc Tryz.prog Tryz.f14 Rows.carveTakesRow.domain false) (Rows.carveTakesSpec.post enc Tryz.prog Tryz.f14 false true false false) := by
 refine returnsInHanded_of_change (C := Tryz.checked) prog_own started (by kernel_rfl) Tryz.func14
  (ChangeSpec.witness6 (enc := enc) (C := Tryz.checked) false ⟨#[], #[.slice none 0 0, .int .i64 0, .agg #[.int .u64 0, .int .u64 0]], []⟩ 8 (by kernel_rfl) (by kernel_rfl) (by kernel_rfl) (by kernel_rfl)) ?_
 intro W base args ds gs before hval0 hW hcnd _
 have hval : ∀ (j : Nat) t v, Tryz.f14.params[j]? = some t → args[j]? = some v → Value.okWide Tryz.prog W .any base t v := hval0
 have hW' := hW
 obtain ⟨p, q, hA0, hV, rfl, hfz, hnd⟩ := hW
 have hA : DataW.TrodAll enc Tryz.prog W 0 (fun _ => true) true Tryz.f14.params.toList args.toList ds p := hA0
 rw [Tryz.params14] at hA hval
 obtain ⟨v0, v1, v2, d0, d1, d2, p0, p1, p2, rfl, rfl, rfl, h0, h1, h2⟩ := trodAll_three hA
 obtain ⟨rfl, rfl⟩ := trodVars_none hV
 have s0 : v0.cells.toList = [v0] := by obtain ⟨_, _, _, rfl⟩ := okWide_slice Tryz.underlying90 (hval 0 90 v0 rfl rfl); rfl
 obtain ⟨l0, k0⟩ := open_look (K := kAs) Tryz.underlying90 (by kernel_rfl) dec_ask h0 s0
 obtain ⟨n1, rfl, rfl, rfl, w1⟩ := open_int Tryz.underlying3 (hval 1 3 v1 rfl rfl) h1
 obtain ⟨x2, rfl⟩ := open_enc (f := fun a : UInt64 × UInt64 => [.int .u64 (a.1.toNat : Int), .int .u64 (a.2.toNat : Int)]) (okWide_arr Tryz.underlying95 (hval 2 95 v2 rfl rfl)) dec_u64x2 h2
 simp only [List.append_nil] at hW'
 refine (carveTakes_any n1 x2.1 x2.2 k0).mono fun e W' ⟨he, hK⟩ => ?_
 subst he
 exact ⟨_, rfl, row_post prog_laid (by first | exact hW' | simpa using hW') rfl (by kernel_rfl) (by kernel_rfl) Tryz.underlying4 rfl hK⟩
theorem carveTakes_holds : Rows.CarveTakesSaid :=
 OpenClaim.holds_of_wide 14 Tryz.f14 rfl rfl rfl rfl rfl rfl rfl ⟨rfl, rfl, rfl, rfl, rfl⟩ rfl rfl rfl rfl rfl (by kernel_rfl) Tryz.func14 (joined_of (by kernel_rfl))
  (of_decide_eq_true (by kernel_rfl)) (by unfold Func.isWrapper; rw [if_neg (by decide +kernel)]; exact ⟨rfl, rfl⟩)
  (fun os started H enc _ => carveTakes_lifted os started H enc)
end
end Go.Proofs.YtefpbljekfkefaaGreat
