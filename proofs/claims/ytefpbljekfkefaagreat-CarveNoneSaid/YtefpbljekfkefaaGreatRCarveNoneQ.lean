/- W10n, RCarveNone: written short. -/
import Derived.Test.YtefpbljekfkefaaGreatS28
import Derived.Test.YtefpbljekfkefaaGreatS29
import Derived.Test.YtefpbljekfkefaaGreatS01
import Derived.Test.YtefpbljekfkefaaGreatS10
import Derived.Test.YtefpbljekfkefaaGreatS04
set_option maxRecDepth 100000
set_option maxHeartbeats 8000000
namespace Go.Proofs.YtefpbljekfkefaaGreat
section
open Go.RowKit PT
section
variable {w : World} {t : Nat} {S : Nat → Prop} {f : UInt64 → UInt64} {e : UInt64} {H : List BlockV} {Ls : Nat → List UInt64} {K : UInt64 → UInt64 → Prop}
theorem Take_told (hT : TxF w t f 4800 S) (hW : Wd f e H Ls K) (ht : Tile 3776 H e.toNat) (he : e.toNat ≤ 4800) {owner : Int} {n a : UInt64} {cd : Int} {x y : Int} (hx : x = (n.toNat : Int)) (hy : y = (a.toNat : Int)) (hv : (takeV (H, Ls) owner n a).2.2 = cd) :
  Calls Tryz.prog 62 #[.pointer (some ⟨t, 0, none⟩), .int .i64 owner, .int .u64 x, .int .u64 y] w fun e' w' => ∃ p : UInt64, e' = .returned (.tuple #[.int .u64 (p.toNat : Int), .int .i64 cd]) ∧
   ∃ f' S', TxF w' t f' 4800 S' ∧ Step S S' w w' := by
 subst hx hy
 refine (Take_any (h := (H, Ls)) hT hW ht he owner n a).mono ?_
 rintro e' w' ⟨rfl, f', S', K', h1, _, h3⟩
 rw [hv]
 exact ⟨_, rfl, f', S', h1, h3⟩
theorem none_24 : fitC H 8 24 = 1 := fitC_align (by kernel_rfl)
theorem none_8192 : fitC H 8 8192 = 1 := fitC_align (by kernel_rfl)
theorem none_big {n : UInt64} (h : 18446744073709551576 ≤ n.toNat) : fitC H n 16 = 2 := fitC_size (by kernel_rfl) (by unfold needB; exact decide_eq_false (by omega))
theorem some_8 : fitC H 8 16 = 0 ∨ fitC H 8 16 = 3 := by
 cases h : fitJ H 8 16 with
 | none => exact .inr (fitC_none (by kernel_rfl) (by kernel_rfl) h)
 | some j => exact .inl (fitC_some (by kernel_rfl) (by kernel_rfl) h)
theorem takeV_code {owner : Int} {n a : UInt64} (h0 : 0 ≤ owner) (h8 : owner ≤ 8) : (takeV (H, Ls) owner n a).2.2 = fitC H n a := by
 rcases fitC_cases H n a with hc | ⟨hc, j, b, hj, hb, _⟩
 · rw [takeV_no h0 h8 hc]
 · rw [takeV_yes h0 h8 hc hj hb, hc]
end
theorem carveNone_any {w : World} {vl : Value} {l : List AskV} (ow : Int) (n : UInt64) (hl : Look kAs w vl l) :
    Calls Tryz.prog 16 #[vl, .int .i64 ow, .int .u64 (n.toNat : Int)] w fun e w' => e = .returned (.bool true) ∧ Keeps Nil w w' := by
  obtain ⟨al, lcap, rfl, hlm⟩ := hl.val
  have HL := qH hl
  obtain ⟨⟨H, Ls⟩, hh⟩ : ∃ h, h = takenV l := ⟨_, rfl⟩
  have htl := takenV_tile l
  rw [← hh] at htl
  have HT := qH htl
  have HHT := qH hh
  obtain ⟨M, hM⟩ : ∃ x, x = H.length := ⟨_, rfl⟩
  have hlen : 3776 + 48 * H.length ≤ 4800 := htl.len
  have hM6 : M ≤ 65535 := by omega
  have HM := qH hM
  obtain ⟨n0, hn0⟩ : ∃ x, x = l.length := ⟨_, rfl⟩
  have HN0 := qH hn0
  rw [← hn0]
  clear hl hlm hh htl hM hlen hn0
  obtain ⟨nb, hnb⟩ : ∃ y : UInt64, y.toNat = 18446744073709551615 - n.toNat % 40 := ⟨UInt64.ofNat (18446744073709551615 - n.toNat % 40), by rw [UInt64.toNat_ofNat']; omega⟩
  obtain ⟨m, hm⟩ : ∃ x, x = n.toNat % 40 := ⟨_, rfl⟩
  rw [← hm] at hnb
  have hm40 : m < 40 := by omega
  have HNB := qH (show 18446744073709551576 ≤ nb.toNat by omega)
  have q_1 : (n.toNat : Int) % 40 = (m : Int) := by omega
  have q_2 : IntKind.u64.wrap (18446744073709551615 - (m : Int)) = (nb.toNat : Int) := by rw [IntWalk.u64_in _ (by omega)]; omega
  clear hnb hm hm40
  by_cases h0 : ow < 0
  · have HO := qH (show ow < 0 ∨ 8 < ow from .inl h0)
    have hst := qH (Step.refl Nil w)
    go_enter Tryz.func16, Tryz.ntmps16
    go_wp2_with fail
    refine (awake10 _).mono ?_
    rintro _ W1 ⟨rfl, kn⟩
    replace hst := sN hst kn
    clear kn
    go_wp2_with fail
    refine (taken10 (show Look kAs _ (.slice al n0 lcap) l by rw [HN0.out]; exact HL.out.keeps_nil hst.out.keeps)).mono ?_
    rintro _ W2 ⟨t, hv, S1, f, K, rfl, hT, hW, hX, kn⟩
    rw [← HHT.out] at hW hX
    obtain ⟨ab, cl, LA, LN, LC, rfl, hv0, hLv⟩ := hX
    simp only at hW hv0 hLv ⊢
    rw [← HM.out] at hv0 ⊢
    have hX := qH (And.intro hv0 hLv)
    replace hT := qH hT
    replace hW := qH hW
    replace hst := sT hst kn
    clear kn hv0 hLv
    obtain ⟨W3, hW3⟩ := nm (W2.alloc (.cells #[.int .u64 4800, .slice ab M cl, .slice (LA 0) (LN 0) (LC 0), .slice (LA 1) (LN 1) (LC 1), .slice (LA 2) (LN 2) (LC 2), .slice (LA 3) (LN 3) (LC 3), .slice (LA 4) (LN 4) (LC 4), .slice (LA 5) (LN 5) (LC 5), .slice (LA 6) (LN 6) (LC 6), .slice (LA 7) (LN 7) (LC 7)] 30))
    obtain ⟨B1, eB1⟩ := nm (W2.heap.size)
    go_wp2_with fail
    rw [← hW3.out]
    try rw [← eB1.out]
    have k1 := kA hW3
    have e0B1 := eB1.out
    have hB1 := zB hW3 (Bx.new hT.out.lt _ _ e0B1)
    have gB1 := gZ e0B1 hst
    replace hst := sN hst k1
    replace hX := qH (And.intro (hX.out.1.keeps_nil k1) (fun c hc => (hX.out.2 c hc).keeps_nil k1))
    replace hT := qH (hT.out.nil k1)
    clear k1 e0B1
    refine (Take_not (n := 8) (a := 16) hT.out hW.out HT.out (by decide) rfl rfl (takeV_own HO.out)).mono ?_
    rintro _ W4 ⟨rfl, f2, S2, K2, hT2, hW2, kn⟩
    replace hst := sT hst kn
    replace hX := qH (And.intro (hX.out.1.steps kn) (fun c hc => (hX.out.2 c hc).steps kn))
    replace hB1 := bS hB1 kn
    replace hT := qH hT2
    replace hW := qH hW2
    clear kn hT2 hW2
    go_wp2_with fail
    refine (Take_not (n := 8) (a := 24) hT.out hW.out HT.out (by decide) rfl rfl (by rw [takeV_no (by decide) (by decide) (by rw [none_24]; decide), none_24])).mono ?_
    rintro _ W5 ⟨rfl, f3, S3, K3, hT2, hW2, kn⟩
    replace hst := sT hst kn
    replace hX := qH (And.intro (hX.out.1.steps kn) (fun c hc => (hX.out.2 c hc).steps kn))
    replace hB1 := bS hB1 kn
    replace hT := qH hT2
    replace hW := qH hW2
    clear kn hT2 hW2
    go_wp2_with fail
    refine (Take_not (n := 8) (a := 8192) hT.out hW.out HT.out (by decide) rfl rfl (by rw [takeV_no (by decide) (by decide) (by rw [none_8192]; decide), none_8192])).mono ?_
    rintro _ W6 ⟨rfl, f4, S4, K4, hT2, hW2, kn⟩
    replace hst := sT hst kn
    replace hX := qH (And.intro (hX.out.1.steps kn) (fun c hc => (hX.out.2 c hc).steps kn))
    replace hB1 := bS hB1 kn
    replace hT := qH hT2
    replace hW := qH hW2
    clear kn hT2 hW2
    go_wp2_with fail
    refine (Take_not (n := nb) (a := 16) hT.out hW.out HT.out (by decide) rfl rfl (by rw [takeV_no (by decide) (by decide) (by rw [none_big HNB.out]; decide), none_big HNB.out])).mono ?_
    rintro _ W7 ⟨rfl, f5, S5, K5, hT2, hW2, kn⟩
    replace hst := sT hst kn
    replace hX := qH (And.intro (hX.out.1.steps kn) (fun c hc => (hX.out.2 c hc).steps kn))
    replace hB1 := bS hB1 kn
    replace hT := qH hT2
    replace hW := qH hW2
    clear kn hT2 hW2
    have c_B1_0 := cB hB1 0
    have c_B1_1 := cB hB1 1
    have c_B1_2 := cB hB1 2
    have c_B1_3 := cB hB1 3
    have c_B1_4 := cB hB1 4
    have c_B1_5 := cB hB1 5
    have c_B1_6 := cB hB1 6
    have c_B1_7 := cB hB1 7
    have c_B1_8 := cB hB1 8
    have c_B1_9 := cB hB1 9
    have l_B1 := hB1.out.lt
    go_wp2_with fail
    clear c_B1_0 c_B1_1 c_B1_2 c_B1_3 c_B1_4 c_B1_5 c_B1_6 c_B1_7 c_B1_8 c_B1_9 l_B1
    refine (sound10 (h := (H, Ls)) hT.out hW.out HT.out (by decide) ⟨ab, cl, LA, LN, LC, (by rw [HM.out]; rfl), (by rw [← HM.out]; exact hX.out.1), hX.out.2⟩).mono ?_
    rintro _ W8 ⟨rfl, kn⟩
    replace hst := sN hst kn
    replace hX := qH (And.intro (hX.out.1.keeps_nil kn) (fun c hc => (hX.out.2 c hc).keeps_nil kn))
    replace hT := qH (hT.out.nil kn)
    replace hB1 := bN hB1 kn
    clear kn
    go_wp2_with fail
    go_ret
    exact ⟨rfl, hst.out.keeps⟩
  · by_cases h8 : ow > 8
    · have HO := qH (show ow < 0 ∨ 8 < ow from .inr h8)
      have hst := qH (Step.refl Nil w)
      go_enter Tryz.func16, Tryz.ntmps16
      go_wp2_with fail
      refine (awake10 _).mono ?_
      rintro _ W1 ⟨rfl, kn⟩
      replace hst := sN hst kn
      clear kn
      go_wp2_with fail
      refine (taken10 (show Look kAs _ (.slice al n0 lcap) l by rw [HN0.out]; exact HL.out.keeps_nil hst.out.keeps)).mono ?_
      rintro _ W2 ⟨t, hv, S1, f, K, rfl, hT, hW, hX, kn⟩
      rw [← HHT.out] at hW hX
      obtain ⟨ab, cl, LA, LN, LC, rfl, hv0, hLv⟩ := hX
      simp only at hW hv0 hLv ⊢
      rw [← HM.out] at hv0 ⊢
      have hX := qH (And.intro hv0 hLv)
      replace hT := qH hT
      replace hW := qH hW
      replace hst := sT hst kn
      clear kn hv0 hLv
      obtain ⟨W3, hW3⟩ := nm (W2.alloc (.cells #[.int .u64 4800, .slice ab M cl, .slice (LA 0) (LN 0) (LC 0), .slice (LA 1) (LN 1) (LC 1), .slice (LA 2) (LN 2) (LC 2), .slice (LA 3) (LN 3) (LC 3), .slice (LA 4) (LN 4) (LC 4), .slice (LA 5) (LN 5) (LC 5), .slice (LA 6) (LN 6) (LC 6), .slice (LA 7) (LN 7) (LC 7)] 30))
      obtain ⟨B1, eB1⟩ := nm (W2.heap.size)
      go_wp2_with fail
      rw [← hW3.out]
      try rw [← eB1.out]
      have k1 := kA hW3
      have e0B1 := eB1.out
      have hB1 := zB hW3 (Bx.new hT.out.lt _ _ e0B1)
      have gB1 := gZ e0B1 hst
      replace hst := sN hst k1
      replace hX := qH (And.intro (hX.out.1.keeps_nil k1) (fun c hc => (hX.out.2 c hc).keeps_nil k1))
      replace hT := qH (hT.out.nil k1)
      clear k1 e0B1
      refine (Take_not (n := 8) (a := 16) hT.out hW.out HT.out (by decide) rfl rfl (takeV_own HO.out)).mono ?_
      rintro _ W4 ⟨rfl, f2, S2, K2, hT2, hW2, kn⟩
      replace hst := sT hst kn
      replace hX := qH (And.intro (hX.out.1.steps kn) (fun c hc => (hX.out.2 c hc).steps kn))
      replace hB1 := bS hB1 kn
      replace hT := qH hT2
      replace hW := qH hW2
      clear kn hT2 hW2
      go_wp2_with fail
      refine (Take_not (n := 8) (a := 24) hT.out hW.out HT.out (by decide) rfl rfl (by rw [takeV_no (by decide) (by decide) (by rw [none_24]; decide), none_24])).mono ?_
      rintro _ W5 ⟨rfl, f3, S3, K3, hT2, hW2, kn⟩
      replace hst := sT hst kn
      replace hX := qH (And.intro (hX.out.1.steps kn) (fun c hc => (hX.out.2 c hc).steps kn))
      replace hB1 := bS hB1 kn
      replace hT := qH hT2
      replace hW := qH hW2
      clear kn hT2 hW2
      go_wp2_with fail
      refine (Take_not (n := 8) (a := 8192) hT.out hW.out HT.out (by decide) rfl rfl (by rw [takeV_no (by decide) (by decide) (by rw [none_8192]; decide), none_8192])).mono ?_
      rintro _ W6 ⟨rfl, f4, S4, K4, hT2, hW2, kn⟩
      replace hst := sT hst kn
      replace hX := qH (And.intro (hX.out.1.steps kn) (fun c hc => (hX.out.2 c hc).steps kn))
      replace hB1 := bS hB1 kn
      replace hT := qH hT2
      replace hW := qH hW2
      clear kn hT2 hW2
      go_wp2_with fail
      refine (Take_not (n := nb) (a := 16) hT.out hW.out HT.out (by decide) rfl rfl (by rw [takeV_no (by decide) (by decide) (by rw [none_big HNB.out]; decide), none_big HNB.out])).mono ?_
      rintro _ W7 ⟨rfl, f5, S5, K5, hT2, hW2, kn⟩
      replace hst := sT hst kn
      replace hX := qH (And.intro (hX.out.1.steps kn) (fun c hc => (hX.out.2 c hc).steps kn))
      replace hB1 := bS hB1 kn
      replace hT := qH hT2
      replace hW := qH hW2
      clear kn hT2 hW2
      have c_B1_0 := cB hB1 0
      have c_B1_1 := cB hB1 1
      have c_B1_2 := cB hB1 2
      have c_B1_3 := cB hB1 3
      have c_B1_4 := cB hB1 4
      have c_B1_5 := cB hB1 5
      have c_B1_6 := cB hB1 6
      have c_B1_7 := cB hB1 7
      have c_B1_8 := cB hB1 8
      have c_B1_9 := cB hB1 9
      have l_B1 := hB1.out.lt
      go_wp2_with fail
      clear c_B1_0 c_B1_1 c_B1_2 c_B1_3 c_B1_4 c_B1_5 c_B1_6 c_B1_7 c_B1_8 c_B1_9 l_B1
      refine (sound10 (h := (H, Ls)) hT.out hW.out HT.out (by decide) ⟨ab, cl, LA, LN, LC, (by rw [HM.out]; rfl), (by rw [← HM.out]; exact hX.out.1), hX.out.2⟩).mono ?_
      rintro _ W8 ⟨rfl, kn⟩
      replace hst := sN hst kn
      replace hX := qH (And.intro (hX.out.1.keeps_nil kn) (fun c hc => (hX.out.2 c hc).keeps_nil kn))
      replace hT := qH (hT.out.nil kn)
      replace hB1 := bN hB1 kn
      clear kn
      go_wp2_with fail
      go_ret
      exact ⟨rfl, hst.out.keeps⟩
    · have hd0 : decide (ow < 0) = false := decide_eq_false h0
      have hd8 : decide (8 < ow) = false := decide_eq_false h8
      rcases some_8 (H := H) with hcd | hcd
      · have HCD := qH hcd
        clear hcd
        have hst := qH (Step.refl Nil w)
        go_enter Tryz.func16, Tryz.ntmps16
        go_wp2_with fail
        refine (awake10 _).mono ?_
        rintro _ W1 ⟨rfl, kn⟩
        replace hst := sN hst kn
        clear kn
        go_wp2_with fail
        refine (taken10 (show Look kAs _ (.slice al n0 lcap) l by rw [HN0.out]; exact HL.out.keeps_nil hst.out.keeps)).mono ?_
        rintro _ W2 ⟨t, hv, S1, f, K, rfl, hT, hW, hX, kn⟩
        rw [← HHT.out] at hW hX
        obtain ⟨ab, cl, LA, LN, LC, rfl, hv0, hLv⟩ := hX
        simp only at hW hv0 hLv ⊢
        rw [← HM.out] at hv0 ⊢
        have hX := qH (And.intro hv0 hLv)
        replace hT := qH hT
        replace hW := qH hW
        replace hst := sT hst kn
        clear kn hv0 hLv
        obtain ⟨W3, hW3⟩ := nm (W2.alloc (.cells #[.int .u64 4800, .slice ab M cl, .slice (LA 0) (LN 0) (LC 0), .slice (LA 1) (LN 1) (LC 1), .slice (LA 2) (LN 2) (LC 2), .slice (LA 3) (LN 3) (LC 3), .slice (LA 4) (LN 4) (LC 4), .slice (LA 5) (LN 5) (LC 5), .slice (LA 6) (LN 6) (LC 6), .slice (LA 7) (LN 7) (LC 7)] 30))
        obtain ⟨B1, eB1⟩ := nm (W2.heap.size)
        go_wp2_with fail
        rw [← hW3.out]
        try rw [← eB1.out]
        have k1 := kA hW3
        have e0B1 := eB1.out
        have hB1 := zB hW3 (Bx.new hT.out.lt _ _ e0B1)
        have gB1 := gZ e0B1 hst
        replace hst := sN hst k1
        replace hX := qH (And.intro (hX.out.1.keeps_nil k1) (fun c hc => (hX.out.2 c hc).keeps_nil k1))
        replace hT := qH (hT.out.nil k1)
        clear k1 e0B1
        refine (Take_told (n := 8) (a := 16) hT.out hW.out HT.out (by decide) rfl rfl ((takeV_code (by omega) (by omega)).trans HCD.out)).mono ?_
        rintro _ W4 ⟨p, rfl, f2, S2, hT2, kn⟩
        replace hst := sT hst kn
        replace hB1 := bS hB1 kn
        replace hT := qH hT2
        clear kn hT2 hX hW
        go_wp2_with fail
        go_ret
        exact ⟨rfl, hst.out.keeps⟩
      · have HCD := qH hcd
        clear hcd
        have hst := qH (Step.refl Nil w)
        go_enter Tryz.func16, Tryz.ntmps16
        go_wp2_with fail
        refine (awake10 _).mono ?_
        rintro _ W1 ⟨rfl, kn⟩
        replace hst := sN hst kn
        clear kn
        go_wp2_with fail
        refine (taken10 (show Look kAs _ (.slice al n0 lcap) l by rw [HN0.out]; exact HL.out.keeps_nil hst.out.keeps)).mono ?_
        rintro _ W2 ⟨t, hv, S1, f, K, rfl, hT, hW, hX, kn⟩
        rw [← HHT.out] at hW hX
        obtain ⟨ab, cl, LA, LN, LC, rfl, hv0, hLv⟩ := hX
        simp only at hW hv0 hLv ⊢
        rw [← HM.out] at hv0 ⊢
        have hX := qH (And.intro hv0 hLv)
        replace hT := qH hT
        replace hW := qH hW
        replace hst := sT hst kn
        clear kn hv0 hLv
        obtain ⟨W3, hW3⟩ := nm (W2.alloc (.cells #[.int .u64 4800, .slice ab M cl, .slice (LA 0) (LN 0) (LC 0), .slice (LA 1) (LN 1) (LC 1), .slice (LA 2) (LN 2) (LC 2), .slice (LA 3) (LN 3) (LC 3), .slice (LA 4) (LN 4) (LC 4), .slice (LA 5) (LN 5) (LC 5), .slice (LA 6) (LN 6) (LC 6), .slice (LA 7) (LN 7) (LC 7)] 30))
        obtain ⟨B1, eB1⟩ := nm (W2.heap.size)
        go_wp2_with fail
        rw [← hW3.out]
        try rw [← eB1.out]
        have k1 := kA hW3
        have e0B1 := eB1.out
        have hB1 := zB hW3 (Bx.new hT.out.lt _ _ e0B1)
        have gB1 := gZ e0B1 hst
        replace hst := sN hst k1
        replace hX := qH (And.intro (hX.out.1.keeps_nil k1) (fun c hc => (hX.out.2 c hc).keeps_nil k1))
        replace hT := qH (hT.out.nil k1)
        clear k1 e0B1
        refine (Take_told (n := 8) (a := 16) hT.out hW.out HT.out (by decide) rfl rfl ((takeV_code (by omega) (by omega)).trans HCD.out)).mono ?_
        rintro _ W4 ⟨p, rfl, f2, S2, hT2, kn⟩
        replace hst := sT hst kn
        replace hB1 := bS hB1 kn
        replace hT := qH hT2
        clear kn hT2 hX hW
        go_wp2_with fail
        go_ret
        exact ⟨rfl, hst.out.keeps⟩
end
section
open Go.ChangeShapes Go.WideShapes Go.ChangeAt Go.RowKit Go.Deep Go.Joins
theorem carveNone_lifted (os : Os) (started : os.Started) (H : Type) (enc : TypeId × Value → H) :
  ReturnsInHanded {} Tryz.checked os 16 .any (Rows.carveNoneSpec.pre6 enc Tryz.prog Tryz.f16 Rows.carveNoneRow.domain false) (Rows.carveNoneSpec.post enc Tryz.prog Tryz.f16 false true false false) := by
 refine returnsInHanded_of_change (C := Tryz.checked) prog_own started (by kernel_rfl) Tryz.func16
  (ChangeSpec.witness6 (enc := enc) (C := Tryz.checked) false ⟨#[], #[.slice none 0 0, .int .i64 0, .int .u64 0], []⟩ 8 (by kernel_rfl) (by kernel_rfl) (by kernel_rfl) (by kernel_rfl)) ?_
 intro W base args ds gs before hval0 hW hcnd _
 have hval : ∀ (j : Nat) t v, Tryz.f16.params[j]? = some t → args[j]? = some v → Value.okWide Tryz.prog W .any base t v := hval0
 have hW' := hW
 obtain ⟨p, q, hA0, hV, rfl, hfz, hnd⟩ := hW
 have hA : DataW.TrodAll enc Tryz.prog W 0 (fun _ => true) true Tryz.f16.params.toList args.toList ds p := hA0
 rw [Tryz.params16] at hA hval
 obtain ⟨v0, v1, v2, d0, d1, d2, p0, p1, p2, rfl, rfl, rfl, h0, h1, h2⟩ := trodAll_three hA
 obtain ⟨rfl, rfl⟩ := trodVars_none hV
 have s0 : v0.cells.toList = [v0] := by obtain ⟨_, _, _, rfl⟩ := okWide_slice Tryz.underlying90 (hval 0 90 v0 rfl rfl); rfl
 obtain ⟨l0, k0⟩ := open_look (K := kAs) Tryz.underlying90 (by kernel_rfl) dec_ask h0 s0
 obtain ⟨n1, rfl, rfl, rfl, w1⟩ := open_int Tryz.underlying3 (hval 1 3 v1 rfl rfl) h1
 obtain ⟨n2, rfl, rfl, rfl, w2⟩ := open_int Tryz.underlying25 (hval 2 25 v2 rfl rfl) h2
 obtain ⟨u2, rfl⟩ := u64_some w2
 simp only [List.append_nil] at hW'
 refine (carveNone_any n1 u2 k0).mono fun e W' ⟨he, hK⟩ => ?_
 subst he
 exact ⟨_, rfl, row_post prog_laid (by first | exact hW' | simpa using hW') rfl (by kernel_rfl) (by kernel_rfl) Tryz.underlying4 rfl hK⟩
theorem carveNone_holds : Rows.CarveNoneSaid :=
 OpenClaim.holds_of_wide 16 Tryz.f16 rfl rfl rfl rfl rfl rfl rfl ⟨rfl, rfl, rfl, rfl, rfl⟩ rfl rfl rfl rfl rfl (by kernel_rfl) Tryz.func16 (joined_of (by kernel_rfl))
  (of_decide_eq_true (by kernel_rfl)) (by unfold Func.isWrapper; rw [if_neg (by decide +kernel)]; exact ⟨rfl, rfl⟩)
  (fun os started H enc _ => carveNone_lifted os started H enc)
end
end Go.Proofs.YtefpbljekfkefaaGreat
