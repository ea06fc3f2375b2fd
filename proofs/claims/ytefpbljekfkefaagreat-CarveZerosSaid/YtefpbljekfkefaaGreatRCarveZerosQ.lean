/- W10z, RCarveZeros: written short. -/
import Derived.Test.YtefpbljekfkefaaGreatS28
import Derived.Test.YtefpbljekfkefaaGreatS29
import Derived.Test.YtefpbljekfkefaaGreatS01
import Derived.Test.YtefpbljekfkefaaGreatS10
import Derived.Test.YtefpbljekfkefaaGreatS04
set_option maxRecDepth 100000
set_option maxHeartbeats 8000000
namespace Go.Proofs.YtefpbljekfkefaaGreat
section
open Go.RowKit PT
theorem carveZeros_any {w : World} {vp vl : Value} {lp : List Put} {l : List AskV} (hp : Look kP w vp lp) (hl : Look kAs w vl l) :
    Calls Tryz.prog 17 #[vp, vl] w fun e w' => e = .returned (.bool true) ∧ Keeps Nil w w' := by
  obtain ⟨ap, pcap, rfl, hpm⟩ := hp.val
  obtain ⟨al, lcap, rfl, hlm⟩ := hl.val
  have HP := qH hp
  have HL := qH hl
  obtain ⟨n1, hn1⟩ : ∃ n, n = lp.length := ⟨_, rfl⟩
  obtain ⟨n2, hn2⟩ : ∃ n, n = l.length := ⟨_, rfl⟩
  have hn1m : n1 ≤ 9223372036854775807 := by rw [hn1]; unfold maxLen at hpm; omega
  have hn2m : n2 ≤ 9223372036854775807 := by rw [hn2]; unfold maxLen at hlm; omega
  rw [← hn1, ← hn2]
  have HN1 := qH hn1
  have HN2 := qH hn2
  obtain ⟨N1, hN1⟩ : ∃ n, n = min n1 40 := ⟨_, rfl⟩
  obtain ⟨N2, hN2⟩ : ∃ n, n = min n2 20 := ⟨_, rfl⟩
  have HM1 := qH hN1
  have HM2 := qH hN2
  clear hp hl hpm hlm hn1 hn2 hN1 hN2
  have hst := qH (Step.refl Nil w)
  go_enter Tryz.func17, Tryz.ntmps17
  go_wp2_with fail
  refine (awake10 _).mono ?_
  rintro _ W1 ⟨rfl, kn⟩
  replace hst := sN hst kn
  clear kn
  go_wp2_with fail
  refine (formedN10 _).mono ?_
  rintro _ W2 ⟨t, xb, xo, xc, xa, xd, S1, rfl, hT, kn⟩
  replace hT := qH hT
  replace hst := sT hst kn
  clear kn
  obtain ⟨W3, hW3⟩ := nm (W2.alloc (.cells #[.slice (some ⟨xb, xo, none⟩) 600 xc, .slice xa 0 xd] 71))
  obtain ⟨B1, eB1⟩ := nm (W2.heap.size)
  go_wp2_with fail
  rw [← hW3.out]
  try rw [← eB1.out]
  have k1 := kA hW3
  have e0B1 := eB1.out
  have hB1 := zB hW3 (Bx.new hT.out.lt _ _ e0B1)
  have gB1 := gZ e0B1 hst
  replace hst := sN hst k1
  replace hT := qH (hT.out.nil k1)
  clear k1 e0B1
  clear hB1
  go_wp2_with fail
  go_loopw [8] (fun i wr => ∃ (k : Nat) (Sa : Nat → Prop) (f : UInt64 → UInt64), k ≤ N1 ∧ i = .int .i64 (k : Int) ∧ Hid (Step Nil Sa w wr) ∧ Hid (TxF wr t f 4800 Sa) ∧ Hid (∀ o : UInt64, (o.toNat < 3800 ∨ 4792 ≤ o.toNat) → f o = f48 o)) (fun i _ => N1 - (intOf i).toNat)
  case atStart => exact ⟨0, _, _, Nat.zero_le _, rfl, hst, hT, qH (fun _ _ => rfl)⟩
  case round =>
    clear hst hT
    obtain ⟨k, Sa, f, hk, rfl, hst, hT, HF0⟩ := hrel
    by_cases hlt : k < N1
    · have hM1 := HM1.out
      have hkn : k < n1 := by omega
      have hk40 : (k : Int) < 40 := by omega
      have hk40n : k < 40 := by omega
      obtain ⟨gb, go, cap, e1, hcp, hcm, hgb, _, hcell⟩ : ∃ gb go cap, (.slice ap n1 pcap : Value) = .slice (some ⟨gb, go, none⟩) n1 cap ∧ n1 ≤ cap ∧ cap ≤ maxLen ∧ gb < w.heap.size ∧ True ∧ ∀ i j, j < kP.size → i < lp.length → w.cell? ⟨gb, go + (i * kP.size + j), none⟩ = (lp[i]?).bind (fun x => (kP.enc x)[j]?) := by
        rcases HP.out with h | ⟨_, h⟩
        · obtain ⟨gb, go, cap, e1, h1, h2, h3, _, h4⟩ := h.pos (by rw [← HN1.out]; omega)
          rw [← HN1.out] at e1 h1
          exact ⟨gb, go, cap, e1, h1, h2, h3, trivial, h4⟩
        · have := HN1.out; rw [h] at this; simp at this; omega
      simp only [Value.slice.injEq] at e1
      obtain ⟨rfl, _, rfl⟩ := e1
      obtain ⟨⟨po, pv⟩, hx⟩ : ∃ x, lp[k]? = some x := ⟨lp[k]'(by rw [← HN1.out]; exact hkn), by simp⟩
      have HX := qH hx
      have HLT := qH hlt
      have HC := qH hcell
      have HGB := qH hgb
      clear hcm hcell hgb hx hM1
      by_cases p1 : 3800 ≤ po.toNat
      · by_cases p2 : po.toNat < 4792
        · skip
          have d1 : decide (3800 ≤ po.toNat) = true := decide_eq_true (p1)
          have d2 : decide (po.toNat < 4792) = true := decide_eq_true (p2)
          have e_p0 := eX hst HGB (View.cellP HC.out k _ HX.out).1
          have e_p1 := eX hst HGB (View.cellP HC.out k _ HX.out).2
          have l_gb := Nat.lt_of_lt_of_le HGB.out hst.out.keeps.size
          go_wp2_with fail
          clear e_p0 e_p1 l_gb
          obtain ⟨W4, hW4⟩ := nm (wr.drew)
          have kn := kD hW4
          replace hst := sN hst kn
          replace hT := qH (hT.out.nil kn)
          clear kn
          refine wp_region_held_drew (S := fun w' => w'.cell? ⟨gb, go + k * 2, none⟩ = some (.int .u64 (po.toNat : Int)) ∧ w'.cell? ⟨gb, go + k * 2 + 1, none⟩ = some (.int .u64 (pv.toNat : Int))) (by kernel_rfl) (by rw [← hW4.out]; exact ⟨eX hst HGB (View.cellP HC.out k _ HX.out).1, (hst.out.keeps.cell HGB.out (fun e => e) _).trans (View.cellP HC.out k _ HX.out).2⟩) (fun hHeld => ?_)
          rw [← hW4.out] at hHeld ⊢
          refine fT 0 rfl hHeld ?_
          try simp only [Act.put, List.getElem_toArray, List.getElem_cons_zero, List.setIfInBounds_toArray, List.set_cons_zero, List.set_cons_succ]
          refine fT 1 rfl hHeld ?_; try simp only [sP,sQ]
          refine fT 2 rfl hHeld ?_; try simp only [sP,sQ]
          refine fT 3 rfl hHeld ?_; try simp only [sP,sQ]
          refine fT 4 rfl hHeld ?_; try simp only [sP,sQ]
          refine fT 5 rfl hHeld ?_; try simp only [sP,sQ]
          refine fT 6 rfl hHeld ?_; try simp only [sP,sQ]
          refine fT 7 rfl hHeld ?_; try simp only [sP,sQ]
          refine fT 8 rfl hHeld ?_; try simp only [sP,sQ]
          refine fT 9 rfl hHeld ?_; try simp only [sP,sQ]
          refine fT 10 rfl hHeld ?_; try simp only [sP,sQ]
          refine wpAnyH_ready (rs := [11]) (by kernel_rfl) (by simp) ?_
          refine (AllReadyH.cons (o := _) rfl (fun K hK => ?_) AllReadyH.nil)
          go_simp
          refine (hT.out.store po pv _ _ rfl rfl).mono ?_
          rintro _ W5 ⟨rfl, S1, hT2, kn⟩
          replace hst := sT hst kn
          replace hT := qH hT2
          clear kn hT2
          refine hK.out _ _ (⟨eX hst HGB (View.cellP HC.out k _ HX.out).1, (hst.out.keeps.cell HGB.out (fun e => e) _).trans (View.cellP HC.out k _ HX.out).2⟩) (fun hHeld => ?_)
          clear hK K
          try simp only [sP,sQ]
          refine fD ?_
          clear hHeld
          have e_p0 := eX hst HGB (View.cellP HC.out k _ HX.out).1
          have e_p1 := eX hst HGB (View.cellP HC.out k _ HX.out).2
          have l_gb := Nat.lt_of_lt_of_le HGB.out hst.out.keeps.size
          go_wp2_with fail
          clear e_p0 e_p1 l_gb
          go_roundw
          case rel => exact ⟨k + 1, _, _, by have := HLT.out; omega, by go_num, hst, hT, (qH (fun o ho => (stF_other 4800 f pv (fun e => by rw [e] at ho; omega)).trans (HF0.out o ho)))⟩
          case measure => simp [intOf]; have := HLT.out; omega
        · skip
          have d1 : decide (3800 ≤ po.toNat) = true := decide_eq_true (p1)
          have d2 : decide (po.toNat < 4792) = false := decide_eq_false (p2)
          have e_p0 := eX hst HGB (View.cellP HC.out k _ HX.out).1
          have e_p1 := eX hst HGB (View.cellP HC.out k _ HX.out).2
          have l_gb := Nat.lt_of_lt_of_le HGB.out hst.out.keeps.size
          go_wp2_with fail
          clear e_p0 e_p1 l_gb
          go_roundw
          case rel => exact ⟨k + 1, _, _, by have := HLT.out; omega, by go_num, hst, hT, HF0⟩
          case measure => simp [intOf]; have := HLT.out; omega
      · skip
        have d1 : decide (3800 ≤ po.toNat) = false := decide_eq_false (p1)
        have e_p0 := eX hst HGB (View.cellP HC.out k _ HX.out).1
        have e_p1 := eX hst HGB (View.cellP HC.out k _ HX.out).2
        have l_gb := Nat.lt_of_lt_of_le HGB.out hst.out.keeps.size
        go_wp2_with fail
        clear e_p0 e_p1 l_gb
        go_roundw
        case rel => exact ⟨k + 1, _, _, by have := HLT.out; omega, by go_num, hst, hT, HF0⟩
        case measure => simp [intOf]; have := HLT.out; omega
    · have hkN : k = N1 := by omega
      have hM1 := HM1.out
      have hW := qH (init_like HF0.out)
      have HTI := qH init_tile
      have hd : ¬ (k < n1 ∧ k < 40) := by omega
      clear HF0
      by_cases hkn : k < n1
      · have hk40 : ¬ (k : Int) < 40 := by omega
        have hk40n : ¬ k < 40 := by omega
        clear hd hM1 hkN
        go_wp2_with fail
        go_wp2_with fail
        go_loopw [9] (fun i wr => ∃ (k : Nat) (Sa : Nat → Prop) (f : UInt64 → UInt64) (K : UInt64 → UInt64 → Prop) (H : List BlockV) (Ls : Nat → List UInt64), k ≤ N2 ∧ i = .int .i64 (k : Int) ∧ Hid (Step Nil Sa w wr) ∧ Hid (TxF wr t f 4800 Sa) ∧ Hid (Wd f 4800 H Ls K) ∧ Hid (Tile 3776 H 4800)) (fun i _ => N2 - (intOf i).toNat)
        case atStart => exact ⟨0, _, _, _, _, _, Nat.zero_le _, rfl, hst, hT, hW, HTI⟩
        case round =>
          clear hst hT hW HTI
          obtain ⟨k, Sa, f, K, H, Ls, hk, rfl, hst, hT, hW, HTI⟩ := hrel
          by_cases hlt : k < N2
          · have hM2 := HM2.out
            have hkn : k < n2 := by omega
            have hk20 : (k : Int) < 20 := by omega
            have hk20n : k < 20 := by omega
            obtain ⟨gb, go, cap, e1, hcp, hcm, hgb, _, hcell⟩ : ∃ gb go cap, (.slice al n2 lcap : Value) = .slice (some ⟨gb, go, none⟩) n2 cap ∧ n2 ≤ cap ∧ cap ≤ maxLen ∧ gb < w.heap.size ∧ True ∧ ∀ i j, j < kAs.size → i < l.length → w.cell? ⟨gb, go + (i * kAs.size + j), none⟩ = (l[i]?).bind (fun x => (kAs.enc x)[j]?) := by
              rcases HL.out with h | ⟨_, h⟩
              · obtain ⟨gb, go, cap, e1, h1, h2, h3, _, h4⟩ := h.pos (by rw [← HN2.out]; omega)
                rw [← HN2.out] at e1 h1
                exact ⟨gb, go, cap, e1, h1, h2, h3, trivial, h4⟩
              · have := HN2.out; rw [h] at this; simp at this; omega
            simp only [Value.slice.injEq] at e1
            obtain ⟨rfl, _, rfl⟩ := e1
            obtain ⟨⟨qo, qa, qn⟩, hx⟩ : ∃ x, l[k]? = some x := ⟨l[k]'(by rw [← HN2.out]; exact hkn), by simp⟩
            have HX := qH hx
            have HLT := qH hlt
            have HCL := qH hcell
            have HGB := qH hgb
            obtain ⟨o, ho⟩ : ∃ x, x = qo.toNat % 9 := ⟨_, rfl⟩
            obtain ⟨n, hn⟩ : ∃ x, x = askN (qo, qa, qn) := ⟨_, rfl⟩
            obtain ⟨s, hs⟩ : ∃ x, x = qa.toNat % 4 := ⟨_, rfl⟩
            obtain ⟨a, ha⟩ : ∃ x, x = askA (qo, qa, qn) := ⟨_, rfl⟩
            have hs4 : s ≤ 3 := by omega
            have enn : n.toNat = qn.toNat % 300 := by rw [hn]; exact askN_nat _
            have ean : a.toNat = 16 * 2 ^ s := by rw [ha, hs]; exact askA_nat _
            have q_a0 : (16 : Int) * 2 ^ s = (a.toNat : Int) := by rw [ean]; simp
            have q_a : IntKind.u64.wrap ((16 : Int) * 2 ^ s) = (a.toNat : Int) := by rw [q_a0]; exact IntWalk.u64_in _ (by have := a.toNat_lt; omega)
            clear q_a0 ean
            have q_o : (qo.toNat : Int) % 9 = (o : Int) := by omega
            have q_n : (qn.toNat : Int) % 300 = (n.toNat : Int) := by omega
            have q_s : (qa.toNat : Int) % 4 = (s : Int) := by omega
            have q_w1 : IntKind.i64.wrap (o : Int) = (o : Int) := IntWalk.i64_in _ (by omega)
            have q_w2 : IntKind.u64.wrap (n.toNat : Int) = (n.toNat : Int) := IntWalk.u64_in _ (by omega)
            have q_w3 : IntKind.u64.wrap (s : Int) = (s : Int) := IntWalk.u64_in _ (by omega)
            have ho8 : (o : Int) ≤ 8 := by omega
            clear ho hn hs ha enn hcm hcell hgb hx hM2
            rcases fitC_cases H n a with hc | ⟨hc, j, b, hj, hb, hal, hnb, hfb⟩
            · obtain ⟨cd, hcd⟩ : ∃ x, x = fitC H n a := ⟨_, rfl⟩
              have d3 : (cd != 0) = true := by rw [hcd]; exact bne_iff_ne.2 hc
              have HC := qH hc
              have HCD := qH hcd
              clear hc hcd
              have e_q0 := eX hst HGB (cellAs HCL.out k _ HX.out).1
              have e_q1 := eX hst HGB (cellAs HCL.out k _ HX.out).2.1
              have e_q2 := eX hst HGB (cellAs HCL.out k _ HX.out).2.2
              have l_gb := Nat.lt_of_lt_of_le HGB.out hst.out.keeps.size
              go_wp2_with fail
              clear e_q0 e_q1 e_q2 l_gb
              refine (Take_not hT.out hW.out HTI.out (by decide) rfl rfl ((takeV_no (by omega) (by omega) HC.out).trans (congrArg (fun z => ((H, Ls), (0 : UInt64), z)) HCD.out.symm))).mono ?_
              rintro _ W4 ⟨rfl, f2, S2, K2, hT2, hW2, kn⟩
              replace hst := sT hst kn
              replace hT := qH hT2
              replace hW := qH hW2
              clear kn hT2 hW2
              have e_q0 := eX hst HGB (cellAs HCL.out k _ HX.out).1
              have e_q1 := eX hst HGB (cellAs HCL.out k _ HX.out).2.1
              have e_q2 := eX hst HGB (cellAs HCL.out k _ HX.out).2.2
              have l_gb := Nat.lt_of_lt_of_le HGB.out hst.out.keeps.size
              go_wp2_with fail
              clear e_q0 e_q1 e_q2 l_gb
              go_roundw
              case rel => exact ⟨k + 1, _, _, _, H, Ls, by have := HLT.out; omega, by go_num, hst, hT, hW, HTI⟩
              case measure => simp [intOf]; have := HLT.out; omega
            · have hZ : CutB 4800 H j b n a := ⟨hb, hfb, hal, hnb, HTI.out, Nat.le_refl _⟩
              have hu := used_facts hZ (owner := (o : Int)) (by omega) ho8
              have htl := hZ.tile' (owner := (o : Int)) (by omega) ho8
              obtain ⟨uo, us, hub⟩ : ∃ uo us, (⟨uo, ⟨us, true, (o : Int)⟩, n⟩ : BlockV) = usedB b n a (o : Int) := ⟨_, _, rfl⟩
              obtain ⟨H2, hH2⟩ : ∃ x, x = takeB H j b n a (o : Int) := ⟨_, rfl⟩
              rw [← hub, ← hH2] at hu
              rw [← hH2] at htl
              simp only at hu
              obtain ⟨u1, u2, u3, u4, u5, u6⟩ := hu
              obtain ⟨p, hpp⟩ : ∃ x : UInt64, x = uo + 32 := ⟨_, rfl⟩
              rw [← hpp] at u2 u3
              obtain ⟨Ls2, hLs2⟩ : ∃ x, x = updO Ls (⟨uo, ⟨us, true, (o : Int)⟩, n⟩ : BlockV) := ⟨_, rfl⟩
              obtain ⟨K2, hK2⟩ : ∃ x, x = zeroK (⟨uo, ⟨us, true, (o : Int)⟩, n⟩ : BlockV) K := ⟨_, rfl⟩
              obtain ⟨nw, hnw⟩ : ∃ x, x = wordsN n := ⟨_, rfl⟩
              rw [← hnw] at u4
              have hn8 : n.toNat ≤ 8 * nw := by rw [hnw]; unfold wordsN; omega
              obtain ⟨pn, hpn⟩ : ∃ x : UInt64, x = p + n := ⟨_, rfl⟩
              obtain ⟨bz, hbz⟩ : ∃ x : UInt64, x = uo + us := ⟨_, rfl⟩
              obtain ⟨b8, hb8⟩ : ∃ x : UInt64, x = bz - 8 := ⟨_, rfl⟩
              have q_pn : IntKind.u64.wrap ((p.toNat : Int) + (n.toNat : Int)) = (pn.toNat : Int) := by rw [hpn]; exact u64_add p n
              have q_bz : IntKind.u64.wrap ((uo.toNat : Int) + (us.toNat : Int)) = (bz.toNat : Int) := by rw [hbz]; exact u64_add uo us
              have q_b8 : IntKind.u64.wrap ((bz.toNat : Int) - 8) = (b8.toNat : Int) := by rw [hb8]; exact u64_sub bz 8
              have v1 : pn.toNat = p.toNat + n.toNat := by rw [hpn, UInt64.toNat_add]; omega
              have v2 : bz.toNat = uo.toNat + us.toNat := by rw [hbz, UInt64.toNat_add]; omega
              have v3 : b8.toNat = bz.toNat - 8 := by rw [hb8, UInt64.toNat_sub_of_le _ _ (by rw [UInt64.le_iff_toNat_le]; show 8 ≤ bz.toNat; omega)]; rfl
              have hle : ¬ b8.toNat < pn.toNat := by omega
              have t0 : ¬ (a.toNat : Int) = 0 := by omega
              have q_pa : (p.toNat : Int) % (a.toNat : Int) = 0 := by rw [emod_nat, u3]; rfl
              have q_pt : IntKind.u64.wrap ((p.toNat : Int).tmod (a.toNat : Int)) = 0 := by rw [tmod_nat, u3]; rfl
              have hnwm : nw ≤ 600 := by omega
              have hpx : p.toNat + 8 * nw ≤ 4800 := by omega
              have hp0 : p.toNat = uo.toNat + 32 := u2
              have HZ := qH hZ
              have HJ := qH hj
              have HUB := qH hub
              have HH2 := qH hH2
              have HP0 := qH hpp
              have HPP := qH hpp
              have HLS := qH hLs2
              have HK2 := qH hK2
              have HNW := qH hnw
              have HUM := qH u1
              have HTL2 := qH htl
              have HU3 := qH (And.intro hp0 hpx)
              clear hZ hc hj hb hal hnb hfb hub hH2 hpp hLs2 hK2 hnw u1 htl hpn hbz hb8 v1 v2 v3 u2 u3 u4 u5 u6 hn8 hp0 hpx
              have e_q0 := eX hst HGB (cellAs HCL.out k _ HX.out).1
              have e_q1 := eX hst HGB (cellAs HCL.out k _ HX.out).2.1
              have e_q2 := eX hst HGB (cellAs HCL.out k _ HX.out).2.2
              have l_gb := Nat.lt_of_lt_of_le HGB.out hst.out.keeps.size
              go_wp2_with fail
              clear e_q0 e_q1 e_q2 l_gb
              have hTk := Take_ok hT.out hW.out HZ.out HJ.out (show (0 : Int) ≤ (o : Int) by omega) (by omega)
              rw [← HUB.out, ← HH2.out, ← HP0.out, ← HLS.out, ← HK2.out] at hTk
              refine (hTk).mono ?_
              clear hTk
              rintro _ W4 ⟨rfl, f2, S2, hT2, hW2, kn⟩
              replace hst := sT hst kn
              replace hT := qH hT2
              replace hW := qH hW2
              clear kn hT2 hW2
              have e_q0 := eX hst HGB (cellAs HCL.out k _ HX.out).1
              have e_q1 := eX hst HGB (cellAs HCL.out k _ HX.out).2.1
              have e_q2 := eX hst HGB (cellAs HCL.out k _ HX.out).2.2
              have l_gb := Nat.lt_of_lt_of_le HGB.out hst.out.keeps.size
              go_wp2_with fail
              clear e_q0 e_q1 e_q2 l_gb
              refine (Find_is hT.out hW.out HTL2.out (by decide) HUM.out HPP.out).mono ?_
              rintro _ W5 ⟨rfl, kn⟩
              replace hst := sN hst kn
              replace hT := qH (hT.out.nil kn)
              clear kn
              have d1 : decide (b8.toNat < pn.toNat) = false := decide_eq_false (hle)
              have e_q0 := eX hst HGB (cellAs HCL.out k _ HX.out).1
              have e_q1 := eX hst HGB (cellAs HCL.out k _ HX.out).2.1
              have e_q2 := eX hst HGB (cellAs HCL.out k _ HX.out).2.2
              have l_gb := Nat.lt_of_lt_of_le HGB.out hst.out.keeps.size
              obtain ⟨W6, hW6⟩ := nm (W5.alloc (.cells #[.int .u64 (uo.toNat : Int), .int .u64 (us.toNat : Int), .bool true, .int .i64 (o : Int), .int .u64 (n.toNat : Int)] 37))
              obtain ⟨B2, eB2⟩ := nm (W5.heap.size)
              go_wp2_with fail
              clear e_q0 e_q1 e_q2 l_gb
              rw [← hW6.out]
              try rw [← eB2.out]
              have k2 := kA hW6
              have e0B2 := eB2.out
              have hB2 := zB hW6 (Bx.new hT.out.lt _ _ e0B2)
              have gB2 := gZ e0B2 hst
              replace hst := sN hst k2
              replace hT := qH (hT.out.nil k2)
              clear k2 e0B2
              clear q_pa q_pt
              go_wp2_with fail
              go_loopw [16] (fun iw wr => (∃ x : UInt64, x.toNat ≤ nw ∧ iw = .int .u64 (x.toNat : Int) ∧ Hid (Step Nil S2 w wr) ∧ Hid (TxF wr t f2 4800 S2)) ∧ Hid (Bx wr S2 B2 #[.int .u64 (uo.toNat : Int), .int .u64 (us.toNat : Int), .bool true, .int .i64 (o : Int), .int .u64 (n.toNat : Int)] 37)) (fun iw _ => nw - (intOf iw).toNat)
              case atStart => exact ⟨⟨0, by show (0 : Nat) ≤ nw; omega, rfl, hst, hT⟩, hB2⟩
              case round =>
                clear hB2
                obtain ⟨hrel, hB2⟩ := hrel
                clear hst hT
                obtain ⟨x, hxw, rfl, hst, hT⟩ := hrel
                by_cases hx : x.toNat < nw
                · have hxi : (x.toNat : Int) < (nw : Int) := by omega
                  obtain ⟨x8, hx8⟩ : ∃ y : UInt64, y = 8 * x := ⟨_, rfl⟩
                  obtain ⟨px, hpx⟩ : ∃ y : UInt64, y = p + x8 := ⟨_, rfl⟩
                  obtain ⟨x1, hx1⟩ : ∃ y : UInt64, y = x + 1 := ⟨_, rfl⟩
                  have q_x8 : IntKind.u64.wrap (8 * (x.toNat : Int)) = (x8.toNat : Int) := by rw [hx8]; exact u64_mul 8 x
                  have q_px : IntKind.u64.wrap ((p.toNat : Int) + (x8.toNat : Int)) = (px.toNat : Int) := by rw [hpx]; exact u64_add p x8
                  have q_x1 : IntKind.u64.wrap ((x.toNat : Int) + 1) = (x1.toNat : Int) := by rw [hx1]; exact u64_add x 1
                  have e8 : x8.toNat = 8 * x.toNat := by rw [hx8, UInt64.toNat_mul, show (8 : UInt64).toNat = 8 from rfl]; omega
                  have ep : px.toNat = p.toNat + 8 * x.toNat := by have := HU3.out.2; rw [hpx, UInt64.toNat_add, e8]; omega
                  have ex1 : x1.toNat = x.toNat + 1 := by rw [hx1, UInt64.toNat_add, show (1 : UInt64).toNat = 1 from rfl]; omega
                  have HL0 := qH (show f2 px = 0 from (hW.out.kept px 0 (by rw [HK2.out]; exact .inr ⟨rfl, x.toNat, (by show x.toNat < wordsN n; rw [← HNW.out]; exact hx), (by show px.toNat = uo.toNat + 32 + 8 * x.toNat; have := HU3.out.1; omega)⟩)).1)
                  have HX1 := qH (And.intro hx ex1)
                  clear hx8 hpx hx1 e8 ep ex1
                  go_wp2_with fail
                  refine (rWords_any _ n).mono ?_
                  rintro _ _ ⟨rfl, rfl⟩
                  rw [← HNW.out]
                  go_wp2_with fail
                  refine (hT.out.reads.loadC px _ rfl).mono ?_
                  rintro _ W8 ⟨rfl, kn⟩
                  rw [HL0.out, show ((0 : UInt64).toNat : Int) = 0 from rfl]
                  replace hst := sN hst kn
                  replace hT := qH (hT.out.nil kn)
                  replace hB2 := bN hB2 kn
                  clear kn
                  go_wp2_with fail
                  go_roundw
                  case rel => exact ⟨⟨x1, by have := HX1.out; omega, rfl, hst, hT⟩, hB2⟩
                  case measure => simp [intOf]; have := HX1.out; omega
                · have hxi : ¬ (x.toNat : Int) < (nw : Int) := by omega
                  go_wp2_with fail
                  refine (rWords_any _ n).mono ?_
                  rintro _ _ ⟨rfl, rfl⟩
                  rw [← HNW.out]
                  go_wp2_with fail
                  go_roundw
                  case rel => exact ⟨k + 1, _, _, _, H2, Ls2, by have := HLT.out; omega, by go_num, hst, hT, hW, HTL2⟩
                  case measure => simp [intOf]; have := HLT.out; omega
          · have hkN : k = N2 := by omega
            have hM2 := HM2.out
            have hd : ¬ (k < n2 ∧ k < 20) := by omega
            by_cases hkn : k < n2
            · have hk20 : ¬ (k : Int) < 20 := by omega
              have hk20n : ¬ k < 20 := by omega
              clear hd hM2 hkN
              go_wp2_with fail
              go_ret
              exact ⟨rfl, hst.out.keeps⟩
            · skip
              go_wp2_with fail
              go_ret
              exact ⟨rfl, hst.out.keeps⟩
      · skip
        go_wp2_with fail
        go_wp2_with fail
        go_loopw [9] (fun i wr => ∃ (k : Nat) (Sa : Nat → Prop) (f : UInt64 → UInt64) (K : UInt64 → UInt64 → Prop) (H : List BlockV) (Ls : Nat → List UInt64), k ≤ N2 ∧ i = .int .i64 (k : Int) ∧ Hid (Step Nil Sa w wr) ∧ Hid (TxF wr t f 4800 Sa) ∧ Hid (Wd f 4800 H Ls K) ∧ Hid (Tile 3776 H 4800)) (fun i _ => N2 - (intOf i).toNat)
        case atStart => exact ⟨0, _, _, _, _, _, Nat.zero_le _, rfl, hst, hT, hW, HTI⟩
        case round =>
          clear hst hT hW HTI
          obtain ⟨k, Sa, f, K, H, Ls, hk, rfl, hst, hT, hW, HTI⟩ := hrel
          by_cases hlt : k < N2
          · have hM2 := HM2.out
            have hkn : k < n2 := by omega
            have hk20 : (k : Int) < 20 := by omega
            have hk20n : k < 20 := by omega
            obtain ⟨gb, go, cap, e1, hcp, hcm, hgb, _, hcell⟩ : ∃ gb go cap, (.slice al n2 lcap : Value) = .slice (some ⟨gb, go, none⟩) n2 cap ∧ n2 ≤ cap ∧ cap ≤ maxLen ∧ gb < w.heap.size ∧ True ∧ ∀ i j, j < kAs.size → i < l.length → w.cell? ⟨gb, go + (i * kAs.size + j), none⟩ = (l[i]?).bind (fun x => (kAs.enc x)[j]?) := by
              rcases HL.out with h | ⟨_, h⟩
              · obtain ⟨gb, go, cap, e1, h1, h2, h3, _, h4⟩ := h.pos (by rw [← HN2.out]; omega)
                rw [← HN2.out] at e1 h1
                exact ⟨gb, go, cap, e1, h1, h2, h3, trivial, h4⟩
              · have := HN2.out; rw [h] at this; simp at this; omega
            simp only [Value.slice.injEq] at e1
            obtain ⟨rfl, _, rfl⟩ := e1
            obtain ⟨⟨qo, qa, qn⟩, hx⟩ : ∃ x, l[k]? = some x := ⟨l[k]'(by rw [← HN2.out]; exact hkn), by simp⟩
            have HX := qH hx
            have HLT := qH hlt
            have HCL := qH hcell
            have HGB := qH hgb
            obtain ⟨o, ho⟩ : ∃ x, x = qo.toNat % 9 := ⟨_, rfl⟩
            obtain ⟨n, hn⟩ : ∃ x, x = askN (qo, qa, qn) := ⟨_, rfl⟩
            obtain ⟨s, hs⟩ : ∃ x, x = qa.toNat % 4 := ⟨_, rfl⟩
            obtain ⟨a, ha⟩ : ∃ x, x = askA (qo, qa, qn) := ⟨_, rfl⟩
            have hs4 : s ≤ 3 := by omega
            have enn : n.toNat = qn.toNat % 300 := by rw [hn]; exact askN_nat _
            have ean : a.toNat = 16 * 2 ^ s := by rw [ha, hs]; exact askA_nat _
            have q_a0 : (16 : Int) * 2 ^ s = (a.toNat : Int) := by rw [ean]; simp
            have q_a : IntKind.u64.wrap ((16 : Int) * 2 ^ s) = (a.toNat : Int) := by rw [q_a0]; exact IntWalk.u64_in _ (by have := a.toNat_lt; omega)
            clear q_a0 ean
            have q_o : (qo.toNat : Int) % 9 = (o : Int) := by omega
            have q_n : (qn.toNat : Int) % 300 = (n.toNat : Int) := by omega
            have q_s : (qa.toNat : Int) % 4 = (s : Int) := by omega
            have q_w1 : IntKind.i64.wrap (o : Int) = (o : Int) := IntWalk.i64_in _ (by omega)
            have q_w2 : IntKind.u64.wrap (n.toNat : Int) = (n.toNat : Int) := IntWalk.u64_in _ (by omega)
            have q_w3 : IntKind.u64.wrap (s : Int) = (s : Int) := IntWalk.u64_in _ (by omega)
            have ho8 : (o : Int) ≤ 8 := by omega
            clear ho hn hs ha enn hcm hcell hgb hx hM2
            rcases fitC_cases H n a with hc | ⟨hc, j, b, hj, hb, hal, hnb, hfb⟩
            · obtain ⟨cd, hcd⟩ : ∃ x, x = fitC H n a := ⟨_, rfl⟩
              have d3 : (cd != 0) = true := by rw [hcd]; exact bne_iff_ne.2 hc
              have HC := qH hc
              have HCD := qH hcd
              clear hc hcd
              have e_q0 := eX hst HGB (cellAs HCL.out k _ HX.out).1
              have e_q1 := eX hst HGB (cellAs HCL.out k _ HX.out).2.1
              have e_q2 := eX hst HGB (cellAs HCL.out k _ HX.out).2.2
              have l_gb := Nat.lt_of_lt_of_le HGB.out hst.out.keeps.size
              go_wp2_with fail
              clear e_q0 e_q1 e_q2 l_gb
              refine (Take_not hT.out hW.out HTI.out (by decide) rfl rfl ((takeV_no (by omega) (by omega) HC.out).trans (congrArg (fun z => ((H, Ls), (0 : UInt64), z)) HCD.out.symm))).mono ?_
              rintro _ W4 ⟨rfl, f2, S2, K2, hT2, hW2, kn⟩
              replace hst := sT hst kn
              replace hT := qH hT2
              replace hW := qH hW2
              clear kn hT2 hW2
              have e_q0 := eX hst HGB (cellAs HCL.out k _ HX.out).1
              have e_q1 := eX hst HGB (cellAs HCL.out k _ HX.out).2.1
              have e_q2 := eX hst HGB (cellAs HCL.out k _ HX.out).2.2
              have l_gb := Nat.lt_of_lt_of_le HGB.out hst.out.keeps.size
              go_wp2_with fail
              clear e_q0 e_q1 e_q2 l_gb
              go_roundw
              case rel => exact ⟨k + 1, _, _, _, H, Ls, by have := HLT.out; omega, by go_num, hst, hT, hW, HTI⟩
              case measure => simp [intOf]; have := HLT.out; omega
            · have hZ : CutB 4800 H j b n a := ⟨hb, hfb, hal, hnb, HTI.out, Nat.le_refl _⟩
              have hu := used_facts hZ (owner := (o : Int)) (by omega) ho8
              have htl := hZ.tile' (owner := (o : Int)) (by omega) ho8
              obtain ⟨uo, us, hub⟩ : ∃ uo us, (⟨uo, ⟨us, true, (o : Int)⟩, n⟩ : BlockV) = usedB b n a (o : Int) := ⟨_, _, rfl⟩
              obtain ⟨H2, hH2⟩ : ∃ x, x = takeB H j b n a (o : Int) := ⟨_, rfl⟩
              rw [← hub, ← hH2] at hu
              rw [← hH2] at htl
              simp only at hu
              obtain ⟨u1, u2, u3, u4, u5, u6⟩ := hu
              obtain ⟨p, hpp⟩ : ∃ x : UInt64, x = uo + 32 := ⟨_, rfl⟩
              rw [← hpp] at u2 u3
              obtain ⟨Ls2, hLs2⟩ : ∃ x, x = updO Ls (⟨uo, ⟨us, true, (o : Int)⟩, n⟩ : BlockV) := ⟨_, rfl⟩
              obtain ⟨K2, hK2⟩ : ∃ x, x = zeroK (⟨uo, ⟨us, true, (o : Int)⟩, n⟩ : BlockV) K := ⟨_, rfl⟩
              obtain ⟨nw, hnw⟩ : ∃ x, x = wordsN n := ⟨_, rfl⟩
              rw [← hnw] at u4
              have hn8 : n.toNat ≤ 8 * nw := by rw [hnw]; unfold wordsN; omega
              obtain ⟨pn, hpn⟩ : ∃ x : UInt64, x = p + n := ⟨_, rfl⟩
              obtain ⟨bz, hbz⟩ : ∃ x : UInt64, x = uo + us := ⟨_, rfl⟩
              obtain ⟨b8, hb8⟩ : ∃ x : UInt64, x = bz - 8 := ⟨_, rfl⟩
              have q_pn : IntKind.u64.wrap ((p.toNat : Int) + (n.toNat : Int)) = (pn.toNat : Int) := by rw [hpn]; exact u64_add p n
              have q_bz : IntKind.u64.wrap ((uo.toNat : Int) + (us.toNat : Int)) = (bz.toNat : Int) := by rw [hbz]; exact u64_add uo us
              have q_b8 : IntKind.u64.wrap ((bz.toNat : Int) - 8) = (b8.toNat : Int) := by rw [hb8]; exact u64_sub bz 8
              have v1 : pn.toNat = p.toNat + n.toNat := by rw [hpn, UInt64.toNat_add]; omega
              have v2 : bz.toNat = uo.toNat + us.toNat := by rw [hbz, UInt64.toNat_add]; omega
              have v3 : b8.toNat = bz.toNat - 8 := by rw [hb8, UInt64.toNat_sub_of_le _ _ (by rw [UInt64.le_iff_toNat_le]; show 8 ≤ bz.toNat; omega)]; rfl
              have hle : ¬ b8.toNat < pn.toNat := by omega
              have t0 : ¬ (a.toNat : Int) = 0 := by omega
              have q_pa : (p.toNat : Int) % (a.toNat : Int) = 0 := by rw [emod_nat, u3]; rfl
              have q_pt : IntKind.u64.wrap ((p.toNat : Int).tmod (a.toNat : Int)) = 0 := by rw [tmod_nat, u3]; rfl
              have hnwm : nw ≤ 600 := by omega
              have hpx : p.toNat + 8 * nw ≤ 4800 := by omega
              have hp0 : p.toNat = uo.toNat + 32 := u2
              have HZ := qH hZ
              have HJ := qH hj
              have HUB := qH hub
              have HH2 := qH hH2
              have HP0 := qH hpp
              have HPP := qH hpp
              have HLS := qH hLs2
              have HK2 := qH hK2
              have HNW := qH hnw
              have HUM := qH u1
              have HTL2 := qH htl
              have HU3 := qH (And.intro hp0 hpx)
              clear hZ hc hj hb hal hnb hfb hub hH2 hpp hLs2 hK2 hnw u1 htl hpn hbz hb8 v1 v2 v3 u2 u3 u4 u5 u6 hn8 hp0 hpx
              have e_q0 := eX hst HGB (cellAs HCL.out k _ HX.out).1
              have e_q1 := eX hst HGB (cellAs HCL.out k _ HX.out).2.1
              have e_q2 := eX hst HGB (cellAs HCL.out k _ HX.out).2.2
              have l_gb := Nat.lt_of_lt_of_le HGB.out hst.out.keeps.size
              go_wp2_with fail
              clear e_q0 e_q1 e_q2 l_gb
              have hTk := Take_ok hT.out hW.out HZ.out HJ.out (show (0 : Int) ≤ (o : Int) by omega) (by omega)
              rw [← HUB.out, ← HH2.out, ← HP0.out, ← HLS.out, ← HK2.out] at hTk
              refine (hTk).mono ?_
              clear hTk
              rintro _ W4 ⟨rfl, f2, S2, hT2, hW2, kn⟩
              replace hst := sT hst kn
              replace hT := qH hT2
              replace hW := qH hW2
              clear kn hT2 hW2
              have e_q0 := eX hst HGB (cellAs HCL.out k _ HX.out).1
              have e_q1 := eX hst HGB (cellAs HCL.out k _ HX.out).2.1
              have e_q2 := eX hst HGB (cellAs HCL.out k _ HX.out).2.2
              have l_gb := Nat.lt_of_lt_of_le HGB.out hst.out.keeps.size
              go_wp2_with fail
              clear e_q0 e_q1 e_q2 l_gb
              refine (Find_is hT.out hW.out HTL2.out (by decide) HUM.out HPP.out).mono ?_
              rintro _ W5 ⟨rfl, kn⟩
              replace hst := sN hst kn
              replace hT := qH (hT.out.nil kn)
              clear kn
              have d1 : decide (b8.toNat < pn.toNat) = false := decide_eq_false (hle)
              have e_q0 := eX hst HGB (cellAs HCL.out k _ HX.out).1
              have e_q1 := eX hst HGB (cellAs HCL.out k _ HX.out).2.1
              have e_q2 := eX hst HGB (cellAs HCL.out k _ HX.out).2.2
              have l_gb := Nat.lt_of_lt_of_le HGB.out hst.out.keeps.size
              obtain ⟨W6, hW6⟩ := nm (W5.alloc (.cells #[.int .u64 (uo.toNat : Int), .int .u64 (us.toNat : Int), .bool true, .int .i64 (o : Int), .int .u64 (n.toNat : Int)] 37))
              obtain ⟨B2, eB2⟩ := nm (W5.heap.size)
              go_wp2_with fail
              clear e_q0 e_q1 e_q2 l_gb
              rw [← hW6.out]
              try rw [← eB2.out]
              have k2 := kA hW6
              have e0B2 := eB2.out
              have hB2 := zB hW6 (Bx.new hT.out.lt _ _ e0B2)
              have gB2 := gZ e0B2 hst
              replace hst := sN hst k2
              replace hT := qH (hT.out.nil k2)
              clear k2 e0B2
              clear q_pa q_pt
              go_wp2_with fail
              go_loopw [16] (fun iw wr => (∃ x : UInt64, x.toNat ≤ nw ∧ iw = .int .u64 (x.toNat : Int) ∧ Hid (Step Nil S2 w wr) ∧ Hid (TxF wr t f2 4800 S2)) ∧ Hid (Bx wr S2 B2 #[.int .u64 (uo.toNat : Int), .int .u64 (us.toNat : Int), .bool true, .int .i64 (o : Int), .int .u64 (n.toNat : Int)] 37)) (fun iw _ => nw - (intOf iw).toNat)
              case atStart => exact ⟨⟨0, by show (0 : Nat) ≤ nw; omega, rfl, hst, hT⟩, hB2⟩
              case round =>
                clear hB2
                obtain ⟨hrel, hB2⟩ := hrel
                clear hst hT
                obtain ⟨x, hxw, rfl, hst, hT⟩ := hrel
                by_cases hx : x.toNat < nw
                · have hxi : (x.toNat : Int) < (nw : Int) := by omega
                  obtain ⟨x8, hx8⟩ : ∃ y : UInt64, y = 8 * x := ⟨_, rfl⟩
                  obtain ⟨px, hpx⟩ : ∃ y : UInt64, y = p + x8 := ⟨_, rfl⟩
                  obtain ⟨x1, hx1⟩ : ∃ y : UInt64, y = x + 1 := ⟨_, rfl⟩
                  have q_x8 : IntKind.u64.wrap (8 * (x.toNat : Int)) = (x8.toNat : Int) := by rw [hx8]; exact u64_mul 8 x
                  have q_px : IntKind.u64.wrap ((p.toNat : Int) + (x8.toNat : Int)) = (px.toNat : Int) := by rw [hpx]; exact u64_add p x8
                  have q_x1 : IntKind.u64.wrap ((x.toNat : Int) + 1) = (x1.toNat : Int) := by rw [hx1]; exact u64_add x 1
                  have e8 : x8.toNat = 8 * x.toNat := by rw [hx8, UInt64.toNat_mul, show (8 : UInt64).toNat = 8 from rfl]; omega
                  have ep : px.toNat = p.toNat + 8 * x.toNat := by have := HU3.out.2; rw [hpx, UInt64.toNat_add, e8]; omega
                  have ex1 : x1.toNat = x.toNat + 1 := by rw [hx1, UInt64.toNat_add, show (1 : UInt64).toNat = 1 from rfl]; omega
                  have HL0 := qH (show f2 px = 0 from (hW.out.kept px 0 (by rw [HK2.out]; exact .inr ⟨rfl, x.toNat, (by show x.toNat < wordsN n; rw [← HNW.out]; exact hx), (by show px.toNat = uo.toNat + 32 + 8 * x.toNat; have := HU3.out.1; omega)⟩)).1)
                  have HX1 := qH (And.intro hx ex1)
                  clear hx8 hpx hx1 e8 ep ex1
                  go_wp2_with fail
                  refine (rWords_any _ n).mono ?_
                  rintro _ _ ⟨rfl, rfl⟩
                  rw [← HNW.out]
                  go_wp2_with fail
                  refine (hT.out.reads.loadC px _ rfl).mono ?_
                  rintro _ W8 ⟨rfl, kn⟩
                  rw [HL0.out, show ((0 : UInt64).toNat : Int) = 0 from rfl]
                  replace hst := sN hst kn
                  replace hT := qH (hT.out.nil kn)
                  replace hB2 := bN hB2 kn
                  clear kn
                  go_wp2_with fail
                  go_roundw
                  case rel => exact ⟨⟨x1, by have := HX1.out; omega, rfl, hst, hT⟩, hB2⟩
                  case measure => simp [intOf]; have := HX1.out; omega
                · have hxi : ¬ (x.toNat : Int) < (nw : Int) := by omega
                  go_wp2_with fail
                  refine (rWords_any _ n).mono ?_
                  rintro _ _ ⟨rfl, rfl⟩
                  rw [← HNW.out]
                  go_wp2_with fail
                  go_roundw
                  case rel => exact ⟨k + 1, _, _, _, H2, Ls2, by have := HLT.out; omega, by go_num, hst, hT, hW, HTL2⟩
                  case measure => simp [intOf]; have := HLT.out; omega
          · have hkN : k = N2 := by omega
            have hM2 := HM2.out
            have hd : ¬ (k < n2 ∧ k < 20) := by omega
            by_cases hkn : k < n2
            · have hk20 : ¬ (k : Int) < 20 := by omega
              have hk20n : ¬ k < 20 := by omega
              clear hd hM2 hkN
              go_wp2_with fail
              go_ret
              exact ⟨rfl, hst.out.keeps⟩
            · skip
              go_wp2_with fail
              go_ret
              exact ⟨rfl, hst.out.keeps⟩
end
section
open Go.ChangeShapes Go.WideShapes Go.ChangeAt Go.RowKit Go.Deep Go.Joins
theorem carveZeros_lifted (os : Os) (started : os.Started) (H : Type) (enc : TypeId × Value → H) :
  ReturnsInHanded {} Tryz.checked os 17 .any (Rows.carveZerosSpec.pre6 enc Tryz.prog Tryz.f17 Rows.carveZerosRow.domain false) (Rows.carveZerosSpec.post enc Tryz.prog Tryz.f17 false true false false) := by
 refine returnsInHanded_of_change (C := Tryz.checked) prog_own started (by kernel_rfl) Tryz.func17
  (ChangeSpec.witness6 (enc := enc) (C := Tryz.checked) false ⟨#[], #[.slice none 0 0, .slice none 0 0], []⟩ 8 (by kernel_rfl) (by kernel_rfl) (by kernel_rfl) (by kernel_rfl)) ?_
 intro W base args ds gs before hval0 hW hcnd _
 have hval : ∀ (j : Nat) t v, Tryz.f17.params[j]? = some t → args[j]? = some v → Value.okWide Tryz.prog W .any base t v := hval0
 have hW' := hW
 obtain ⟨p, q, hA0, hV, rfl, hfz, hnd⟩ := hW
 have hA : DataW.TrodAll enc Tryz.prog W 0 (fun _ => true) true Tryz.f17.params.toList args.toList ds p := hA0
 rw [Tryz.params17] at hA hval
 obtain ⟨v0, v1, d0, d1, p0, p1, rfl, rfl, rfl, h0, h1⟩ := trodAll_two hA
 obtain ⟨rfl, rfl⟩ := trodVars_none hV
 have s0 : v0.cells.toList = [v0] := by obtain ⟨_, _, _, rfl⟩ := okWide_slice Tryz.underlying69 (hval 0 69 v0 rfl rfl); rfl
 obtain ⟨l0, k0⟩ := open_look (K := kP) Tryz.underlying69 (by kernel_rfl) dec_put h0 s0
 have s1 : v1.cells.toList = [v1] := by obtain ⟨_, _, _, rfl⟩ := okWide_slice Tryz.underlying90 (hval 1 90 v1 rfl rfl); rfl
 obtain ⟨l1, k1⟩ := open_look (K := kAs) Tryz.underlying90 (by kernel_rfl) dec_ask h1 s1
 simp only [List.append_nil] at hW'
 refine (carveZeros_any k0 k1).mono fun e W' ⟨he, hK⟩ => ?_
 subst he
 exact ⟨_, rfl, row_post prog_laid (by first | exact hW' | simpa using hW') rfl (by kernel_rfl) (by kernel_rfl) Tryz.underlying4 rfl hK⟩
theorem carveZeros_holds : Rows.CarveZerosSaid :=
 OpenClaim.holds_of_wide 17 Tryz.f17 rfl rfl rfl rfl rfl rfl rfl ⟨rfl, rfl, rfl, rfl, rfl⟩ rfl rfl rfl rfl rfl (by kernel_rfl) Tryz.func17 (joined_of (by kernel_rfl))
  (of_decide_eq_true (by kernel_rfl)) (by unfold Func.isWrapper; rw [if_neg (by decide +kernel)]; exact ⟨rfl, rfl⟩)
  (fun os started H enc _ => carveZeros_lifted os started H enc)
end
end Go.Proofs.YtefpbljekfkefaaGreat
