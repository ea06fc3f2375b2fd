/- W10b, RCarveBest: written short. -/
import Derived.Test.YtefpbljekfkefaaGreatS28
import Derived.Test.YtefpbljekfkefaaGreatS29
import Derived.Test.YtefpbljekfkefaaGreatS01
import Derived.Test.YtefpbljekfkefaaGreatS10
import Derived.Test.YtefpbljekfkefaaGreatS04
set_option maxRecDepth 100000
set_option maxHeartbeats 8000000
namespace Go.Proofs.YtefpbljekfkefaaGreat
section
open Go.RowKit PT
section
variable {need m : UInt64} {b : BlockV}
theorem leastS_used (h : b.tag.used = true) : leastS need m b = m := if_neg (fun e => by rw [h] at e; exact absurd e.1 (by decide))
theorem leastS_small (h : ¬ need.toNat ≤ b.tag.size.toNat) : leastS need m b = m := if_neg (fun e => h e.2.1)
theorem leastS_keep (h1 : ¬ m = 0) (h2 : ¬ b.tag.size.toNat < m.toNat) : leastS need m b = m := if_neg (fun e => e.2.2.elim h1 h2)
theorem leastS_yes (h0 : b.tag.used = false) (h1 : need.toNat ≤ b.tag.size.toNat) (h2 : m = 0 ∨ b.tag.size.toNat < m.toNat) : leastS need m b = b.tag.size := if_pos ⟨h0, h1, h2⟩
end
theorem read_of {E : Nat} {H : List BlockV} {f : UInt64 → UInt64} {b : BlockV} (hl : Lay E H) (hb : b ∈ H) (ht : Tagged f b) (h16 : (f 16).toNat = E) : readB f b.off = true ∧ readT f b.off = b.tag := by
 obtain ⟨h1, h2⟩ := one_of hl hb ht h16
 unfold oneB at h1
 rw [Bool.and_eq_true] at h1
 exact ⟨h1.1, congrArg BlockV.tag h2⟩
theorem carveBest_u {w : World} {vl : Value} {l : List AskV} (v : UInt64) (hv : v.toNat ≤ 65535) (hl : Look kAs w vl l) :
    Calls Tryz.prog 15 #[vl, .int .u16 (v.toNat : Int)] w fun e w' => e = .returned (.bool true) ∧ Keeps Nil w w' := by
  obtain ⟨al, lcap, rfl, hlm⟩ := hl.val
  have HL := qH hl
  obtain ⟨⟨H, Ls⟩, hh⟩ : ∃ h, h = takenV l := ⟨_, rfl⟩
  have htl := takenV_tile l
  rw [← hh] at htl
  have HT := qH htl
  have HHT := qH hh
  obtain ⟨M, hM⟩ : ∃ x, x = H.length := ⟨_, rfl⟩
  have hlen : 3776 + 48 * H.length ≤ 4800 := htl.len
  have hM6 : M ≤ 65535 := by omega
  have HM := qH hM
  obtain ⟨n0, hn0⟩ : ∃ x, x = l.length := ⟨_, rfl⟩
  have HN0 := qH hn0
  rw [← hn0]
  clear hl hlm hh htl hM hlen hn0
  obtain ⟨nd, hnd⟩ : ∃ x, x = needU v := ⟨_, rfl⟩
  have hnb : needB v = true := by unfold needB; exact decide_eq_true (by omega)
  have HNB := qH hnb
  have HB := qH (fun w => rNeed_any w v _ rfl)
  rw [hnb, ← hnd] at HB
  have HND := qH hnd
  have q_v : IntKind.u64.wrap (v.toNat : Int) = (v.toNat : Int) := IntWalk.u64_in _ (by omega)
  clear hnd hnb
  have hst := qH (Step.refl Nil w)
  go_enter Tryz.func15, Tryz.ntmps15
  go_wp2_with fail
  refine (awake10 _).mono ?_
  rintro _ W1 ⟨rfl, kn⟩
  replace hst := sN hst kn
  clear kn
  go_wp2_with fail
  refine (taken10 (show Look kAs _ (.slice al n0 lcap) l by rw [HN0.out]; exact HL.out.keeps_nil hst.out.keeps)).mono ?_
  rintro _ W2 ⟨t, hv, S1, f, K, rfl, hT, hW, hX, kn⟩
  rw [← HHT.out] at hW hX
  obtain ⟨ab, cl, LA, LN, LC, rfl, hv0, hLv⟩ := hX
  simp only at hW hv0 hLv ⊢
  rw [← HM.out] at hv0 ⊢
  have hMp : 0 < M := by rw [HM.out]; exact hW.ne HT.out
  obtain ⟨gb, go, cap, e1, hcp, hcm, hgb, _, hcell⟩ := hv0.pos (by rw [← HM.out]; omega)
  rw [← HM.out] at e1 hcp
  simp only [Value.slice.injEq] at e1
  obtain ⟨rfl, _, rfl⟩ := e1
  obtain ⟨WT, hWT⟩ : ∃ W, W = W2 := ⟨_, rfl⟩
  have HCX := qH (show ∀ i j, j < kRB.size → i < H.length → WT.cell? ⟨gb, go + (i * kRB.size + j), none⟩ = (H[i]?).bind (fun x => (kRB.enc x)[j]?) by rw [hWT]; exact hcell)
  have HGB := qH (show gb < WT.heap.size by rw [hWT]; exact hgb)
  have hkT := qH (show Keeps Nil WT W2 by rw [hWT]; exact Keeps.refl Nil _)
  clear hcm hgb hcell hWT
  clear hMp
  have hX := qH (And.intro hv0 hLv)
  replace hT := qH hT
  replace hW := qH hW
  replace hst := sT hst kn
  clear kn hv0 hLv
  obtain ⟨W3, hW3⟩ := nm (W2.alloc (.cells #[.int .u64 4800, .slice (some ⟨gb, go, none⟩) M cl, .slice (LA 0) (LN 0) (LC 0), .slice (LA 1) (LN 1) (LC 1), .slice (LA 2) (LN 2) (LC 2), .slice (LA 3) (LN 3) (LC 3), .slice (LA 4) (LN 4) (LC 4), .slice (LA 5) (LN 5) (LC 5), .slice (LA 6) (LN 6) (LC 6), .slice (LA 7) (LN 7) (LC 7)] 30))
  obtain ⟨B1, eB1⟩ := nm (W2.heap.size)
  go_wp2_with fail
  rw [← hW3.out]
  try rw [← eB1.out]
  have k1 := kA hW3
  have e0B1 := eB1.out
  have hB1 := zB hW3 (Bx.new hT.out.lt _ _ e0B1)
  have gB1 := gZ e0B1 hst
  replace hst := sN hst k1
  replace hX := qH (And.intro (hX.out.1.keeps_nil k1) (fun c hc => (hX.out.2 c hc).keeps_nil k1))
  replace hkT := qH (hkT.out.trans' k1)
  replace hT := qH (hT.out.nil k1)
  clear k1 e0B1
  refine (HB.out _).mono ?_
  rintro _ _ ⟨rfl, rfl⟩
  go_wp2_with fail
  clear hX
  go_wp2_with fail
  go_loopw [11, 12] (fun least i wr => (∃ (k : Nat) (m : UInt64), k ≤ M ∧ least = .int .u64 (m.toNat : Int) ∧ i = .int .i64 (k : Int) ∧ Hid (m = leastV nd (H.take k)) ∧ Hid (Step Nil S1 w wr) ∧ Hid (TxF wr t f 4800 S1) ∧ Hid (Keeps Nil WT wr)) ∧ Hid (Bx wr S1 B1 #[.int .u64 4800, .slice (some ⟨gb, go, none⟩) M cl, .slice (LA 0) (LN 0) (LC 0), .slice (LA 1) (LN 1) (LC 1), .slice (LA 2) (LN 2) (LC 2), .slice (LA 3) (LN 3) (LC 3), .slice (LA 4) (LN 4) (LC 4), .slice (LA 5) (LN 5) (LC 5), .slice (LA 6) (LN 6) (LC 6), .slice (LA 7) (LN 7) (LC 7)] 30)) (fun least i _ => M - (intOf i).toNat)
  case atStart => exact ⟨⟨0, 0, Nat.zero_le _, rfl, rfl, qH (by rw [List.take_zero]; rfl), hst, hT, hkT⟩, hB1⟩
  case round =>
    clear hB1
    obtain ⟨hrel, hB1⟩ := hrel
    clear hst hT hkT
    obtain ⟨k, m, hk, rfl, rfl, HLV, hst, hT, hkT⟩ := hrel
    by_cases hlt : k < M
    · obtain ⟨⟨bo, ⟨bs, bu, bw⟩, bl⟩, hx⟩ : ∃ x, H[k]? = some x := ⟨H[k]'(by rw [← HM.out]; exact hlt), by simp⟩
      have HX := qH hx
      have HLT := qH hlt
      clear hx
      cases bu with
      | true =>
        skip
        have c_B1_1 := cB hB1 1
        have l_B1 := hB1.out.lt
        have e_x0 := (hkT.out.cell HGB.out (fun e => e) _).trans (View.cellB HCX.out k _ HX.out).1
        have e_x1 := (hkT.out.cell HGB.out (fun e => e) _).trans (View.cellB HCX.out k _ HX.out).2.1
        have e_x2 := (hkT.out.cell HGB.out (fun e => e) _).trans (View.cellB HCX.out k _ HX.out).2.2.1
        have e_x3 := (hkT.out.cell HGB.out (fun e => e) _).trans (View.cellB HCX.out k _ HX.out).2.2.2.1
        have e_x4 := (hkT.out.cell HGB.out (fun e => e) _).trans (View.cellB HCX.out k _ HX.out).2.2.2.2
        have l_gb := Nat.lt_of_lt_of_le HGB.out hkT.out.size
        obtain ⟨W5, hW5⟩ := nm (wr.alloc (.cells #[.int .u64 (bo.toNat : Int), .int .u64 (bs.toNat : Int), .bool true, .int .i64 bw, .int .u64 (bl.toNat : Int)] 63))
        obtain ⟨B2, eB2⟩ := nm (wr.heap.size)
        go_wp2_with fail
        clear c_B1_1 l_B1 e_x0 e_x1 e_x2 e_x3 e_x4 l_gb
        rw [← hW5.out]
        try rw [← eB2.out]
        have k2 := kA hW5
        have e0B2 := eB2.out
        have hB2 := zB hW5 (Bx.new hT.out.lt _ _ e0B2)
        have gB2 := gZ e0B2 hst
        have nB1B2 := nZ e0B2 hB1
        replace hst := sN hst k2
        replace hkT := qH (hkT.out.trans' k2)
        replace hT := qH (hT.out.nil k2)
        replace hB1 := bN hB1 k2
        clear k2 e0B2
        go_roundw
        case rel => exact ⟨⟨k + 1, m, by have := HLT.out; omega, rfl, by go_num, qH (by rw [leastV_step HX.out, ← HLV.out]; symm; exact leastS_used rfl), hst, hT, hkT⟩, hB1⟩
        case measure => simp [intOf]; have := HLT.out; omega
      | false =>
        by_cases c1 : nd.toNat ≤ bs.toNat
        · by_cases c2 : m = 0
          · skip
            have d1 : decide (nd.toNat ≤ bs.toNat) = true := decide_eq_true (c1)
            have d2 : (((m.toNat : Int) : Int) == (0 : Int)) = true := (same_u64 (a := m) (b := 0) (c2)).2
            have c_B1_1 := cB hB1 1
            have l_B1 := hB1.out.lt
            have e_x0 := (hkT.out.cell HGB.out (fun e => e) _).trans (View.cellB HCX.out k _ HX.out).1
            have e_x1 := (hkT.out.cell HGB.out (fun e => e) _).trans (View.cellB HCX.out k _ HX.out).2.1
            have e_x2 := (hkT.out.cell HGB.out (fun e => e) _).trans (View.cellB HCX.out k _ HX.out).2.2.1
            have e_x3 := (hkT.out.cell HGB.out (fun e => e) _).trans (View.cellB HCX.out k _ HX.out).2.2.2.1
            have e_x4 := (hkT.out.cell HGB.out (fun e => e) _).trans (View.cellB HCX.out k _ HX.out).2.2.2.2
            have l_gb := Nat.lt_of_lt_of_le HGB.out hkT.out.size
            obtain ⟨W5, hW5⟩ := nm (wr.alloc (.cells #[.int .u64 (bo.toNat : Int), .int .u64 (bs.toNat : Int), .bool false, .int .i64 bw, .int .u64 (bl.toNat : Int)] 63))
            obtain ⟨B2, eB2⟩ := nm (wr.heap.size)
            go_wp2_with fail
            clear c_B1_1 l_B1 e_x0 e_x1 e_x2 e_x3 e_x4 l_gb
            rw [← hW5.out]
            try rw [← eB2.out]
            have k2 := kA hW5
            have e0B2 := eB2.out
            have hB2 := zB hW5 (Bx.new hT.out.lt _ _ e0B2)
            have gB2 := gZ e0B2 hst
            have nB1B2 := nZ e0B2 hB1
            replace hst := sN hst k2
            replace hkT := qH (hkT.out.trans' k2)
            replace hT := qH (hT.out.nil k2)
            replace hB1 := bN hB1 k2
            clear k2 e0B2
            go_roundw
            case rel => exact ⟨⟨k + 1, bs, by have := HLT.out; omega, rfl, by go_num, qH (by rw [leastV_step HX.out, ← HLV.out]; symm; exact leastS_yes rfl c1 (.inl c2)), hst, hT, hkT⟩, hB1⟩
            case measure => simp [intOf]; have := HLT.out; omega
          · by_cases c3 : bs.toNat < m.toNat
            · skip
              have d1 : decide (nd.toNat ≤ bs.toNat) = true := decide_eq_true (c1)
              have d2 : (((m.toNat : Int) : Int) == (0 : Int)) = false := (unlike_u64 (a := m) (b := 0) (c2)).2
              have d3 : decide (bs.toNat < m.toNat) = true := decide_eq_true (c3)
              have c_B1_1 := cB hB1 1
              have l_B1 := hB1.out.lt
              have e_x0 := (hkT.out.cell HGB.out (fun e => e) _).trans (View.cellB HCX.out k _ HX.out).1
              have e_x1 := (hkT.out.cell HGB.out (fun e => e) _).trans (View.cellB HCX.out k _ HX.out).2.1
              have e_x2 := (hkT.out.cell HGB.out (fun e => e) _).trans (View.cellB HCX.out k _ HX.out).2.2.1
              have e_x3 := (hkT.out.cell HGB.out (fun e => e) _).trans (View.cellB HCX.out k _ HX.out).2.2.2.1
              have e_x4 := (hkT.out.cell HGB.out (fun e => e) _).trans (View.cellB HCX.out k _ HX.out).2.2.2.2
              have l_gb := Nat.lt_of_lt_of_le HGB.out hkT.out.size
              obtain ⟨W5, hW5⟩ := nm (wr.alloc (.cells #[.int .u64 (bo.toNat : Int), .int .u64 (bs.toNat : Int), .bool false, .int .i64 bw, .int .u64 (bl.toNat : Int)] 63))
              obtain ⟨B2, eB2⟩ := nm (wr.heap.size)
              go_wp2_with fail
              clear c_B1_1 l_B1 e_x0 e_x1 e_x2 e_x3 e_x4 l_gb
              rw [← hW5.out]
              try rw [← eB2.out]
              have k2 := kA hW5
              have e0B2 := eB2.out
              have hB2 := zB hW5 (Bx.new hT.out.lt _ _ e0B2)
              have gB2 := gZ e0B2 hst
              have nB1B2 := nZ e0B2 hB1
              replace hst := sN hst k2
              replace hkT := qH (hkT.out.trans' k2)
              replace hT := qH (hT.out.nil k2)
              replace hB1 := bN hB1 k2
              clear k2 e0B2
              go_roundw
              case rel => exact ⟨⟨k + 1, bs, by have := HLT.out; omega, rfl, by go_num, qH (by rw [leastV_step HX.out, ← HLV.out]; symm; exact leastS_yes rfl c1 (.inr c3)), hst, hT, hkT⟩, hB1⟩
              case measure => simp [intOf]; have := HLT.out; omega
            · skip
              have d1 : decide (nd.toNat ≤ bs.toNat) = true := decide_eq_true (c1)
              have d2 : (((m.toNat : Int) : Int) == (0 : Int)) = false := (unlike_u64 (a := m) (b := 0) (c2)).2
              have d3 : decide (bs.toNat < m.toNat) = false := decide_eq_false (c3)
              have c_B1_1 := cB hB1 1
              have l_B1 := hB1.out.lt
              have e_x0 := (hkT.out.cell HGB.out (fun e => e) _).trans (View.cellB HCX.out k _ HX.out).1
              have e_x1 := (hkT.out.cell HGB.out (fun e => e) _).trans (View.cellB HCX.out k _ HX.out).2.1
              have e_x2 := (hkT.out.cell HGB.out (fun e => e) _).trans (View.cellB HCX.out k _ HX.out).2.2.1
              have e_x3 := (hkT.out.cell HGB.out (fun e => e) _).trans (View.cellB HCX.out k _ HX.out).2.2.2.1
              have e_x4 := (hkT.out.cell HGB.out (fun e => e) _).trans (View.cellB HCX.out k _ HX.out).2.2.2.2
              have l_gb := Nat.lt_of_lt_of_le HGB.out hkT.out.size
              obtain ⟨W5, hW5⟩ := nm (wr.alloc (.cells #[.int .u64 (bo.toNat : Int), .int .u64 (bs.toNat : Int), .bool false, .int .i64 bw, .int .u64 (bl.toNat : Int)] 63))
              obtain ⟨B2, eB2⟩ := nm (wr.heap.size)
              go_wp2_with fail
              clear c_B1_1 l_B1 e_x0 e_x1 e_x2 e_x3 e_x4 l_gb
              rw [← hW5.out]
              try rw [← eB2.out]
              have k2 := kA hW5
              have e0B2 := eB2.out
              have hB2 := zB hW5 (Bx.new hT.out.lt _ _ e0B2)
              have gB2 := gZ e0B2 hst
              have nB1B2 := nZ e0B2 hB1
              replace hst := sN hst k2
              replace hkT := qH (hkT.out.trans' k2)
              replace hT := qH (hT.out.nil k2)
              replace hB1 := bN hB1 k2
              clear k2 e0B2
              go_roundw
              case rel => exact ⟨⟨k + 1, m, by have := HLT.out; omega, rfl, by go_num, qH (by rw [leastV_step HX.out, ← HLV.out]; symm; exact leastS_keep c2 c3), hst, hT, hkT⟩, hB1⟩
              case measure => simp [intOf]; have := HLT.out; omega
        · skip
          have d1 : decide (nd.toNat ≤ bs.toNat) = false := decide_eq_false (c1)
          have c_B1_1 := cB hB1 1
          have l_B1 := hB1.out.lt
          have e_x0 := (hkT.out.cell HGB.out (fun e => e) _).trans (View.cellB HCX.out k _ HX.out).1
          have e_x1 := (hkT.out.cell HGB.out (fun e => e) _).trans (View.cellB HCX.out k _ HX.out).2.1
          have e_x2 := (hkT.out.cell HGB.out (fun e => e) _).trans (View.cellB HCX.out k _ HX.out).2.2.1
          have e_x3 := (hkT.out.cell HGB.out (fun e => e) _).trans (View.cellB HCX.out k _ HX.out).2.2.2.1
          have e_x4 := (hkT.out.cell HGB.out (fun e => e) _).trans (View.cellB HCX.out k _ HX.out).2.2.2.2
          have l_gb := Nat.lt_of_lt_of_le HGB.out hkT.out.size
          obtain ⟨W5, hW5⟩ := nm (wr.alloc (.cells #[.int .u64 (bo.toNat : Int), .int .u64 (bs.toNat : Int), .bool false, .int .i64 bw, .int .u64 (bl.toNat : Int)] 63))
          obtain ⟨B2, eB2⟩ := nm (wr.heap.size)
          go_wp2_with fail
          clear c_B1_1 l_B1 e_x0 e_x1 e_x2 e_x3 e_x4 l_gb
          rw [← hW5.out]
          try rw [← eB2.out]
          have k2 := kA hW5
          have e0B2 := eB2.out
          have hB2 := zB hW5 (Bx.new hT.out.lt _ _ e0B2)
          have gB2 := gZ e0B2 hst
          have nB1B2 := nZ e0B2 hB1
          replace hst := sN hst k2
          replace hkT := qH (hkT.out.trans' k2)
          replace hT := qH (hT.out.nil k2)
          replace hB1 := bN hB1 k2
          clear k2 e0B2
          go_roundw
          case rel => exact ⟨⟨k + 1, m, by have := HLT.out; omega, rfl, by go_num, qH (by rw [leastV_step HX.out, ← HLV.out]; symm; exact leastS_small c1), hst, hT, hkT⟩, hB1⟩
          case measure => simp [intOf]; have := HLT.out; omega
    · have hkM : k = M := by omega
      have hls : m = leastV nd H := by rw [HLV.out, hkM, HM.out, List.take_length]
      have hbs := best_is (n := v) (HT.out.lay (Nat.le_refl _)) HNB.out
      rw [← HND.out, ← hls] at hbs
      clear hls
      rcases hbs with ⟨h0, hc⟩ | ⟨h1, hc, j, b, hj, hb, hbu, hbsz, hpd⟩
      · have HC := qH (cFitV_no (H := H) (n := v) (a := 16) (by rw [hc]; decide))
        rw [hc] at HC
        clear hc
        have c_B1_1 := cB hB1 1
        have l_B1 := hB1.out.lt
        go_wp2_with fail
        clear c_B1_1 l_B1
        refine (Fit_any v 16 hT.out.readsK hT.out.lt (HT.out.lay (Nat.le_refl _)) hW.out).mono ?_
        rintro _ W5 ⟨rfl, kn⟩
        rw [HC.out]
        replace hst := sN hst kn
        replace hkT := qH (hkT.out.trans' kn)
        replace hT := qH (hT.out.nil kn)
        replace hB1 := bN hB1 kn
        clear kn
        obtain ⟨W6, hW6⟩ := nm (W5.alloc (.cells #[.int .u64 0, .int .u64 0, .int .u64 0] 57))
        obtain ⟨B2, eB2⟩ := nm (W5.heap.size)
        go_wp2_with fail
        rw [← hW6.out]
        try rw [← eB2.out]
        have k2 := kA hW6
        have e0B2 := eB2.out
        have hB2 := zB hW6 (Bx.new hT.out.lt _ _ e0B2)
        have gB2 := gZ e0B2 hst
        have nB1B2 := nZ e0B2 hB1
        replace hst := sN hst k2
        replace hkT := qH (hkT.out.trans' k2)
        replace hT := qH (hT.out.nil k2)
        replace hB1 := bN hB1 k2
        clear k2 e0B2
        refine (Read_any hT.out.reads 0 0 rfl).mono ?_
        rintro _ W7 ⟨rfl, kn⟩
        obtain ⟨⟨gs, gu, gw⟩, hg⟩ : ∃ g, g = readT f 0 := ⟨_, rfl⟩
        obtain ⟨gc, hgc⟩ : ∃ c, c = codeOf (readB f 0) := ⟨_, rfl⟩
        rw [← hg, ← hgc, TagV.cells_def]
        clear hg hgc
        replace hst := sN hst kn
        replace hkT := qH (hkT.out.trans' kn)
        replace hT := qH (hT.out.nil kn)
        replace hB1 := bN hB1 kn
        replace hB2 := bN hB2 kn
        clear kn
        have d1 : (((m.toNat : Int) : Int) == (0 : Int)) = true := (same_u64 (a := m) (b := 0) (h0)).2
        obtain ⟨W8, hW8⟩ := nm (W7.alloc (.cells #[.int .u64 (gs.toNat : Int), .bool gu, .int .i64 gw] 35))
        obtain ⟨B3, eB3⟩ := nm (W7.heap.size)
        go_wp2_with fail
        go_ret
        rw [← hW8.out]
        try rw [← eB3.out]
        have k3 := kA hW8
        have e0B3 := eB3.out
        have hB3 := zB hW8 (Bx.new hT.out.lt _ _ e0B3)
        have gB3 := gZ e0B3 hst
        have nB1B3 := nZ e0B3 hB1
        have nB2B3 := nZ e0B3 hB2
        replace hst := sN hst k3
        replace hkT := qH (hkT.out.trans' k3)
        replace hT := qH (hT.out.nil k3)
        replace hB1 := bN hB1 k3
        replace hB2 := bN hB2 k3
        clear k3 e0B3
        exact ⟨rfl, hst.out.keeps⟩
      · obtain ⟨bo, ⟨bs, bu, bw⟩, bl⟩ := b
        simp only at hbu hbsz hpd
        subst hbu
        have HC := qH (show cFitV H v 16 = .tuple #[.agg #[.int .u64 (bo.toNat : Int), .int .u64 0, .int .u64 (nd.toNat : Int)], .int .i64 0] by rw [cFitV_yes hc hj hb, hpd, ← HND.out]; rfl)
        have HRD := qH (read_of (HT.out.lay (Nat.le_refl _)) (getE_mem hb) (hW.out.tags _ (getE_mem hb)) (by rw [hW.out.e16]; rfl))
        have HBS := qH hbsz
        clear hc hj hb hpd hbsz
        have c_B1_1 := cB hB1 1
        have l_B1 := hB1.out.lt
        go_wp2_with fail
        clear c_B1_1 l_B1
        refine (Fit_any v 16 hT.out.readsK hT.out.lt (HT.out.lay (Nat.le_refl _)) hW.out).mono ?_
        rintro _ W5 ⟨rfl, kn⟩
        rw [HC.out]
        replace hst := sN hst kn
        replace hkT := qH (hkT.out.trans' kn)
        replace hT := qH (hT.out.nil kn)
        replace hB1 := bN hB1 kn
        clear kn
        obtain ⟨W6, hW6⟩ := nm (W5.alloc (.cells #[.int .u64 (bo.toNat : Int), .int .u64 0, .int .u64 (nd.toNat : Int)] 57))
        obtain ⟨B2, eB2⟩ := nm (W5.heap.size)
        go_wp2_with fail
        rw [← hW6.out]
        try rw [← eB2.out]
        have k2 := kA hW6
        have e0B2 := eB2.out
        have hB2 := zB hW6 (Bx.new hT.out.lt _ _ e0B2)
        have gB2 := gZ e0B2 hst
        have nB1B2 := nZ e0B2 hB1
        replace hst := sN hst k2
        replace hkT := qH (hkT.out.trans' k2)
        replace hT := qH (hT.out.nil k2)
        replace hB1 := bN hB1 k2
        clear k2 e0B2
        refine (Read_any hT.out.reads bo _ rfl).mono ?_
        rintro _ W7 ⟨rfl, kn⟩
        rw [HRD.out.1, HRD.out.2, codeOf_true, TagV.cells_def]
        replace hst := sN hst kn
        replace hkT := qH (hkT.out.trans' kn)
        replace hT := qH (hT.out.nil kn)
        replace hB1 := bN hB1 kn
        replace hB2 := bN hB2 kn
        clear kn
        have d1 : (((m.toNat : Int) : Int) == (0 : Int)) = false := (unlike_u64 (a := m) (b := 0) (h1)).2
        have d2 : (((bs.toNat : Int) : Int) == ((m.toNat : Int) : Int)) = true := (same_u64 (a := bs) (b := m) (HBS.out)).2
        have c_B2_1 := cB hB2 1
        have l_B2 := hB2.out.lt
        obtain ⟨W8, hW8⟩ := nm (W7.alloc (.cells #[.int .u64 (bs.toNat : Int), .bool false, .int .i64 bw] 35))
        obtain ⟨B3, eB3⟩ := nm (W7.heap.size)
        go_wp2_with fail
        go_ret
        clear c_B2_1 l_B2
        rw [← hW8.out]
        try rw [← eB3.out]
        have k3 := kA hW8
        have e0B3 := eB3.out
        have hB3 := zB hW8 (Bx.new hT.out.lt _ _ e0B3)
        have gB3 := gZ e0B3 hst
        have nB1B3 := nZ e0B3 hB1
        have nB2B3 := nZ e0B3 hB2
        replace hst := sN hst k3
        replace hkT := qH (hkT.out.trans' k3)
        replace hT := qH (hT.out.nil k3)
        replace hB1 := bN hB1 k3
        replace hB2 := bN hB2 k3
        clear k3 e0B3
        exact ⟨rfl, hst.out.keeps⟩
theorem carveBest_any {w : World} {vl : Value} {l : List AskV} (n : UInt16) (hl : Look kAs w vl l) :
  Calls Tryz.prog 15 #[vl, .int .u16 (n.toNat : Int)] w fun e w' => e = .returned (.bool true) ∧ Keeps Nil w w' := by
 have hn := n.toNat_lt
 have e : (UInt64.ofNat n.toNat).toNat = n.toNat := by rw [UInt64.toNat_ofNat']; omega
 have h := carveBest_u (UInt64.ofNat n.toNat) (by rw [e]; omega) hl
 rw [e] at h
 exact h
end
section
open Go.ChangeShapes Go.WideShapes Go.ChangeAt Go.RowKit Go.Deep Go.Joins
theorem carveBest_lifted (os : Os) (started : os.Started) (H : Type) (enc : TypeId × Value → H) :
  ReturnsInHanded {} Tryz.checked os 15 .any (Rows.carveBestSpec.pre6 enc Tryz.prog Tryz.f15 Rows.carveBestRow.domain false) (Rows.carveBestSpec.post enc Tryz.prog Tryz.f15 false true false false) := by
 refine returnsInHanded_of_change (C := Tryz.checked) prog_own started (by kernel_rfl) Tryz.func15
  (ChangeSpec.witness6 (enc := enc) (C := Tryz.checked) false ⟨#[], #[.slice none 0 0, .int .u16 0], []⟩ 8 (by kernel_rfl) (by kernel_rfl) (by kernel_rfl) (by kernel_rfl)) ?_
 intro W base args ds gs before hval0 hW hcnd _
 have hval : ∀ (j : Nat) t v, Tryz.f15.params[j]? = some t → args[j]? = some v → Value.okWide Tryz.prog W .any base t v := hval0
 have hW' := hW
 obtain ⟨p, q, hA0, hV, rfl, hfz, hnd⟩ := hW
 have hA : DataW.TrodAll enc Tryz.prog W 0 (fun _ => true) true Tryz.f15.params.toList args.toList ds p := hA0
 rw [Tryz.params15] at hA hval
 obtain ⟨v0, v1, d0, d1, p0, p1, rfl, rfl, rfl, h0, h1⟩ := trodAll_two hA
 obtain ⟨rfl, rfl⟩ := trodVars_none hV
 have s0 : v0.cells.toList = [v0] := by obtain ⟨_, _, _, rfl⟩ := okWide_slice Tryz.underlying90 (hval 0 90 v0 rfl rfl); rfl
 obtain ⟨l0, k0⟩ := open_look (K := kAs) Tryz.underlying90 (by kernel_rfl) dec_ask h0 s0
 obtain ⟨n1, rfl, rfl, rfl, w1⟩ := open_int Tryz.underlying49 (hval 1 49 v1 rfl rfl) h1
 obtain ⟨u1, rfl⟩ := u16_some w1
 simp only [List.append_nil] at hW'
 refine (carveBest_any u1 k0).mono fun e W' ⟨he, hK⟩ => ?_
 subst he
 exact ⟨_, rfl, row_post prog_laid (by first | exact hW' | simpa using hW') rfl (by kernel_rfl) (by kernel_rfl) Tryz.underlying4 rfl hK⟩
theorem carveBest_holds : Rows.CarveBestSaid :=
 OpenClaim.holds_of_wide 15 Tryz.f15 rfl rfl rfl rfl rfl rfl rfl ⟨rfl, rfl, rfl, rfl, rfl⟩ rfl rfl rfl rfl rfl (by kernel_rfl) Tryz.func15 (joined_of (by kernel_rfl))
  (of_decide_eq_true (by kernel_rfl)) (by unfold Func.isWrapper; rw [if_neg (by decide +kernel)]; exact ⟨rfl, rfl⟩)
  (fun os started H enc _ => carveBest_lifted os started H enc)
end
end Go.Proofs.YtefpbljekfkefaaGreat
