/- Upto, AppL, W10s, RCarveStays: written short. -/
import Derived.Test.YtefpbljekfkefaaGreatS04
import Derived.Test.YtefpbljekfkefaaGreatS01
import Derived.Test.YtefpbljekfkefaaGreatS15
import Derived.Test.YtefpbljekfkefaaGreatS10
import Derived.Test.YtefpbljekfkefaaGreatS28
import Derived.Test.YtefpbljekfkefaaGreatS29
set_option maxRecDepth 100000
set_option maxHeartbeats 8000000
namespace Go.Proofs.YtefpbljekfkefaaGreat
section
open Go.ChangeShapes Go.WideShapes Go.ChangeAt Go.RowKit Go.Deep Go.Joins
section
variable {H : Type} {enc : TypeId × Value → H} {W : World} {spare : Nat → Bool} {held : Bool} {base : Nat}
theorem bulk_pos (d : DataW H) : 0 < Rows.uptoBulk d := by
 unfold Rows.uptoBulk
 split <;> omega
theorem bulk_len : ∀ l : List (DataW H), l.length ≤ Rows.uptoBulkAll l
 | [] => Nat.zero_le _
 | d :: l => by
   have h1 := bulk_pos d
   have h2 := bulk_len l
   unfold Rows.uptoBulkAll
   simp only [List.length_cons]
   omega
theorem look_len {α : Type} {K : Kind α} {P : Program} {t e : TypeId} {v : Value} {d : DataW H} {p : List MemPlace} {l : List α} (ht : P.underlying t = some (.slice e))
  (h : DataW.Trod enc P W base spare held t v d p) (hv : v.cells.toList = [v]) (hk : Look K W v l) : l.length ≤ Rows.uptoBulk d := by
 obtain ⟨fuel, hf⟩ := h
 rw [hv] at hf
 obtain ⟨a', c', he, _⟩ := hk.val
 rcases open_slice ht hf with ⟨h0, hx⟩ | ⟨a, len, cap, m, n, D, Pl, hcs, hb, hl, hm, hmm, hx, hi⟩
 ·simp only [List.cons.injEq, and_true] at h0
  rw [h0] at he
  simp only [Value.slice.injEq] at he
  omega
 ·simp only [List.cons.injEq, and_true] at hcs
  rw [hcs] at he
  simp only [Value.slice.injEq] at he
  simp only [Prod.mk.injEq] at hx
  have h1 := bulk_len (List.map D (List.range len))
  rw [hx.1]
  unfold Rows.uptoBulk
  simp only [List.length_map, List.length_range] at h1
  omega
end
end
section
open Go.RowKit
theorem wpList_append_looks {α : Type} (K : Kind α) {w : World} {ops : Array Oper} {rest : List Oper} {o : Oper} {a : Act} {Q : Exit → Act → World → Prop} (hgd : o.guard = none) (s x : Operand)
  (ho : o.op = .call { callee := .builtin .append, args := #[s, x], argTypes := #[K.slice, K.slice] })
  {base : Nat} {v v2 : Value} {l l2 : List α} (hown : Own K w base v l) (hs : a.eval s = v) (hx : a.eval x = v2) (hv : Look K w v2 l2) (n : Nat) (hnn : l.length + l2.length = n) (hn : n * K.bytes ≤ 140737488355328) (hbase : base ≤ w.heap.size) (hb1 : 0 < K.bytes)
  (h : ∀ v' w', Own K w' base v' (l ++ l2) → Keeps (fun k => v.ownBlock = some k) w w' → (∀ g, v'.ownBlock = some g → v.ownBlock = some g ∨ w.heap.size ≤ g) → (∃ a c, v' = .slice a n c) → wpList Tryz.prog ops Q rest (a.put o.dst v') w') :
  wpList Tryz.prog ops Q (o :: rest) a w := by
 rcases hv with hv | ⟨⟨a2, c2, rfl⟩, rfl⟩
 ·exact wpList_append_any K hgd s x ho hown hs hx hv n hnn hn hbase hb1 h
 ·refine wpList_append_zero K hgd s x ho hown hs a2 c2 hx ?_
  obtain ⟨a1, c1, e⟩ := hown.valN
  exact h v w (by rw [List.append_nil]; exact hown) (Keeps.refl _ _) (fun g hg => .inl hg) ⟨a1, c1, by rw [e, ← hnn]; rfl⟩
end
section
open Go.RowKit PT
theorem carveStays_any {w : World} {vl vk : Value} {l lk : List AskV} (b0 : l.length ≤ 1048576) (b1 : lk.length ≤ 1048576) (hl : Look kAs w vl l) (hk : Look kAs w vk lk) :
    Calls Tryz.prog 18 #[vl, vk] w fun e w' => e = .returned (.bool true) ∧ Keeps Nil w w' := by
  obtain ⟨al, lcap, rfl, _⟩ := hl.val
  obtain ⟨ak, kcap, rfl, _⟩ := hk.val
  have HL := qH hl
  have HLK := qH hk
  obtain ⟨⟨H, Ls⟩, hh⟩ : ∃ h, h = takenV l := ⟨_, rfl⟩
  have htl := takenV_tile l
  rw [← hh] at htl
  have HT := qH htl
  have HHT := qH hh
  obtain ⟨⟨H2, Ls2⟩, hh2⟩ : ∃ h, h = takenV (l ++ lk) := ⟨_, rfl⟩
  have htl2 := takenV_tile (l ++ lk)
  rw [← hh2] at htl2
  have HT2 := qH htl2
  have HHT2 := qH hh2
  obtain ⟨M, hM⟩ : ∃ x, x = H.length := ⟨_, rfl⟩
  have hlen : 3776 + 48 * H.length ≤ 4800 := htl.len
  have hM6 : M ≤ 65535 := by omega
  have HM := qH hM
  obtain ⟨n1, hn1⟩ : ∃ x, x = l.length := ⟨_, rfl⟩
  have HN1 := qH hn1
  obtain ⟨n2, hn2⟩ : ∃ x, x = lk.length := ⟨_, rfl⟩
  have HN2 := qH hn2
  rw [← hn1] at b0 ⊢
  rw [← hn2] at b1 ⊢
  obtain ⟨nn, hnn⟩ : ∃ x, x = n1 + n2 := ⟨_, rfl⟩
  have hnb : nn ≤ 2097152 := by omega
  have q_l : IntKind.i64.wrap ((n1 : Int) + (n2 : Int)) = (nn : Int) := by rw [IntWalk.i64_in _ (by omega)]; omega
  have HNN := qH hnn
  clear hl hk hh hh2 htl htl2 hM hlen hn1 hn2 hnn
  have hgd := blk_gd
  by_cases h20 : 20 < nn
  · have h20i : (20 : Int) < (nn : Int) := by omega
    have hst := qH (Step.refl Nil w)
    go_enter Tryz.func18, Tryz.ntmps18
    go_wp2_with fail
    refine (awake10 _).mono ?_
    rintro _ W1 ⟨rfl, kn⟩
    replace hst := sN hst kn
    clear kn
    go_wp2_with fail
    go_ret
    exact ⟨rfl, hst.out.keeps⟩
  · have h20i : ¬ (20 : Int) < (nn : Int) := by omega
    have hst := qH (Step.refl Nil w)
    go_enter Tryz.func18, Tryz.ntmps18
    go_wp2_with fail
    refine (awake10 _).mono ?_
    rintro _ W1 ⟨rfl, kn⟩
    replace hst := sN hst kn
    clear kn
    go_wp2_with (first | (at_builtin
                          obtain ⟨W2, hW2⟩ := nm (W1.alloc (.cells #[] 110))
                          obtain ⟨B1, eB1⟩ := nm (W1.heap.size)
                          rw [← hW2.out]
                          try rw [← eB1.out]
                          have k1 := kA hW2
                          have e0B1 := eB1.out
                          have hB1 := zB hW2 (Bx.new Nil.lt _ _ e0B1)
                          have gB1 := gZ e0B1 hst
                          replace hst := sN hst k1
                          clear k1 e0B1
                          have hO3 := (show Own kAs W2 B1 (.slice (some ⟨B1, 0, none⟩) 0 0) [] by rw [show B1 = W1.heap.size by rw [eB1.out], hW2.out]; exact Own.made kAs _ _ (Nat.le_refl _))
                          have hB3 := Nat.le_of_lt hB1.out.lt
                          clear hB1
                          refine wpList_append_looks kAs rfl _ _ rfl hO3 rfl rfl ((show Look kAs w (.slice al n1 lcap) l by rw [HN1.out]; exact HL.out).keeps_nil hst.out.keeps) n1 (by rw [List.length_nil, Nat.zero_add]; exact HN1.out.symm) (show n1 * 4 ≤ _ by omega) hB3 (by decide) ?_
                          rintro _ W3 ho3 kA3 hg3 ⟨a3, c3, rfl⟩
                          replace hst := qH (hst.out.own hO3 gB1.out kA3)
                          replace ho3 := qH ho3
                          have hs3 := qH (Nat.le_trans hB3 kA3.size)
                          clear kA3 hg3 hO3 hB3)
                       | (at_builtin
                          refine wpList_append_looks kAs rfl _ _ rfl ho3.out rfl rfl ((show Look kAs w (.slice ak n2 kcap) lk by rw [HN2.out]; exact HLK.out).keeps_nil hst.out.keeps) nn (by have h1 := HN1.out; have h2 := HN2.out; have h3 := HNN.out; simp; omega) (show nn * 4 ≤ _ by omega) hs3.out (by decide) ?_
                          rintro _ W4 ho4 kA4 hg4 ⟨a4, c4, rfl⟩
                          replace hst := qH (hst.out.own ho3.out gB1.out kA4)
                          replace ho4 := qH ho4
                          have hs4 := qH (Nat.le_trans hs3.out kA4.size)
                          clear kA4 hg4))
    have HLB := qH (show Look kAs _ (.slice a4 nn c4) (l ++ lk) from by have h := (ho4.out.view (S := Nil) (fun _ _ e => e)).look; simpa using h)
    clear ho4 hs4
    refine (taken10 (show Look kAs _ (.slice al n1 lcap) l by rw [HN1.out]; exact HL.out.keeps_nil hst.out.keeps)).mono ?_
    rintro _ W5 ⟨t, hv, S1, f, K, rfl, hT, hW, hX, kn⟩
    rw [← HHT.out] at hW hX
    obtain ⟨ab, cl, LA, LN, LC, rfl, hv0, hLv⟩ := hX
    simp only at hW hv0 hLv ⊢
    rw [← HM.out] at hv0 ⊢
    have hMp : 0 < M := by rw [HM.out]; exact hW.ne HT.out
    obtain ⟨gb, go, cap, e1, hcp, hcm, hgb, _, hcell⟩ := hv0.pos (by rw [← HM.out]; omega)
    rw [← HM.out] at e1 hcp
    simp only [Value.slice.injEq] at e1
    obtain ⟨rfl, _, rfl⟩ := e1
    obtain ⟨WT, hWT⟩ : ∃ W, W = W5 := ⟨_, rfl⟩
    have HCX := qH (show ∀ i j, j < kRB.size → i < H.length → WT.cell? ⟨gb, go + (i * kRB.size + j), none⟩ = (H[i]?).bind (fun x => (kRB.enc x)[j]?) by rw [hWT]; exact hcell)
    have HGB := qH (show gb < WT.heap.size by rw [hWT]; exact hgb)
    have hkT := qH (show Keeps Nil WT W5 by rw [hWT]; exact Keeps.refl Nil _)
    clear hcm hgb hcell hWT
    clear hMp
    clear hv0 hLv
    replace hT := qH hT
    replace hW := qH hW
    replace HLB := qH (HLB.out.keeps_nil kn.keeps)
    replace hst := sT hst kn
    clear kn
    obtain ⟨W6, hW6⟩ := nm (W5.alloc (.cells #[.int .u64 4800, .slice (some ⟨gb, go, none⟩) M cl, .slice (LA 0) (LN 0) (LC 0), .slice (LA 1) (LN 1) (LC 1), .slice (LA 2) (LN 2) (LC 2), .slice (LA 3) (LN 3) (LC 3), .slice (LA 4) (LN 4) (LC 4), .slice (LA 5) (LN 5) (LC 5), .slice (LA 6) (LN 6) (LC 6), .slice (LA 7) (LN 7) (LC 7)] 30))
    obtain ⟨B2, eB2⟩ := nm (W5.heap.size)
    go_wp2_with fail
    rw [← hW6.out]
    try rw [← eB2.out]
    have k2 := kA hW6
    have e0B2 := eB2.out
    have hB2 := zB hW6 (Bx.new hT.out.lt _ _ e0B2)
    have gB2 := gZ e0B2 hst
    replace hst := sN hst k2
    replace hkT := qH (hkT.out.trans' k2)
    replace HLB := qH (HLB.out.keeps_nil k2)
    replace hT := qH (hT.out.nil k2)
    clear k2 e0B2
    refine (taken10 HLB.out).mono ?_
    rintro _ W7 ⟨t2, hv2, S2, f2, K2, rfl, hT2, hW2, hX2, kn⟩
    rw [← HHT2.out] at hW2 hX2
    obtain ⟨ab2, cl2, LA2, LN2, LC2, rfl, hv2, hLv2⟩ := hX2
    simp only at hW2 hv2 hLv2 ⊢
    clear hv2 hLv2
    obtain ⟨M2, hM2⟩ : ∃ x, x = H2.length := ⟨_, rfl⟩
    rw [← hM2, show ((4800 : UInt64).toNat : Int) = 4800 from rfl]
    clear hM2
    replace hT2 := qH hT2
    replace hW2 := qH hW2
    replace kn := kn.keeps
    replace hst := sN hst kn
    replace hkT := qH (hkT.out.trans' kn)
    replace HLB := qH (HLB.out.keeps_nil kn)
    replace hT := qH (hT.out.nil kn)
    replace hB2 := bN hB2 kn
    clear kn
    obtain ⟨W8, hW8⟩ := nm (W7.alloc (.cells #[.int .u64 4800, .slice ab2 M2 cl2, .slice (LA2 0) (LN2 0) (LC2 0), .slice (LA2 1) (LN2 1) (LC2 1), .slice (LA2 2) (LN2 2) (LC2 2), .slice (LA2 3) (LN2 3) (LC2 3), .slice (LA2 4) (LN2 4) (LC2 4), .slice (LA2 5) (LN2 5) (LC2 5), .slice (LA2 6) (LN2 6) (LC2 6), .slice (LA2 7) (LN2 7) (LC2 7)] 30))
    obtain ⟨B3, eB3⟩ := nm (W7.heap.size)
    go_wp2_with fail
    rw [← hW8.out]
    try rw [← eB3.out]
    have k3 := kA hW8
    have e0B3 := eB3.out
    have hB3 := zB hW8 (Bx.new hT.out.lt _ _ e0B3)
    have gB3 := gZ e0B3 hst
    have nB2B3 := nZ e0B3 hB2
    replace hst := sN hst k3
    replace hkT := qH (hkT.out.trans' k3)
    replace HLB := qH (HLB.out.keeps_nil k3)
    replace hT2 := qH (hT2.out.nil k3)
    replace hT := qH (hT.out.nil k3)
    replace hB2 := bN hB2 k3
    clear k3 e0B3
    clear HLB
    go_wp2_with fail
    go_loopw [13] (fun i wr => ((∃ k : Nat, k ≤ M ∧ i = .int .i64 (k : Int) ∧ Hid (Step Nil S1 w wr) ∧ Hid (TxF wr t f 4800 S1) ∧ Hid (TxF wr t2 f2 4800 S2) ∧ Hid (Keeps Nil WT wr)) ∧ Hid (Bx wr S1 B2 #[.int .u64 4800, .slice (some ⟨gb, go, none⟩) M cl, .slice (LA 0) (LN 0) (LC 0), .slice (LA 1) (LN 1) (LC 1), .slice (LA 2) (LN 2) (LC 2), .slice (LA 3) (LN 3) (LC 3), .slice (LA 4) (LN 4) (LC 4), .slice (LA 5) (LN 5) (LC 5), .slice (LA 6) (LN 6) (LC 6), .slice (LA 7) (LN 7) (LC 7)] 30)) ∧ Hid (Bx wr S1 B3 #[.int .u64 4800, .slice ab2 M2 cl2, .slice (LA2 0) (LN2 0) (LC2 0), .slice (LA2 1) (LN2 1) (LC2 1), .slice (LA2 2) (LN2 2) (LC2 2), .slice (LA2 3) (LN2 3) (LC2 3), .slice (LA2 4) (LN2 4) (LC2 4), .slice (LA2 5) (LN2 5) (LC2 5), .slice (LA2 6) (LN2 6) (LC2 6), .slice (LA2 7) (LN2 7) (LC2 7)] 30)) (fun i _ => M - (intOf i).toNat)
    case atStart => exact ⟨⟨⟨0, Nat.zero_le _, rfl, hst, hT, hT2, hkT⟩, hB2⟩, hB3⟩
    case round =>
      clear hB3
      obtain ⟨hrel, hB3⟩ := hrel
      clear hB2
      obtain ⟨hrel, hB2⟩ := hrel
      clear hst hT hT2 hkT
      obtain ⟨k, hk, rfl, hst, hT, hT2, hkT⟩ := hrel
      by_cases hlt : k < M
      · obtain ⟨⟨bo, ⟨bs, bu, bw⟩, bl⟩, hx⟩ : ∃ x, H[k]? = some x := ⟨H[k]'(by rw [← HM.out]; exact hlt), by simp⟩
        have HX := qH hx
        have HLT := qH hlt
        clear hx
        obtain ⟨p0, zp0⟩ : ∃ y : UInt64, y = bo + 32 := ⟨_, rfl⟩
        have q_p : IntKind.u64.wrap ((bo.toNat : Int) + 32) = (p0.toNat : Int) := by rw [zp0]; exact u64_add bo 32
        replace zp0 := qH zp0
        cases bu with
        | false =>
          skip
          have c_B2_1 := cB hB2 1
          have l_B2 := hB2.out.lt
          have e_x0 := (hkT.out.cell HGB.out (fun e => e) _).trans (View.cellB HCX.out k _ HX.out).1
          have e_x1 := (hkT.out.cell HGB.out (fun e => e) _).trans (View.cellB HCX.out k _ HX.out).2.1
          have e_x2 := (hkT.out.cell HGB.out (fun e => e) _).trans (View.cellB HCX.out k _ HX.out).2.2.1
          have e_x3 := (hkT.out.cell HGB.out (fun e => e) _).trans (View.cellB HCX.out k _ HX.out).2.2.2.1
          have e_x4 := (hkT.out.cell HGB.out (fun e => e) _).trans (View.cellB HCX.out k _ HX.out).2.2.2.2
          have l_gb := Nat.lt_of_lt_of_le HGB.out hkT.out.size
          go_wp2_with fail
          clear c_B2_1 l_B2 e_x0 e_x1 e_x2 e_x3 e_x4 l_gb
          go_roundw
          case rel => exact ⟨⟨⟨k + 1, by have := HLT.out; omega, by go_num, hst, hT, hT2, hkT⟩, hB2⟩, hB3⟩
          case measure => simp [intOf]; have := HLT.out; omega
        | true =>
          have HXM := qH (getE_mem HX.out)
          have HXM2 := qH (show (⟨bo, ⟨bs, true, bw⟩, bl⟩ : BlockV) ∈ H2 by have h := takenV_keeps (l := l) (k := lk) (by have h1 := HN1.out; have h2 := HN2.out; have h3 := HNN.out; omega) (x := ⟨bo, ⟨bs, true, bw⟩, bl⟩) (by rw [← HHT.out]; exact HXM.out) rfl; rw [← HHT2.out] at h; exact h)
          have c_B2_1 := cB hB2 1
          have l_B2 := hB2.out.lt
          have e_x0 := (hkT.out.cell HGB.out (fun e => e) _).trans (View.cellB HCX.out k _ HX.out).1
          have e_x1 := (hkT.out.cell HGB.out (fun e => e) _).trans (View.cellB HCX.out k _ HX.out).2.1
          have e_x2 := (hkT.out.cell HGB.out (fun e => e) _).trans (View.cellB HCX.out k _ HX.out).2.2.1
          have e_x3 := (hkT.out.cell HGB.out (fun e => e) _).trans (View.cellB HCX.out k _ HX.out).2.2.2.1
          have e_x4 := (hkT.out.cell HGB.out (fun e => e) _).trans (View.cellB HCX.out k _ HX.out).2.2.2.2
          have l_gb := Nat.lt_of_lt_of_le HGB.out hkT.out.size
          go_wp2_with fail
          clear c_B2_1 l_B2 e_x0 e_x1 e_x2 e_x3 e_x4 l_gb
          refine (Find_is hT.out hW.out HT.out (by decide) HXM.out zp0.out).mono ?_
          rintro _ W9 ⟨rfl, kn⟩
          replace hst := sN hst kn
          replace hkT := qH (hkT.out.trans' kn)
          replace hT2 := qH (hT2.out.nil kn)
          replace hT := qH (hT.out.nil kn)
          replace hB2 := bN hB2 kn
          replace hB3 := bN hB3 kn
          clear kn
          have e_x0 := (hkT.out.cell HGB.out (fun e => e) _).trans (View.cellB HCX.out k _ HX.out).1
          have e_x1 := (hkT.out.cell HGB.out (fun e => e) _).trans (View.cellB HCX.out k _ HX.out).2.1
          have e_x2 := (hkT.out.cell HGB.out (fun e => e) _).trans (View.cellB HCX.out k _ HX.out).2.2.1
          have e_x3 := (hkT.out.cell HGB.out (fun e => e) _).trans (View.cellB HCX.out k _ HX.out).2.2.2.1
          have e_x4 := (hkT.out.cell HGB.out (fun e => e) _).trans (View.cellB HCX.out k _ HX.out).2.2.2.2
          have l_gb := Nat.lt_of_lt_of_le HGB.out hkT.out.size
          obtain ⟨W10, hW10⟩ := nm (W9.alloc (.cells #[.int .u64 (bo.toNat : Int), .int .u64 (bs.toNat : Int), .bool true, .int .i64 bw, .int .u64 (bl.toNat : Int)] 37))
          obtain ⟨B4, eB4⟩ := nm (W9.heap.size)
          go_wp2_with fail
          clear e_x0 e_x1 e_x2 e_x3 e_x4 l_gb
          rw [← hW10.out]
          try rw [← eB4.out]
          have k4 := kA hW10
          have e0B4 := eB4.out
          have hB4 := zB hW10 (Bx.new hT.out.lt _ _ e0B4)
          have gB4 := gZ e0B4 hst
          have nB2B4 := nZ e0B4 hB2
          have nB3B4 := nZ e0B4 hB3
          replace hst := sN hst k4
          replace hkT := qH (hkT.out.trans' k4)
          replace hT2 := qH (hT2.out.nil k4)
          replace hT := qH (hT.out.nil k4)
          replace hB2 := bN hB2 k4
          replace hB3 := bN hB3 k4
          clear k4 e0B4
          refine (Find_is hT2.out hW2.out HT2.out (by decide) HXM2.out zp0.out).mono ?_
          rintro _ W11 ⟨rfl, kn⟩
          replace hst := sN hst kn
          replace hkT := qH (hkT.out.trans' kn)
          replace hT2 := qH (hT2.out.nil kn)
          replace hT := qH (hT.out.nil kn)
          replace hB2 := bN hB2 kn
          replace hB3 := bN hB3 kn
          replace hB4 := bN hB4 kn
          clear kn
          have qs1 : ∀ w, (binOp .neq 37 (.agg #[.int .u64 (bo.toNat : Int), .int .u64 (bs.toNat : Int), .bool true, .int .i64 bw, .int .u64 (bl.toNat : Int)]) (.agg #[.int .u64 (bo.toNat : Int), .int .u64 (bs.toNat : Int), .bool true, .int .i64 bw, .int .u64 (bl.toNat : Int)])).run Tryz.prog w = .ok (.bool false) w := blk_neq_no rfl
          have c_B4_0 := cB hB4 0
          have c_B4_1 := cB hB4 1
          have c_B4_2 := cB hB4 2
          have c_B4_3 := cB hB4 3
          have c_B4_4 := cB hB4 4
          have l_B4 := hB4.out.lt
          have e_x0 := (hkT.out.cell HGB.out (fun e => e) _).trans (View.cellB HCX.out k _ HX.out).1
          have e_x1 := (hkT.out.cell HGB.out (fun e => e) _).trans (View.cellB HCX.out k _ HX.out).2.1
          have e_x2 := (hkT.out.cell HGB.out (fun e => e) _).trans (View.cellB HCX.out k _ HX.out).2.2.1
          have e_x3 := (hkT.out.cell HGB.out (fun e => e) _).trans (View.cellB HCX.out k _ HX.out).2.2.2.1
          have e_x4 := (hkT.out.cell HGB.out (fun e => e) _).trans (View.cellB HCX.out k _ HX.out).2.2.2.2
          have l_gb := Nat.lt_of_lt_of_le HGB.out hkT.out.size
          obtain ⟨W12, hW12⟩ := nm (W11.alloc (.cells #[.int .u64 (bo.toNat : Int), .int .u64 (bs.toNat : Int), .bool true, .int .i64 bw, .int .u64 (bl.toNat : Int)] 37))
          obtain ⟨B5, eB5⟩ := nm (W11.heap.size)
          go_wp2_with fail
          clear c_B4_0 c_B4_1 c_B4_2 c_B4_3 c_B4_4 l_B4 e_x0 e_x1 e_x2 e_x3 e_x4 l_gb
          rw [← hW12.out]
          try rw [← eB5.out]
          have k5 := kA hW12
          have e0B5 := eB5.out
          have hB5 := zB hW12 (Bx.new hT.out.lt _ _ e0B5)
          have gB5 := gZ e0B5 hst
          have nB2B5 := nZ e0B5 hB2
          have nB3B5 := nZ e0B5 hB3
          have nB4B5 := nZ e0B5 hB4
          replace hst := sN hst k5
          replace hkT := qH (hkT.out.trans' k5)
          replace hT2 := qH (hT2.out.nil k5)
          replace hT := qH (hT.out.nil k5)
          replace hB2 := bN hB2 k5
          replace hB3 := bN hB3 k5
          replace hB4 := bN hB4 k5
          clear k5 e0B5
          go_roundw
          case rel => exact ⟨⟨⟨k + 1, by have := HLT.out; omega, by go_num, hst, hT, hT2, hkT⟩, hB2⟩, hB3⟩
          case measure => simp [intOf]; have := HLT.out; omega
      · skip
        have c_B2_1 := cB hB2 1
        have l_B2 := hB2.out.lt
        go_wp2_with fail
        go_ret
        clear c_B2_1 l_B2
        exact ⟨rfl, hst.out.keeps⟩
end
section
open Go.ChangeShapes Go.WideShapes Go.ChangeAt Go.RowKit Go.Deep Go.Joins
theorem carveStays_lifted (os : Os) (started : os.Started) (H : Type) (enc : TypeId × Value → H) (F0 : Stop.Interp) :
  ReturnsInHanded {} Tryz.checked os 18 .any ((Rows.OpenSpec.upto Rows.carveStaysSpec).pre6 enc Tryz.prog Tryz.f18 Rows.carveStaysUptoRow.domain false) (((Rows.OpenSpec.upto Rows.carveStaysSpec).at F0).post enc Tryz.prog Tryz.f18 false true false false) := by
 refine returnsInHanded_of_cond (C := Tryz.checked) (s := Rows.OpenSpec.upto Rows.carveStaysSpec) (k := Rows.uptoSmall) rfl prog_own started (by kernel_rfl) Tryz.func18
  (OpenSpec.witness (enc := enc) (C := Tryz.checked) (s := Rows.OpenSpec.upto Rows.carveStaysSpec) (k := Rows.uptoSmall) rfl false ⟨#[], #[.slice none 0 0, .slice none 0 0], []⟩ 8 (by kernel_rfl) (by kernel_rfl) (by kernel_rfl)
   (x := ([.nil, .nil], [], [])) (by kernel_rfl) (by kernel_rfl) (by kernel_rfl)) ?_
 intro W base args ds gs before hval0 hW _ hbulk0 _
 have hval : ∀ (j : Nat) t v, Tryz.f18.params[j]? = some t → args[j]? = some v → Value.okWide Tryz.prog W .any base t v := hval0
 have hW' := hW
 obtain ⟨p, q, hA0, hV, rfl, hfz, hnd⟩ := hW
 have hA : DataW.TrodAll enc Tryz.prog W 0 (fun _ => true) true Tryz.f18.params.toList args.toList ds p := hA0
 rw [Tryz.params18] at hA hval
 obtain ⟨v0, v1, d0, d1, p0, p1, rfl, rfl, rfl, h0, h1⟩ := trodAll_two hA
 obtain ⟨rfl, rfl⟩ := trodVars_none hV
 have s0 : v0.cells.toList = [v0] := by obtain ⟨_, _, _, rfl⟩ := okWide_slice Tryz.underlying90 (hval 0 90 v0 rfl rfl); rfl
 obtain ⟨l0, k0⟩ := open_look (K := kAs) Tryz.underlying90 (by kernel_rfl) dec_ask h0 s0
 have s1 : v1.cells.toList = [v1] := by obtain ⟨_, _, _, rfl⟩ := okWide_slice Tryz.underlying90 (hval 1 90 v1 rfl rfl); rfl
 obtain ⟨l1, k1⟩ := open_look (K := kAs) Tryz.underlying90 (by kernel_rfl) dec_ask h1 s1
 simp only [List.append_nil] at hW'
 have hbulk : Rows.uptoBulkAll ([d0, d1] ++ []) ≤ 1048576 := of_decide_eq_true hbulk0
 simp only [List.append_nil, Rows.uptoBulkAll] at hbulk
 have b0 : l0.length ≤ 1048576 := by have := look_len Tryz.underlying90 h0 s0 k0; omega
 have b1 : l1.length ≤ 1048576 := by have := look_len Tryz.underlying90 h1 s1 k1; omega
 refine (carveStays_any b0 b1 k0 k1).mono fun e W' ⟨he, hK⟩ => ?_
 subst he
 exact ⟨_, rfl, row_post prog_laid (by first | exact hW' | simpa using hW') rfl (by kernel_rfl) (by kernel_rfl) Tryz.underlying4 rfl hK⟩
theorem carveStays_holds : Rows.CarveStaysUptoSaid :=
 OpenClaim.holds_of_cond 18 Tryz.f18 rfl rfl rfl rfl rfl rfl rfl ⟨rfl, rfl, rfl, rfl, rfl⟩ rfl rfl rfl rfl rfl (by kernel_rfl) Tryz.func18 (joined_of (by kernel_rfl))
  (of_decide_eq_true (by kernel_rfl)) (by unfold Func.isWrapper; rw [if_neg (by decide +kernel)]; exact ⟨rfl, rfl⟩)
  (fun os started H enc _ F0 => carveStays_lifted os started H enc F0)
end
end Go.Proofs.YtefpbljekfkefaaGreat
