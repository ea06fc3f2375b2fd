/- RTakeB: written short. -/
import Derived.Test.YtefpbljekfkefaaGreatS24
import Derived.Test.YtefpbljekfkefaaGreatS01
import Derived.Test.YtefpbljekfkefaaGreatS10
set_option maxRecDepth 100000
set_option maxHeartbeats 8000000
namespace Go.Proofs.YtefpbljekfkefaaGreat
section
open Go.RowKit PT
theorem rTake_100 {w : World} {S : Nat → Prop} {e : UInt64} {vb : Value} {LA : Nat → Option Addr} {LN LC : Nat → Nat} {H : List BlockV} {j : Nat} {bo bs bl pd nd rs uo us n a : UInt64} {bw : Int}
  (hv0 : View kRB S w vb H)
  (hSl : ∀ k, S k → k < w.heap.size)
  (hj : H[j]? = some ⟨bo, ⟨bs, false, bw⟩, bl⟩)
  (hlen : H.length ≤ 65535)
  (hF : ∀ w', Keeps Nil w w' → Calls Tryz.prog 60 #[.agg #[.int .u64 (e.toNat : Int), vb, .slice (LA 0) (LN 0) (LC 0), .slice (LA 1) (LN 1) (LC 1), .slice (LA 2) (LN 2) (LC 2), .slice (LA 3) (LN 3) (LC 3), .slice (LA 4) (LN 4) (LC 4), .slice (LA 5) (LN 5) (LC 5), .slice (LA 6) (LN 6) (LC 6), .slice (LA 7) (LN 7) (LC 7)], .int .u64 (n.toNat : Int), .int .u64 (a.toNat : Int)] w' fun e' w2 => e' = .returned (.tuple #[.int .i64 (j : Int), .int .u64 (pd.toNat : Int), .int .u64 (nd.toNat : Int), .int .i64 0]) ∧ Keeps Nil w' w2)
  (huo : uo = bo + pd)
  (hrs : rs = bs - pd - nd)
  (hp : 0 < pd.toNat)
  (hr : rs.toNat < 48)
  (hus : us = nd + rs) :
  Calls Tryz.prog 63 #[.agg #[.int .u64 (e.toNat : Int), vb, .slice (LA 0) (LN 0) (LC 0), .slice (LA 1) (LN 1) (LC 1), .slice (LA 2) (LN 2) (LC 2), .slice (LA 3) (LN 3) (LC 3), .slice (LA 4) (LN 4) (LC 4), .slice (LA 5) (LN 5) (LC 5), .slice (LA 6) (LN 6) (LC 6), .slice (LA 7) (LN 7) (LC 7)], .int .i64 0, .int .u64 (n.toNat : Int), .int .u64 (a.toNat : Int)] w fun e' w' => ∃ vb', e' = .returned (.tuple #[.agg #[.int .u64 (e.toNat : Int), vb', .slice (LA 0) (LN 0) (LC 0), .slice (LA 1) (LN 1) (LC 1), .slice (LA 2) (LN 2) (LC 2), .slice (LA 3) (LN 3) (LC 3), .slice (LA 4) (LN 4) (LC 4), .slice (LA 5) (LN 5) (LC 5), .slice (LA 6) (LN 6) (LC 6), .slice (LA 7) (LN 7) (LC 7)], .int .u64 ((uo + 32).toNat : Int), .int .i64 0]) ∧ Own kRB w' w.heap.size vb' ((((H.take j ++ [⟨bo, ⟨pd, false, 0⟩, 0⟩]) ++ [⟨uo, ⟨us, true, 0⟩, n⟩])) ++ H.drop (j + 1)) ∧ Keeps Nil w w' := by
 have hjl := (List.getElem?_eq_some_iff.1 hj).1
 obtain ⟨N, hN⟩ : ∃ N, N = H.length := ⟨_, rfl⟩
 obtain ⟨gb, go, cl, rfl, hcp, _, hgb, _, hcell⟩ := hv0.pos (by omega)
 rw [← hN] at hF hcp hv0 ⊢
 obtain ⟨j1, hj1⟩ : ∃ x, x = j + 1 := ⟨_, rfl⟩
 obtain ⟨m, hm⟩ : ∃ x, x = N - j1 := ⟨_, rfl⟩
 obtain ⟨c1, hc1⟩ : ∃ x, x = cl - j1 := ⟨_, rfl⟩
 obtain ⟨A, hA⟩ : ∃ x, x = H.take j := ⟨_, rfl⟩
 obtain ⟨C, hC⟩ : ∃ x, x = H.drop j1 := ⟨_, rfl⟩
 have hAl : A.length = j := by rw [hA, List.length_take]; omega
 have hCl : m = C.length := by rw [hC, List.length_drop, ← hN]; exact hm
 rw [← hj1, ← hA, ← hC]
 have hsp : H = A ++ ⟨bo, ⟨bs, false, bw⟩, bl⟩ :: C := by rw [hA, hC, hj1]; exact split_at hj
 have HVF := qH (vFrontK hv0 (A := A) (B := ⟨bo, ⟨bs, false, bw⟩, bl⟩ :: C) (m := j) hsp hAl.symm)
 have hb0 : View kRB S w (.slice (some ⟨gb, go + j1 * 5, none⟩) m c1) C := by rw [hc1]; exact vBackK hv0 (A := A ++ [⟨bo, ⟨bs, false, bw⟩, bl⟩]) (B := C) (by rw [hsp]; simp) (by simp; omega) hCl
 have hb1 : cl = j1 → View kRB S w (.slice (some ⟨gb, go, none⟩) m c1) C := fun e => vNoneK hv0 (by omega) (by omega)
 have HX := qH hj
 have HC := qH (show ∀ i j, j < kRB.size → i < H.length → w.cell? ⟨gb, go + (i * kRB.size + j), none⟩ = (H[i]?).bind (fun x => (kRB.enc x)[j]?) from hcell)
 have HGB := qH hgb
 have HSl := qH hSl
 have HF := qH hF
 have HLN := qH (And.intro hAl (And.intro hCl (show j + 1 + m ≤ 65535 by omega)))
 have hjN : j < N := by omega
 have hNc : N ≤ cl := hcp
 have hjc : j ≤ cl := by omega
 have hjc2 : j < cl := by omega
 have hj1N : j1 ≤ N := by omega
 have hj1c : j1 ≤ cl := by omega
 have hj6 : j ≤ 65535 := by omega
 have hN6 : N ≤ 65535 := by omega
 have hm6 : m ≤ 65535 := by omega
 have q_m := hm.symm
 have q_c1 := hc1.symm
 have q_j1 : wrap64 ((j : Int) + 1) = (j1 : Int) := by rw [hj1]; exact IntWalk.wrap64_in _ (by omega)
 have q_j12 : IntKind.i64.wrap ((j : Int) + 1) = (j1 : Int) := by rw [IntWalk.i64_left]; exact q_j1
 obtain ⟨ys, hys⟩ : ∃ y, y = bs - pd := ⟨_, rfl⟩
 obtain ⟨up, hup⟩ : ∃ y, y = uo + 32 := ⟨_, rfl⟩
 have q_uo : IntKind.u64.wrap ((bo.toNat : Int) + (pd.toNat : Int)) = (uo.toNat : Int) := by rw [huo]; exact u64_add bo pd
 have q_ys : IntKind.u64.wrap ((bs.toNat : Int) - (pd.toNat : Int)) = (ys.toNat : Int) := by rw [hys]; exact u64_sub bs pd
 have q_rs : IntKind.u64.wrap ((ys.toNat : Int) - (nd.toNat : Int)) = (rs.toNat : Int) := by rw [hrs, ← hys]; exact u64_sub ys nd
 have q_up : IntKind.u64.wrap ((uo.toNat : Int) + 32) = (up.toNat : Int) := by rw [hup]; exact u64_add uo 32
 rw [← hup]
 have q_us : IntKind.u64.wrap ((nd.toNat : Int) + (rs.toNat : Int)) = (us.toNat : Int) := by rw [hus]; exact u64_add nd rs
 have hr48 : rs.toNat < 48 := hr
 have hr49 : ¬ 48 ≤ rs.toNat := by omega
 have hp0 := hp
 have HJ1 := qH hj1
 clear hv0 hSl hj hlen hF huo hrs hp hr hjl hN hcp hgb hcell hj1 hm hc1 hA hC hAl hCl hsp hys hup hus
 have hdis : ((cl = j1) = True ∧ View kRB S w (.slice (some ⟨gb, go, none⟩) m c1) C) ∨ ((cl = j1) = False ∧ View kRB S w (.slice (some ⟨gb, go + j1 * 5, none⟩) m c1) C) := by
  by_cases h : cl = j1
  · exact .inl ⟨eq_true h, hb1 h⟩
  · exact .inr ⟨eq_false h, hb0⟩
 clear hb0 hb1
 rcases hdis with ⟨q_e, HVB⟩ | ⟨q_e, HVB⟩
 all_goals
  replace HVB := qH HVB
  have hst := qH (Step.refl Nil w)
  go_enter Tryz.func63, Tryz.ntmps63
  have e_x0 := eX hst HGB (View.cellB HC.out j _ HX.out).1
  have e_x1 := eX hst HGB (View.cellB HC.out j _ HX.out).2.1
  have e_x2 := eX hst HGB (View.cellB HC.out j _ HX.out).2.2.1
  have e_x3 := eX hst HGB (View.cellB HC.out j _ HX.out).2.2.2.1
  have e_x4 := eX hst HGB (View.cellB HC.out j _ HX.out).2.2.2.2
  have l_gb := Nat.lt_of_lt_of_le HGB.out hst.out.keeps.size
  obtain ⟨W1, hW1⟩ := nm (w.alloc (.cells #[.int .u64 (e.toNat : Int), .slice (some ⟨gb, go, none⟩) N cl, .slice (LA 0) (LN 0) (LC 0), .slice (LA 1) (LN 1) (LC 1), .slice (LA 2) (LN 2) (LC 2), .slice (LA 3) (LN 3) (LC 3), .slice (LA 4) (LN 4) (LC 4), .slice (LA 5) (LN 5) (LC 5), .slice (LA 6) (LN 6) (LC 6), .slice (LA 7) (LN 7) (LC 7)] 30))
  obtain ⟨B1, eB1⟩ := nm (w.heap.size)
  obtain ⟨W2, hW2⟩ := nm (W1.alloc (.cells #[.int .u64 0, .slice none 0 0, .slice none 0 0, .slice none 0 0, .slice none 0 0, .slice none 0 0, .slice none 0 0, .slice none 0 0, .slice none 0 0, .slice none 0 0] 30))
  obtain ⟨B2, eB2⟩ := nm (w.heap.size + 1)
  go_wp2_with fail
  clear e_x0 e_x1 e_x2 e_x3 e_x4 l_gb
  rw [← hW1.out]
  rw [← hW2.out]
  try rw [← eB2.out]
  try rw [← eB1.out]
  have k1 := kA hW1
  have e0B1 := eB1.out
  have hB1 := zB hW1 (Bx.new Nil.lt _ _ e0B1)
  have gB1 := gZ e0B1 hst
  replace hst := sN hst k1
  clear k1 e0B1
  have k2 := kA hW2
  have e0B2 : B2 = W1.heap.size := by rw [eB2.out, hW1.out]; simp []
  have hB2 := zB hW2 (Bx.new Nil.lt _ _ e0B2)
  have gB2 := gZ e0B2 hst
  have nB1B2 := nZ e0B2 hB1
  replace hst := sN hst k2
  replace hB1 := bN hB1 k2
  clear k2 e0B2
  refine (HF.out _ hst.out.keeps).mono ?_
  rintro _ W3 ⟨rfl, kn⟩
  replace hst := sN hst kn
  replace hB1 := bN hB1 kn
  replace hB2 := bN hB2 kn
  clear kn
  have c_B1_1 := cB hB1 1
  have l_B1 := hB1.out.lt
  have e_x0 := eX hst HGB (View.cellB HC.out j _ HX.out).1
  have e_x1 := eX hst HGB (View.cellB HC.out j _ HX.out).2.1
  have e_x2 := eX hst HGB (View.cellB HC.out j _ HX.out).2.2.1
  have e_x3 := eX hst HGB (View.cellB HC.out j _ HX.out).2.2.2.1
  have e_x4 := eX hst HGB (View.cellB HC.out j _ HX.out).2.2.2.2
  have l_gb := Nat.lt_of_lt_of_le HGB.out hst.out.keeps.size
  go_wp2_with (
   at_builtin
   obtain ⟨W4, hW4⟩ := nm (W3.alloc (.cells #[.int .u64 (bo.toNat : Int), .int .u64 (bs.toNat : Int), .bool false, .int .i64 bw, .int .u64 (bl.toNat : Int)] 63))
   obtain ⟨B3, eB3⟩ := nm (W3.heap.size)
   obtain ⟨W5, hW5⟩ := nm (W4.alloc (.cells #[] 63))
   obtain ⟨B4, eB4⟩ := nm (W3.heap.size + 1)
   rw [← hW4.out]
   rw [← hW5.out]
   try rw [← eB4.out]
   try rw [← eB3.out]
   have k3 := kA hW4
   have e0B3 := eB3.out
   have hB3 := zB hW4 (Bx.new Nil.lt _ _ e0B3)
   have gB3 := gZ e0B3 hst
   have nB1B3 := nZ e0B3 hB1
   have nB2B3 := nZ e0B3 hB2
   replace hst := sN hst k3
   replace hB1 := bN hB1 k3
   replace hB2 := bN hB2 k3
   clear k3 e0B3
   have k4 := kA hW5
   have e0B4 : B4 = W4.heap.size := by rw [eB4.out, hW4.out]; simp []
   have hB4 := zB hW5 (Bx.new Nil.lt _ _ e0B4)
   have gB4 := gZ e0B4 hst
   have nB1B4 := nZ e0B4 hB1
   have nB2B4 := nZ e0B4 hB2
   have nB3B4 := nZ e0B4 hB3
   replace hst := sN hst k4
   replace hB1 := bN hB1 k4
   replace hB2 := bN hB2 k4
   replace hB3 := bN hB3 k4
   clear k4 e0B4
   have hO6 := (show Own kRB W5 B4 (.slice (some ⟨B4, 0, none⟩) 0 0) [] by rw [show B4 = W4.heap.size by rw [eB4.out, hW4.out]; simp [], hW5.out]; exact Own.made kRB _ _ (Nat.le_refl _))
   have hB6 := Nat.le_of_lt hB4.out.lt
   clear hB4
   have o_B4_B1 := nB1B4
   have o_B4_B2 := nB2B4
   have o_B4_B3 := nB3B4
   refine wpList_append_any kRB rfl _ _ rfl hO6 rfl rfl (HVF.out.keeps_nil hst.out.keeps) j (by rw [List.length_nil, Nat.zero_add]; exact HLN.out.1) (show j * 40 ≤ _ by clear q_m q_c1 q_j1 q_j12; omega) hB6 (by decide) ?_
   rintro _ W6 ho6 kA6 hg6 ⟨a6, c6, rfl⟩
   replace hst := qH (hst.out.own hO6 gB4.out kA6)
   replace hB1 := qH (hB1.out.own hO6 kA6 (own_ne_old hO6 nB1B4.out))
   replace hB2 := qH (hB2.out.own hO6 kA6 (own_ne_old hO6 nB2B4.out))
   replace hB3 := qH (hB3.out.own hO6 kA6 (own_ne_old hO6 nB3B4.out))
   replace ho6 := qH ho6
   have hs6 := qH (Nat.le_trans hB6 kA6.size)
   clear kA6 hg6 hO6 hB6
   have d1 : decide (0 < pd.toNat) = true := decide_eq_true (hp0)
   have c_B3_0 := cB hB3 0
   have l_B3 := hB3.out.lt)
  clear c_B1_1 l_B1 e_x0 e_x1 e_x2 e_x3 e_x4 l_gb c_B3_0 l_B3
  refine (r10free_any _ bo pd).mono ?_
  rintro _ W7 ⟨rfl, kn⟩
  rw [free_cells]
  replace hst := sN hst kn
  replace ho6 := qH (ho6.out.keeps_nil kn)
  replace hs6 := qH (Nat.le_trans hs6.out kn.size)
  replace hB1 := bN hB1 kn
  replace hB2 := bN hB2 kn
  replace hB3 := bN hB3 kn
  clear kn
  have d2 : decide (rs.toNat < 48) = true := decide_eq_true (hr48)
  obtain ⟨nn, hnn⟩ : ∃ x, x = j + 2 + m := ⟨_, rfl⟩
  have hn6 : nn ≤ 65540 := by rw [hnn]; have h := HLN.out.2.2; clear q_m q_c1 q_j1 q_j12; omega
  replace hnn := qH hnn
  have d3 : decide (48 ≤ rs.toNat) = false := decide_eq_false (hr49)
  go_wp2_with (first
                       | (
                        at_builtin
                        refine wpList_append_one kRB rfl _ _ rfl ho6.out rfl ((⟨bo, ⟨pd, false, 0⟩, 0⟩ : BlockV)) _ rfl rfl (by have h1 := HLN.out; simp; clear q_m q_c1 q_j1 q_j12; omega) hs6.out ?_
                        rintro _ W8 ho8 kA8 ⟨g8, cap8, rfl, hg8⟩
                        obtain ⟨n8, hn8⟩ : ∃ nx, nx = ([] ++ A).length + 1 := ⟨_, rfl⟩
                        rw [← hn8] at ho8 ⊢
                        replace hn8 := qH hn8
                        replace hst := qH (hst.out.own ho6.out gB4.out kA8)
                        replace hB1 := qH (hB1.out.own ho6.out kA8 (own_ne_old ho6.out o_B4_B1.out))
                        replace hB2 := qH (hB2.out.own ho6.out kA8 (own_ne_old ho6.out o_B4_B2.out))
                        replace hB3 := qH (hB3.out.own ho6.out kA8 (own_ne_old ho6.out o_B4_B3.out))
                        replace ho8 := qH ho8
                        have hs8 := qH (Nat.le_trans hs6.out kA8.size)
                        clear kA8
                        have c_B3_0 := cB hB3 0
                        have c_B3_1 := cB hB3 1
                        have l_B3 := hB3.out.lt)
                       | (
                        at_builtin
                        obtain ⟨W9, hW9⟩ := nm (W8.alloc (.cells #[.int .u64 (uo.toNat : Int), .int .u64 (us.toNat : Int), .bool true, .int .i64 0, .int .u64 (n.toNat : Int)] 63))
                        obtain ⟨B5, eB5⟩ := nm (W8.heap.size)
                        rw [show W8.heap.size + 1 = W9.heap.size by rw [hW9.out]; simp []]
                        rw [← hW9.out]
                        try rw [← eB5.out]
                        have k5 := kA hW9
                        have e0B5 := eB5.out
                        have hB5 := zB hW9 (Bx.new Nil.lt _ _ e0B5)
                        have gB5 := gZ e0B5 hst
                        have nB1B5 := nZ e0B5 hB1
                        have nB2B5 := nZ e0B5 hB2
                        have nB3B5 := nZ e0B5 hB3
                        have r_ho8_B5 := qH (show ∀ g, (.slice (some ⟨g8, 0, none⟩) n8 cap8 : Value).ownBlock = some g → g < B5 by intro g hg; rw [e0B5]; exact (ho8.out.block hg).2)
                        replace hst := sN hst k5
                        replace ho8 := qH (ho8.out.keeps_nil k5)
                        replace hs8 := qH (Nat.le_trans hs8.out k5.size)
                        replace hB1 := bN hB1 k5
                        replace hB2 := bN hB2 k5
                        replace hB3 := bN hB3 k5
                        clear k5 e0B5
                        refine wpList_append_one kRB rfl _ _ rfl ho8.out rfl ((⟨uo, ⟨us, true, 0⟩, n⟩ : BlockV)) _ rfl rfl (by have h1 := HLN.out; simp; clear q_m q_c1 q_j1 q_j12; omega) hs8.out ?_
                        rintro _ W10 ho10 kA10 ⟨g10, cap10, rfl, hg10⟩
                        obtain ⟨n10, hn10⟩ : ∃ nx, nx = (([] ++ A) ++ [(⟨bo, ⟨pd, false, 0⟩, 0⟩ : BlockV)]).length + 1 := ⟨_, rfl⟩
                        rw [← hn10] at ho10 ⊢
                        replace hn10 := qH hn10
                        have x_ho10_B5 := qH (app_ne (m := n10) (c := cap10) hg10 hB5.out.lt (own_ne_new r_ho8_B5.out))
                        replace hst := qH (hst.out.own ho8.out gB4.out kA10)
                        replace hB1 := qH (hB1.out.own ho8.out kA10 (own_ne_old ho8.out o_B4_B1.out))
                        replace hB2 := qH (hB2.out.own ho8.out kA10 (own_ne_old ho8.out o_B4_B2.out))
                        replace hB3 := qH (hB3.out.own ho8.out kA10 (own_ne_old ho8.out o_B4_B3.out))
                        replace hB5 := qH (hB5.out.own ho8.out kA10 (own_ne_new r_ho8_B5.out))
                        replace ho10 := qH ho10
                        have hs10 := qH (Nat.le_trans hs8.out kA10.size)
                        clear kA10
                        have c_B1_1 := cB hB1 1
                        have l_B1 := hB1.out.lt)
                       | (
                        at_builtin
                        refine wpList_append_any kRB rfl _ _ rfl ho10.out rfl rfl (HVB.out.keeps_nil hst.out.keeps) nn (by have h1 := HLN.out.1; have h2 := HLN.out.2.1; have h3 := hnn.out; clear q_m q_c1 q_j1 q_j12; simp; omega) (show nn * 40 ≤ _ by clear q_m q_c1 q_j1 q_j12; omega) hs10.out (by decide) ?_
                        rintro _ W11 ho11 kA11 hg11 ⟨a11, c11, rfl⟩
                        have x_ho11_B5 := qH (app_ne2 hg11 hB5.out.lt x_ho10_B5.out)
                        replace hst := qH (hst.out.own ho10.out gB4.out kA11)
                        replace hB1 := qH (hB1.out.own ho10.out kA11 (own_ne_old ho10.out o_B4_B1.out))
                        replace hB2 := qH (hB2.out.own ho10.out kA11 (own_ne_old ho10.out o_B4_B2.out))
                        replace hB3 := qH (hB3.out.own ho10.out kA11 (own_ne_old ho10.out o_B4_B3.out))
                        replace hB5 := qH (hB5.out.own ho10.out kA11 x_ho10_B5.out)
                        replace ho11 := qH ho11
                        have hs11 := qH (Nat.le_trans hs10.out kA11.size)
                        clear kA11 hg11
                        replace c_B1_1 := cB hB1 1
                        have f_B1_1 := hB1.out.frz 1
                        replace l_B1 := hB1.out.lt
                        have ne_B2_B1 := nG nB1B2
                        have ne_B1_B2 := nH nB1B2
                        have ne_B3_B1 := nG nB1B3
                        have ne_B1_B3 := nH nB1B3
                        have ne_B5_B1 := nG nB1B5
                        have ne_B1_B5 := nH nB1B5
                        obtain ⟨W12, hW12⟩ := nm ((W11.setCell ⟨B1, 1, none⟩ (.slice a11 nn c11)))
                        replace f_B1_1 := hB1.out.frz 1
                        replace l_B1 := hB1.out.lt))
  clear c_B3_0 c_B3_1 l_B3 c_B1_1 l_B1 f_B1_1 ne_B2_B1 ne_B1_B2 ne_B3_B1 ne_B1_B3 ne_B5_B1 ne_B1_B5
  rw [← hW12.out]
  have kr1 : Keeps (fun k => k = B1) W11 W12 := by rw [hW12.out]; exact keeps_setCell W11 ⟨B1, 1, none⟩ _
  replace ho11 := qH (ho11.out.keeps' kr1 (fun g hg e => (own_ne_old ho11.out o_B4_B1.out) (by rw [← e]; exact hg)))
  replace hs11 := qH (Nat.le_trans hs11.out kr1.size)
  clear kr1
  replace hst := zS hW12 ((hst.out.set gB1.out _ _))
  replace hB1 := zC hW12 ((hB1.out.set _ _))
  replace hB2 := zB hW12 ((hB2.out.other (Nat.ne_of_gt nB1B2.out) _ _))
  replace hB3 := zB hW12 ((hB3.out.other (Nat.ne_of_gt nB1B3.out) _ _))
  replace hB5 := zB hW12 ((hB5.out.other (Nat.ne_of_gt nB1B5.out) _ _))
  obtain ⟨W13, hW13⟩ := nm (W12.drew)
  have kn := kD hW13
  replace hst := sN hst kn
  replace ho11 := qH (ho11.out.keeps_nil kn)
  replace hs11 := qH (Nat.le_trans hs11.out kn.size)
  replace hB1 := bN hB1 kn
  replace hB2 := bN hB2 kn
  replace hB3 := bN hB3 kn
  replace hB5 := bN hB5 kn
  clear kn
  refine wp_region_held_drew (S := fun w' => w'.cell? ⟨B1, 0, none⟩ = some (.int .u64 (e.toNat : Int)) ∧ w'.cell? ⟨B1, 1, none⟩ = some (.slice a11 nn c11) ∧ w'.cell? ⟨B1, 2, none⟩ = some (.slice (LA 0) (LN 0) (LC 0)) ∧ w'.cell? ⟨B1, 3, none⟩ = some (.slice (LA 1) (LN 1) (LC 1)) ∧ w'.cell? ⟨B1, 4, none⟩ = some (.slice (LA 2) (LN 2) (LC 2)) ∧ w'.cell? ⟨B1, 5, none⟩ = some (.slice (LA 3) (LN 3) (LC 3)) ∧ w'.cell? ⟨B1, 6, none⟩ = some (.slice (LA 4) (LN 4) (LC 4)) ∧ w'.cell? ⟨B1, 7, none⟩ = some (.slice (LA 5) (LN 5) (LC 5)) ∧ w'.cell? ⟨B1, 8, none⟩ = some (.slice (LA 6) (LN 6) (LC 6)) ∧ w'.cell? ⟨B1, 9, none⟩ = some (.slice (LA 7) (LN 7) (LC 7)) ∧ w'.cell? ⟨B5, 0, none⟩ = some (.int .u64 (uo.toNat : Int))) (by kernel_rfl) (by rw [← hW13.out]; exact ⟨cB hB1 0, cB hB1 1, cB hB1 2, cB hB1 3, cB hB1 4, cB hB1 5, cB hB1 6, cB hB1 7, cB hB1 8, cB hB1 9, cB hB5 0⟩) (fun hHeld => ?_)
  rw [← hW13.out] at hHeld ⊢
  refine fT 0 rfl hHeld ?_
  try simp only [Act.put, List.getElem_toArray, List.getElem_cons_zero, List.setIfInBounds_toArray, List.set_cons_zero, List.set_cons_succ]
  refine fT 1 rfl hHeld ?_; try simp only [sP,sQ]
  refine fT 2 rfl hHeld ?_; try simp only [sP,sQ]
  refine fT 3 rfl hHeld ?_; try simp only [sP,sQ]
  refine wpAnyH_ready (rs := [4]) (by kernel_rfl) (by simp) ?_
  refine (AllReadyH.cons (o := _) rfl (fun K hK => ?_) AllReadyH.nil)
  obtain ⟨W14, hW14⟩ := nm (W13.setRow B2 #[.int .u64 (e.toNat : Int), .slice a11 nn c11, .slice (LA 0) (LN 0) (LC 0), .slice (LA 1) (LN 1) (LC 1), .slice (LA 2) (LN 2) (LC 2), .slice (LA 3) (LN 3) (LC 3), .slice (LA 4) (LN 4) (LC 4), .slice (LA 5) (LN 5) (LC 5), .slice (LA 6) (LN 6) (LC 6), .slice (LA 7) (LN 7) (LC 7)])
  rw [if_pos (by rfl)]
  refine wp_store_row _ _ _ rfl rfl rfl hB2.out.1 (by kernel_rfl) rfl (by simp [Value.oneCell']) ?_
  try rw [← hW14.out]
  have kr2 : Keeps (fun k => k = B2) W13 W14 := by rw [hW14.out]; exact keeps_setRow _ _ _
  replace ho11 := qH (ho11.out.keeps' kr2 (fun g hg e => (own_ne_old ho11.out o_B4_B2.out) (by rw [← e]; exact hg)))
  replace hs11 := qH (Nat.le_trans hs11.out kr2.size)
  clear kr2
  replace hst := zS hW14 (hst.out.row gB2.out _)
  replace hB1 := zB hW14 (hB1.out.rowo (Nat.ne_of_lt nB1B2.out) _)
  replace hB2 := qH (show Bx W14 Nil B2 #[.int .u64 (e.toNat : Int), .slice a11 nn c11, .slice (LA 0) (LN 0) (LC 0), .slice (LA 1) (LN 1) (LC 1), .slice (LA 2) (LN 2) (LC 2), .slice (LA 3) (LN 3) (LC 3), .slice (LA 4) (LN 4) (LC 4), .slice (LA 5) (LN 5) (LC 5), .slice (LA 6) (LN 6) (LC 6), .slice (LA 7) (LN 7) (LC 7)] 30 by rw [hW14.out]; exact hB2.out.row _)
  replace hB3 := zB hW14 (hB3.out.rowo (Nat.ne_of_gt nB2B3.out) _)
  replace hB5 := zB hW14 (hB5.out.rowo (Nat.ne_of_gt nB2B5.out) _)
  refine hK.out _ _ (⟨cB hB1 0, cB hB1 1, cB hB1 2, cB hB1 3, cB hB1 4, cB hB1 5, cB hB1 6, cB hB1 7, cB hB1 8, cB hB1 9, cB hB5 0⟩) (fun hHeld => ?_)
  clear hK K
  try simp only [Act.put, List.getElem_toArray, List.getElem_cons_succ, List.getElem_cons_zero]
  refine fT 5 rfl hHeld ?_; try simp only [sP,sQ]
  refine fT 6 rfl hHeld ?_; try simp only [sP,sQ]
  refine fD ?_
  clear hHeld
  have c_B1_0 := cB hB1 0
  have c_B1_1 := cB hB1 1
  have c_B1_2 := cB hB1 2
  have c_B1_3 := cB hB1 3
  have c_B1_4 := cB hB1 4
  have c_B1_5 := cB hB1 5
  have c_B1_6 := cB hB1 6
  have c_B1_7 := cB hB1 7
  have c_B1_8 := cB hB1 8
  have c_B1_9 := cB hB1 9
  have l_B1 := hB1.out.lt
  have c_B2_0 := cB hB2 0
  have c_B2_1 := cB hB2 1
  have c_B2_2 := cB hB2 2
  have c_B2_3 := cB hB2 3
  have c_B2_4 := cB hB2 4
  have c_B2_5 := cB hB2 5
  have c_B2_6 := cB hB2 6
  have c_B2_7 := cB hB2 7
  have c_B2_8 := cB hB2 8
  have c_B2_9 := cB hB2 9
  have l_B2 := hB2.out.lt
  have c_B5_0 := cB hB5 0
  have l_B5 := hB5.out.lt
  go_wp2_with fail
  clear c_B1_0 c_B1_1 c_B1_2 c_B1_3 c_B1_4 c_B1_5 c_B1_6 c_B1_7 c_B1_8 c_B1_9 l_B1 c_B2_0 c_B2_1 c_B2_2 c_B2_3 c_B2_4 c_B2_5 c_B2_6 c_B2_7 c_B2_8 c_B2_9 l_B2 c_B5_0 l_B5
  refine bodyPost_ret (results_row_tmp2 rfl rfl hB2.out.1 Tryz.underlying30 rfl (by kernel_rfl)) rfl ?_
  exact ⟨_, rfl, by simpa using ho11.out.base gB4.out, hst.out.keeps⟩
theorem rTake_101 {w : World} {S : Nat → Prop} {e : UInt64} {vb : Value} {LA : Nat → Option Addr} {LN LC : Nat → Nat} {H : List BlockV} {j c : Nat} {bo bs bl pd nd rs uo us n a : UInt64} {bw ow : Int} {Ls : Nat → List UInt64}
  (hv0 : View kRB S w vb H)
  (hSl : ∀ k, S k → k < w.heap.size)
  (hj : H[j]? = some ⟨bo, ⟨bs, false, bw⟩, bl⟩)
  (hlen : H.length ≤ 65535)
  (hF : ∀ w', Keeps Nil w w' → Calls Tryz.prog 60 #[.agg #[.int .u64 (e.toNat : Int), vb, .slice (LA 0) (LN 0) (LC 0), .slice (LA 1) (LN 1) (LC 1), .slice (LA 2) (LN 2) (LC 2), .slice (LA 3) (LN 3) (LC 3), .slice (LA 4) (LN 4) (LC 4), .slice (LA 5) (LN 5) (LC 5), .slice (LA 6) (LN 6) (LC 6), .slice (LA 7) (LN 7) (LC 7)], .int .u64 (n.toNat : Int), .int .u64 (a.toNat : Int)] w' fun e' w2 => e' = .returned (.tuple #[.int .i64 (j : Int), .int .u64 (pd.toNat : Int), .int .u64 (nd.toNat : Int), .int .i64 0]) ∧ Keeps Nil w' w2)
  (huo : uo = bo + pd)
  (hrs : rs = bs - pd - nd)
  (hp : 0 < pd.toNat)
  (hr : rs.toNat < 48)
  (hus : us = nd + rs)
  (hLv : ∀ c, c < 8 → View kU S w (.slice (LA c) (LN c) (LC c)) (Ls c))
  (hc : c < 8)
  (how : ow = (c : Int) + 1)
  (hll : (Ls c).length ≤ 65535) :
  Calls Tryz.prog 63 #[.agg #[.int .u64 (e.toNat : Int), vb, .slice (LA 0) (LN 0) (LC 0), .slice (LA 1) (LN 1) (LC 1), .slice (LA 2) (LN 2) (LC 2), .slice (LA 3) (LN 3) (LC 3), .slice (LA 4) (LN 4) (LC 4), .slice (LA 5) (LN 5) (LC 5), .slice (LA 6) (LN 6) (LC 6), .slice (LA 7) (LN 7) (LC 7)], .int .i64 ow, .int .u64 (n.toNat : Int), .int .u64 (a.toNat : Int)] w fun e' w' => ∃ vb' aF nF cF, e' = .returned (.tuple #[.agg #[.int .u64 (e.toNat : Int), vb', .slice (famU LA c aF 0) (famU LN c nF 0) (famU LC c cF 0), .slice (famU LA c aF 1) (famU LN c nF 1) (famU LC c cF 1), .slice (famU LA c aF 2) (famU LN c nF 2) (famU LC c cF 2), .slice (famU LA c aF 3) (famU LN c nF 3) (famU LC c cF 3), .slice (famU LA c aF 4) (famU LN c nF 4) (famU LC c cF 4), .slice (famU LA c aF 5) (famU LN c nF 5) (famU LC c cF 5), .slice (famU LA c aF 6) (famU LN c nF 6) (famU LC c cF 6), .slice (famU LA c aF 7) (famU LN c nF 7) (famU LC c cF 7)], .int .u64 ((uo + 32).toNat : Int), .int .i64 0]) ∧ Own kRB w' w.heap.size vb' ((((H.take j ++ [⟨bo, ⟨pd, false, 0⟩, 0⟩]) ++ [⟨uo, ⟨us, true, ow⟩, n⟩])) ++ H.drop (j + 1)) ∧ Keeps Nil w w' ∧ Own kU w' w.heap.size (.slice aF nF cF) (uo :: Ls c) := by
 have hjl := (List.getElem?_eq_some_iff.1 hj).1
 obtain ⟨N, hN⟩ : ∃ N, N = H.length := ⟨_, rfl⟩
 obtain ⟨gb, go, cl, rfl, hcp, _, hgb, _, hcell⟩ := hv0.pos (by omega)
 rw [← hN] at hF hcp hv0 ⊢
 obtain ⟨j1, hj1⟩ : ∃ x, x = j + 1 := ⟨_, rfl⟩
 obtain ⟨m, hm⟩ : ∃ x, x = N - j1 := ⟨_, rfl⟩
 obtain ⟨c1, hc1⟩ : ∃ x, x = cl - j1 := ⟨_, rfl⟩
 obtain ⟨A, hA⟩ : ∃ x, x = H.take j := ⟨_, rfl⟩
 obtain ⟨C, hC⟩ : ∃ x, x = H.drop j1 := ⟨_, rfl⟩
 have hAl : A.length = j := by rw [hA, List.length_take]; omega
 have hCl : m = C.length := by rw [hC, List.length_drop, ← hN]; exact hm
 rw [← hj1, ← hA, ← hC]
 have hsp : H = A ++ ⟨bo, ⟨bs, false, bw⟩, bl⟩ :: C := by rw [hA, hC, hj1]; exact split_at hj
 have HVF := qH (vFrontK hv0 (A := A) (B := ⟨bo, ⟨bs, false, bw⟩, bl⟩ :: C) (m := j) hsp hAl.symm)
 have hb0 : View kRB S w (.slice (some ⟨gb, go + j1 * 5, none⟩) m c1) C := by rw [hc1]; exact vBackK hv0 (A := A ++ [⟨bo, ⟨bs, false, bw⟩, bl⟩]) (B := C) (by rw [hsp]; simp) (by simp; omega) hCl
 have hb1 : cl = j1 → View kRB S w (.slice (some ⟨gb, go, none⟩) m c1) C := fun e => vNoneK hv0 (by omega) (by omega)
 have HX := qH hj
 have HC := qH (show ∀ i j, j < kRB.size → i < H.length → w.cell? ⟨gb, go + (i * kRB.size + j), none⟩ = (H[i]?).bind (fun x => (kRB.enc x)[j]?) from hcell)
 have HGB := qH hgb
 have HSl := qH hSl
 have HF := qH hF
 have HLN := qH (And.intro hAl (And.intro hCl (show j + 1 + m ≤ 65535 by omega)))
 have hjN : j < N := by omega
 have hNc : N ≤ cl := hcp
 have hjc : j ≤ cl := by omega
 have hjc2 : j < cl := by omega
 have hj1N : j1 ≤ N := by omega
 have hj1c : j1 ≤ cl := by omega
 have hj6 : j ≤ 65535 := by omega
 have hN6 : N ≤ 65535 := by omega
 have hm6 : m ≤ 65535 := by omega
 have q_m := hm.symm
 have q_c1 := hc1.symm
 have q_j1 : wrap64 ((j : Int) + 1) = (j1 : Int) := by rw [hj1]; exact IntWalk.wrap64_in _ (by omega)
 have q_j12 : IntKind.i64.wrap ((j : Int) + 1) = (j1 : Int) := by rw [IntWalk.i64_left]; exact q_j1
 obtain ⟨ys, hys⟩ : ∃ y, y = bs - pd := ⟨_, rfl⟩
 obtain ⟨up, hup⟩ : ∃ y, y = uo + 32 := ⟨_, rfl⟩
 have q_uo : IntKind.u64.wrap ((bo.toNat : Int) + (pd.toNat : Int)) = (uo.toNat : Int) := by rw [huo]; exact u64_add bo pd
 have q_ys : IntKind.u64.wrap ((bs.toNat : Int) - (pd.toNat : Int)) = (ys.toNat : Int) := by rw [hys]; exact u64_sub bs pd
 have q_rs : IntKind.u64.wrap ((ys.toNat : Int) - (nd.toNat : Int)) = (rs.toNat : Int) := by rw [hrs, ← hys]; exact u64_sub ys nd
 have q_up : IntKind.u64.wrap ((uo.toNat : Int) + 32) = (up.toNat : Int) := by rw [hup]; exact u64_add uo 32
 rw [← hup]
 have q_us : IntKind.u64.wrap ((nd.toNat : Int) + (rs.toNat : Int)) = (us.toNat : Int) := by rw [hus]; exact u64_add nd rs
 have hr48 : rs.toNat < 48 := hr
 have hr49 : ¬ 48 ≤ rs.toNat := by omega
 have q_ow : wrap64 (ow - 1) = (c : Int) := by rw [how, show (c : Int) + 1 - 1 = (c : Int) by omega]; exact IntWalk.wrap64_in _ (by omega)
 have q_ow2 : IntKind.i64.wrap (ow - 1) = (c : Int) := by rw [IntWalk.i64_left]; exact q_ow
 have d_o1 : decide (ow < 0) = false := decide_eq_false (by omega)
 have d_o2 : decide (8 < ow) = false := decide_eq_false (by omega)
 have d_o3 : decide (0 < ow) = true := decide_eq_true (by omega)
 have HCc := qH hc
 have hc8 : (c : Int) < 8 := by omega
 have HLL := qH (And.intro (hLv c hc) hll)
 clear how hLv hll
 have hp0 := hp
 have HJ1 := qH hj1
 clear hv0 hSl hj hlen hF huo hrs hp hr hjl hN hcp hgb hcell hj1 hm hc1 hA hC hAl hCl hsp hys hup hus
 have hdis : ((cl = j1) = True ∧ View kRB S w (.slice (some ⟨gb, go, none⟩) m c1) C) ∨ ((cl = j1) = False ∧ View kRB S w (.slice (some ⟨gb, go + j1 * 5, none⟩) m c1) C) := by
  by_cases h : cl = j1
  · exact .inl ⟨eq_true h, hb1 h⟩
  · exact .inr ⟨eq_false h, hb0⟩
 clear hb0 hb1
 rcases hdis with ⟨q_e, HVB⟩ | ⟨q_e, HVB⟩
 all_goals
  replace HVB := qH HVB
  have hst := qH (Step.refl Nil w)
  go_enter Tryz.func63, Tryz.ntmps63
  have e_x0 := eX hst HGB (View.cellB HC.out j _ HX.out).1
  have e_x1 := eX hst HGB (View.cellB HC.out j _ HX.out).2.1
  have e_x2 := eX hst HGB (View.cellB HC.out j _ HX.out).2.2.1
  have e_x3 := eX hst HGB (View.cellB HC.out j _ HX.out).2.2.2.1
  have e_x4 := eX hst HGB (View.cellB HC.out j _ HX.out).2.2.2.2
  have l_gb := Nat.lt_of_lt_of_le HGB.out hst.out.keeps.size
  obtain ⟨W1, hW1⟩ := nm (w.alloc (.cells #[.int .u64 (e.toNat : Int), .slice (some ⟨gb, go, none⟩) N cl, .slice (LA 0) (LN 0) (LC 0), .slice (LA 1) (LN 1) (LC 1), .slice (LA 2) (LN 2) (LC 2), .slice (LA 3) (LN 3) (LC 3), .slice (LA 4) (LN 4) (LC 4), .slice (LA 5) (LN 5) (LC 5), .slice (LA 6) (LN 6) (LC 6), .slice (LA 7) (LN 7) (LC 7)] 30))
  obtain ⟨B1, eB1⟩ := nm (w.heap.size)
  obtain ⟨W2, hW2⟩ := nm (W1.alloc (.cells #[.int .u64 0, .slice none 0 0, .slice none 0 0, .slice none 0 0, .slice none 0 0, .slice none 0 0, .slice none 0 0, .slice none 0 0, .slice none 0 0, .slice none 0 0] 30))
  obtain ⟨B2, eB2⟩ := nm (w.heap.size + 1)
  go_wp2_with fail
  clear e_x0 e_x1 e_x2 e_x3 e_x4 l_gb
  rw [← hW1.out]
  rw [← hW2.out]
  try rw [← eB2.out]
  try rw [← eB1.out]
  have k1 := kA hW1
  have e0B1 := eB1.out
  have hB1 := zB hW1 (Bx.new Nil.lt _ _ e0B1)
  have gB1 := gZ e0B1 hst
  replace hst := sN hst k1
  clear k1 e0B1
  have k2 := kA hW2
  have e0B2 : B2 = W1.heap.size := by rw [eB2.out, hW1.out]; simp []
  have hB2 := zB hW2 (Bx.new Nil.lt _ _ e0B2)
  have gB2 := gZ e0B2 hst
  have nB1B2 := nZ e0B2 hB1
  replace hst := sN hst k2
  replace hB1 := bN hB1 k2
  clear k2 e0B2
  refine (HF.out _ hst.out.keeps).mono ?_
  rintro _ W3 ⟨rfl, kn⟩
  replace hst := sN hst kn
  replace hB1 := bN hB1 kn
  replace hB2 := bN hB2 kn
  clear kn
  have c_B1_1 := cB hB1 1
  have l_B1 := hB1.out.lt
  have e_x0 := eX hst HGB (View.cellB HC.out j _ HX.out).1
  have e_x1 := eX hst HGB (View.cellB HC.out j _ HX.out).2.1
  have e_x2 := eX hst HGB (View.cellB HC.out j _ HX.out).2.2.1
  have e_x3 := eX hst HGB (View.cellB HC.out j _ HX.out).2.2.2.1
  have e_x4 := eX hst HGB (View.cellB HC.out j _ HX.out).2.2.2.2
  have l_gb := Nat.lt_of_lt_of_le HGB.out hst.out.keeps.size
  go_wp2_with (
   at_builtin
   obtain ⟨W4, hW4⟩ := nm (W3.alloc (.cells #[.int .u64 (bo.toNat : Int), .int .u64 (bs.toNat : Int), .bool false, .int .i64 bw, .int .u64 (bl.toNat : Int)] 63))
   obtain ⟨B3, eB3⟩ := nm (W3.heap.size)
   obtain ⟨W5, hW5⟩ := nm (W4.alloc (.cells #[] 63))
   obtain ⟨B4, eB4⟩ := nm (W3.heap.size + 1)
   rw [← hW4.out]
   rw [← hW5.out]
   try rw [← eB4.out]
   try rw [← eB3.out]
   have k3 := kA hW4
   have e0B3 := eB3.out
   have hB3 := zB hW4 (Bx.new Nil.lt _ _ e0B3)
   have gB3 := gZ e0B3 hst
   have nB1B3 := nZ e0B3 hB1
   have nB2B3 := nZ e0B3 hB2
   replace hst := sN hst k3
   replace hB1 := bN hB1 k3
   replace hB2 := bN hB2 k3
   clear k3 e0B3
   have k4 := kA hW5
   have e0B4 : B4 = W4.heap.size := by rw [eB4.out, hW4.out]; simp []
   have hB4 := zB hW5 (Bx.new Nil.lt _ _ e0B4)
   have gB4 := gZ e0B4 hst
   have nB1B4 := nZ e0B4 hB1
   have nB2B4 := nZ e0B4 hB2
   have nB3B4 := nZ e0B4 hB3
   replace hst := sN hst k4
   replace hB1 := bN hB1 k4
   replace hB2 := bN hB2 k4
   replace hB3 := bN hB3 k4
   clear k4 e0B4
   have hO6 := (show Own kRB W5 B4 (.slice (some ⟨B4, 0, none⟩) 0 0) [] by rw [show B4 = W4.heap.size by rw [eB4.out, hW4.out]; simp [], hW5.out]; exact Own.made kRB _ _ (Nat.le_refl _))
   have hB6 := Nat.le_of_lt hB4.out.lt
   clear hB4
   have o_B4_B1 := nB1B4
   have o_B4_B2 := nB2B4
   have o_B4_B3 := nB3B4
   refine wpList_append_any kRB rfl _ _ rfl hO6 rfl rfl (HVF.out.keeps_nil hst.out.keeps) j (by rw [List.length_nil, Nat.zero_add]; exact HLN.out.1) (show j * 40 ≤ _ by clear q_m q_c1 q_j1 q_j12; omega) hB6 (by decide) ?_
   rintro _ W6 ho6 kA6 hg6 ⟨a6, c6, rfl⟩
   replace hst := qH (hst.out.own hO6 gB4.out kA6)
   replace hB1 := qH (hB1.out.own hO6 kA6 (own_ne_old hO6 nB1B4.out))
   replace hB2 := qH (hB2.out.own hO6 kA6 (own_ne_old hO6 nB2B4.out))
   replace hB3 := qH (hB3.out.own hO6 kA6 (own_ne_old hO6 nB3B4.out))
   replace ho6 := qH ho6
   have hs6 := qH (Nat.le_trans hB6 kA6.size)
   clear kA6 hg6 hO6 hB6
   have d1 : decide (0 < pd.toNat) = true := decide_eq_true (hp0)
   have c_B3_0 := cB hB3 0
   have l_B3 := hB3.out.lt)
  clear c_B1_1 l_B1 e_x0 e_x1 e_x2 e_x3 e_x4 l_gb c_B3_0 l_B3
  refine (r10free_any _ bo pd).mono ?_
  rintro _ W7 ⟨rfl, kn⟩
  rw [free_cells]
  replace hst := sN hst kn
  replace ho6 := qH (ho6.out.keeps_nil kn)
  replace hs6 := qH (Nat.le_trans hs6.out kn.size)
  replace hB1 := bN hB1 kn
  replace hB2 := bN hB2 kn
  replace hB3 := bN hB3 kn
  clear kn
  have d2 : decide (rs.toNat < 48) = true := decide_eq_true (hr48)
  obtain ⟨nn, hnn⟩ : ∃ x, x = j + 2 + m := ⟨_, rfl⟩
  have hn6 : nn ≤ 65540 := by rw [hnn]; have h := HLN.out.2.2; clear q_m q_c1 q_j1 q_j12; omega
  replace hnn := qH hnn
  have d3 : decide (48 ≤ rs.toNat) = false := decide_eq_false (hr49)
  go_wp2_with (first
                       | (
                        at_builtin
                        refine wpList_append_one kRB rfl _ _ rfl ho6.out rfl ((⟨bo, ⟨pd, false, 0⟩, 0⟩ : BlockV)) _ rfl rfl (by have h1 := HLN.out; simp; clear q_m q_c1 q_j1 q_j12; omega) hs6.out ?_
                        rintro _ W8 ho8 kA8 ⟨g8, cap8, rfl, hg8⟩
                        obtain ⟨n8, hn8⟩ : ∃ nx, nx = ([] ++ A).length + 1 := ⟨_, rfl⟩
                        rw [← hn8] at ho8 ⊢
                        replace hn8 := qH hn8
                        replace hst := qH (hst.out.own ho6.out gB4.out kA8)
                        replace hB1 := qH (hB1.out.own ho6.out kA8 (own_ne_old ho6.out o_B4_B1.out))
                        replace hB2 := qH (hB2.out.own ho6.out kA8 (own_ne_old ho6.out o_B4_B2.out))
                        replace hB3 := qH (hB3.out.own ho6.out kA8 (own_ne_old ho6.out o_B4_B3.out))
                        replace ho8 := qH ho8
                        have hs8 := qH (Nat.le_trans hs6.out kA8.size)
                        clear kA8
                        have c_B3_0 := cB hB3 0
                        have c_B3_1 := cB hB3 1
                        have l_B3 := hB3.out.lt)
                       | (
                        at_builtin
                        obtain ⟨W9, hW9⟩ := nm (W8.alloc (.cells #[.int .u64 (uo.toNat : Int), .int .u64 (us.toNat : Int), .bool true, .int .i64 ow, .int .u64 (n.toNat : Int)] 63))
                        obtain ⟨B5, eB5⟩ := nm (W8.heap.size)
                        rw [show W8.heap.size + 1 = W9.heap.size by rw [hW9.out]; simp []]
                        rw [← hW9.out]
                        try rw [← eB5.out]
                        have k5 := kA hW9
                        have e0B5 := eB5.out
                        have hB5 := zB hW9 (Bx.new Nil.lt _ _ e0B5)
                        have gB5 := gZ e0B5 hst
                        have nB1B5 := nZ e0B5 hB1
                        have nB2B5 := nZ e0B5 hB2
                        have nB3B5 := nZ e0B5 hB3
                        have r_ho8_B5 := qH (show ∀ g, (.slice (some ⟨g8, 0, none⟩) n8 cap8 : Value).ownBlock = some g → g < B5 by intro g hg; rw [e0B5]; exact (ho8.out.block hg).2)
                        replace hst := sN hst k5
                        replace ho8 := qH (ho8.out.keeps_nil k5)
                        replace hs8 := qH (Nat.le_trans hs8.out k5.size)
                        replace hB1 := bN hB1 k5
                        replace hB2 := bN hB2 k5
                        replace hB3 := bN hB3 k5
                        clear k5 e0B5
                        refine wpList_append_one kRB rfl _ _ rfl ho8.out rfl ((⟨uo, ⟨us, true, ow⟩, n⟩ : BlockV)) _ rfl rfl (by have h1 := HLN.out; simp; clear q_m q_c1 q_j1 q_j12; omega) hs8.out ?_
                        rintro _ W10 ho10 kA10 ⟨g10, cap10, rfl, hg10⟩
                        obtain ⟨n10, hn10⟩ : ∃ nx, nx = (([] ++ A) ++ [(⟨bo, ⟨pd, false, 0⟩, 0⟩ : BlockV)]).length + 1 := ⟨_, rfl⟩
                        rw [← hn10] at ho10 ⊢
                        replace hn10 := qH hn10
                        have x_ho10_B5 := qH (app_ne (m := n10) (c := cap10) hg10 hB5.out.lt (own_ne_new r_ho8_B5.out))
                        replace hst := qH (hst.out.own ho8.out gB4.out kA10)
                        replace hB1 := qH (hB1.out.own ho8.out kA10 (own_ne_old ho8.out o_B4_B1.out))
                        replace hB2 := qH (hB2.out.own ho8.out kA10 (own_ne_old ho8.out o_B4_B2.out))
                        replace hB3 := qH (hB3.out.own ho8.out kA10 (own_ne_old ho8.out o_B4_B3.out))
                        replace hB5 := qH (hB5.out.own ho8.out kA10 (own_ne_new r_ho8_B5.out))
                        replace ho10 := qH ho10
                        have hs10 := qH (Nat.le_trans hs8.out kA10.size)
                        clear kA10
                        have c_B1_1 := cB hB1 1
                        have l_B1 := hB1.out.lt)
                       | (
                        at_builtin
                        refine wpList_append_any kRB rfl _ _ rfl ho10.out rfl rfl (HVB.out.keeps_nil hst.out.keeps) nn (by have h1 := HLN.out.1; have h2 := HLN.out.2.1; have h3 := hnn.out; clear q_m q_c1 q_j1 q_j12; simp; omega) (show nn * 40 ≤ _ by clear q_m q_c1 q_j1 q_j12; omega) hs10.out (by decide) ?_
                        rintro _ W11 ho11 kA11 hg11 ⟨a11, c11, rfl⟩
                        have x_ho11_B5 := qH (app_ne2 hg11 hB5.out.lt x_ho10_B5.out)
                        replace hst := qH (hst.out.own ho10.out gB4.out kA11)
                        replace hB1 := qH (hB1.out.own ho10.out kA11 (own_ne_old ho10.out o_B4_B1.out))
                        replace hB2 := qH (hB2.out.own ho10.out kA11 (own_ne_old ho10.out o_B4_B2.out))
                        replace hB3 := qH (hB3.out.own ho10.out kA11 (own_ne_old ho10.out o_B4_B3.out))
                        replace hB5 := qH (hB5.out.own ho10.out kA11 x_ho10_B5.out)
                        replace ho11 := qH ho11
                        have hs11 := qH (Nat.le_trans hs10.out kA11.size)
                        clear kA11 hg11
                        replace c_B1_1 := cB hB1 1
                        have f_B1_1 := hB1.out.frz 1
                        replace l_B1 := hB1.out.lt
                        have ne_B2_B1 := nG nB1B2
                        have ne_B1_B2 := nH nB1B2
                        have ne_B3_B1 := nG nB1B3
                        have ne_B1_B3 := nH nB1B3
                        have ne_B5_B1 := nG nB1B5
                        have ne_B1_B5 := nH nB1B5
                        obtain ⟨W12, hW12⟩ := nm ((W11.setCell ⟨B1, 1, none⟩ (.slice a11 nn c11)))
                        replace f_B1_1 := hB1.out.frz 1
                        replace l_B1 := hB1.out.lt))
  clear c_B3_0 c_B3_1 l_B3 c_B1_1 l_B1 f_B1_1 ne_B2_B1 ne_B1_B2 ne_B3_B1 ne_B1_B3 ne_B5_B1 ne_B1_B5
  rw [← hW12.out]
  have kr1 : Keeps (fun k => k = B1) W11 W12 := by rw [hW12.out]; exact keeps_setCell W11 ⟨B1, 1, none⟩ _
  replace ho11 := qH (ho11.out.keeps' kr1 (fun g hg e => (own_ne_old ho11.out o_B4_B1.out) (by rw [← e]; exact hg)))
  replace hs11 := qH (Nat.le_trans hs11.out kr1.size)
  clear kr1
  replace hst := zS hW12 ((hst.out.set gB1.out _ _))
  replace hB1 := zC hW12 ((hB1.out.set _ _))
  replace hB2 := zB hW12 ((hB2.out.other (Nat.ne_of_gt nB1B2.out) _ _))
  replace hB3 := zB hW12 ((hB3.out.other (Nat.ne_of_gt nB1B3.out) _ _))
  replace hB5 := zB hW12 ((hB5.out.other (Nat.ne_of_gt nB1B5.out) _ _))
  obtain ⟨W13, hW13⟩ := nm (W12.drew)
  have kn := kD hW13
  replace hst := sN hst kn
  replace ho11 := qH (ho11.out.keeps_nil kn)
  replace hs11 := qH (Nat.le_trans hs11.out kn.size)
  replace hB1 := bN hB1 kn
  replace hB2 := bN hB2 kn
  replace hB3 := bN hB3 kn
  replace hB5 := bN hB5 kn
  clear kn
  refine wp_region_held_drew (S := fun w' => w'.cell? ⟨B5, 0, none⟩ = some (.int .u64 (uo.toNat : Int))) (by kernel_rfl) (by rw [← hW13.out]; exact cB hB5 0) (fun hHeld => ?_)
  rw [← hW13.out] at hHeld ⊢
  refine fT 0 rfl hHeld ?_
  try simp only [Act.put, List.getElem_toArray, List.getElem_cons_zero, List.setIfInBounds_toArray, List.set_cons_zero, List.set_cons_succ]
  refine fT 1 rfl hHeld ?_; try simp only [sP,sQ]
  refine fT 2 rfl hHeld ?_; try simp only [sP,sQ]
  refine fT 3 rfl hHeld ?_; try simp only [sP,sQ]
  refine fT 4 rfl hHeld ?_; try simp only [sP,sQ]
  refine fT 5 rfl hHeld ?_; try simp only [sP,sQ]
  refine fT 7 rfl hHeld ?_; try simp only [sP,sQ]
  refine fT 8 rfl hHeld ?_; try simp only [sP,sQ]
  refine fT 10 rfl hHeld ?_; try simp only [sP,sQ]
  refine wpAnyH_ready (rs := [6]) (by kernel_rfl) (by simp) ?_
  refine (AllReadyH.cons (o := _) rfl (fun K hK => ?_) AllReadyH.nil)
  have e_l := hB1.out.famc HCc.out
  have f_l := hB1.out.frz (2 + c)
  go_simp
  clear e_l f_l
  refine hK.out _ _ (cB hB5 0) (fun hHeld => ?_)
  clear hK K
  try simp only [sP,sQ]
  refine wpAnyH_ready (rs := [9]) (by kernel_rfl) (by simp) ?_
  refine (AllReadyH.cons (o := _) rfl (fun K hK => ?_) AllReadyH.nil)
  go_simp
  obtain ⟨fb, hfb⟩ : ∃ b, b = W13.heap.size := ⟨_, rfl⟩
  have gfb := gZ hfb hst
  have o_fb_B1 := qH (show B1 < fb by rw [hfb]; exact hB1.out.lt)
  have o_fb_B2 := qH (show B2 < fb by rw [hfb]; exact hB2.out.lt)
  have o_fb_B3 := qH (show B3 < fb by rw [hfb]; exact hB3.out.lt)
  have o_fb_B5 := qH (show B5 < fb by rw [hfb]; exact hB5.out.lt)
  have sfb := qH (show fb ≤ W13.heap.size by rw [hfb]; exact Nat.le_refl _)
  clear hfb
  have hkF := hst.out.keeps
  refine (rFirst_any uo (HLL.out.1.keeps_nil hkF) HLL.out.2).mono ?_
  rintro _ W14 ⟨vF, rfl, hoF, kn⟩
  obtain ⟨aF, cF, rfl⟩ := hoF.valN
  obtain ⟨nF, hnF⟩ : ∃ n, n = (uo :: Ls c).length := ⟨_, rfl⟩
  rw [← hnF] at hoF ⊢
  replace hnF := qH hnF
  replace hoF := qH (hoF.base sfb.out)
  have hsF := qH (Nat.le_trans sfb.out kn.size)
  clear hkF
  replace hst := sN hst kn
  replace ho11 := qH (ho11.out.keeps_nil kn)
  replace hs11 := qH (Nat.le_trans hs11.out kn.size)
  replace hB1 := bN hB1 kn
  replace hB2 := bN hB2 kn
  replace hB3 := bN hB3 kn
  replace hB5 := bN hB5 kn
  clear kn
  refine hK.out _ _ (cB hB5 0) (fun hHeld => ?_)
  clear hK K
  try simp only [sP,sQ]
  refine fT 11 rfl hHeld ?_; try simp only [sP,sQ]
  refine wpAnyH_ready (rs := [12]) (by kernel_rfl) (by simp) ?_
  refine (AllReadyH.cons (o := _) rfl (fun K hK => ?_) AllReadyH.nil)
  have l_B1 := hB1.out.lt
  have e_l := hB1.out.famc HCc.out
  have f_l := hB1.out.frz (2 + c)
  have ne_B2_B1 := nG nB1B2
  have ne_B1_B2 := nH nB1B2
  have ne_B3_B1 := nG nB1B3
  have ne_B1_B3 := nH nB1B3
  have ne_B5_B1 := nG nB1B5
  have ne_B1_B5 := nH nB1B5
  obtain ⟨W15, hW15⟩ := nm ((W14.setCell ⟨B1, 2 + c, none⟩ (.slice aF nF cF)))
  go_simp
  clear l_B1 e_l f_l ne_B2_B1 ne_B1_B2 ne_B3_B1 ne_B1_B3 ne_B5_B1 ne_B1_B5
  rw [← hW15.out]
  have kr2 : Keeps (fun k => k = B1) W14 W15 := by rw [hW15.out]; exact keeps_setCell W14 ⟨B1, 2 + c, none⟩ _
  replace ho11 := qH (ho11.out.keeps' kr2 (fun g hg e => (own_ne_old ho11.out o_B4_B1.out) (by rw [← e]; exact hg)))
  replace hs11 := qH (Nat.le_trans hs11.out kr2.size)
  clear kr2
  have kr3 : Keeps (fun k => k = B1) W14 W15 := by rw [hW15.out]; exact keeps_setCell W14 ⟨B1, 2 + c, none⟩ _
  replace hoF := qH (hoF.out.keeps' kr3 (fun g hg e => (own_ne_old hoF.out o_fb_B1.out) (by rw [← e]; exact hg)))
  replace hsF := qH (Nat.le_trans hsF.out kr3.size)
  clear kr3
  replace hst := zS hW15 ((hst.out.set gB1.out _ _))
  replace hB1 := qH (show Bx W15 Nil B1 #[.int .u64 (e.toNat : Int), .slice a11 nn c11, .slice (famU LA c aF 0) (famU LN c nF 0) (famU LC c cF 0), .slice (famU LA c aF 1) (famU LN c nF 1) (famU LC c cF 1), .slice (famU LA c aF 2) (famU LN c nF 2) (famU LC c cF 2), .slice (famU LA c aF 3) (famU LN c nF 3) (famU LC c cF 3), .slice (famU LA c aF 4) (famU LN c nF 4) (famU LC c cF 4), .slice (famU LA c aF 5) (famU LN c nF 5) (famU LC c cF 5), .slice (famU LA c aF 6) (famU LN c nF 6) (famU LC c cF 6), .slice (famU LA c aF 7) (famU LN c nF 7) (famU LC c cF 7)] 30 by rw [hW15.out]; exact (hB1.out.fam HCc.out))
  replace hB2 := zB hW15 ((hB2.out.other (Nat.ne_of_gt nB1B2.out) _ _))
  replace hB3 := zB hW15 ((hB3.out.other (Nat.ne_of_gt nB1B3.out) _ _))
  replace hB5 := zB hW15 ((hB5.out.other (Nat.ne_of_gt nB1B5.out) _ _))
  refine hK.out _ _ (cB hB5 0) (fun hHeld => ?_)
  clear hK K
  try simp only [sP,sQ]
  refine fD ?_
  clear hHeld
  have c_B5_0 := cB hB5 0
  have l_B5 := hB5.out.lt
  go_wp2_with fail
  clear c_B5_0 l_B5
  obtain ⟨W16, hW16⟩ := nm (W15.drew)
  have kn := kD hW16
  replace hst := sN hst kn
  replace ho11 := qH (ho11.out.keeps_nil kn)
  replace hs11 := qH (Nat.le_trans hs11.out kn.size)
  replace hoF := qH (hoF.out.keeps_nil kn)
  replace hsF := qH (Nat.le_trans hsF.out kn.size)
  replace hB1 := bN hB1 kn
  replace hB2 := bN hB2 kn
  replace hB3 := bN hB3 kn
  replace hB5 := bN hB5 kn
  clear kn
  refine wp_region_held_drew (S := fun w' => w'.cell? ⟨B1, 0, none⟩ = some (.int .u64 (e.toNat : Int)) ∧ w'.cell? ⟨B1, 1, none⟩ = some (.slice a11 nn c11) ∧ w'.cell? ⟨B1, 2, none⟩ = some (.slice (famU LA c aF 0) (famU LN c nF 0) (famU LC c cF 0)) ∧ w'.cell? ⟨B1, 3, none⟩ = some (.slice (famU LA c aF 1) (famU LN c nF 1) (famU LC c cF 1)) ∧ w'.cell? ⟨B1, 4, none⟩ = some (.slice (famU LA c aF 2) (famU LN c nF 2) (famU LC c cF 2)) ∧ w'.cell? ⟨B1, 5, none⟩ = some (.slice (famU LA c aF 3) (famU LN c nF 3) (famU LC c cF 3)) ∧ w'.cell? ⟨B1, 6, none⟩ = some (.slice (famU LA c aF 4) (famU LN c nF 4) (famU LC c cF 4)) ∧ w'.cell? ⟨B1, 7, none⟩ = some (.slice (famU LA c aF 5) (famU LN c nF 5) (famU LC c cF 5)) ∧ w'.cell? ⟨B1, 8, none⟩ = some (.slice (famU LA c aF 6) (famU LN c nF 6) (famU LC c cF 6)) ∧ w'.cell? ⟨B1, 9, none⟩ = some (.slice (famU LA c aF 7) (famU LN c nF 7) (famU LC c cF 7)) ∧ w'.cell? ⟨B5, 0, none⟩ = some (.int .u64 (uo.toNat : Int))) (by kernel_rfl) (by rw [← hW16.out]; exact ⟨cB hB1 0, cB hB1 1, cB hB1 2, cB hB1 3, cB hB1 4, cB hB1 5, cB hB1 6, cB hB1 7, cB hB1 8, cB hB1 9, cB hB5 0⟩) (fun hHeld => ?_)
  rw [← hW16.out] at hHeld ⊢
  refine fT 0 rfl hHeld ?_
  try simp only [Act.put, List.getElem_toArray, List.getElem_cons_zero, List.setIfInBounds_toArray, List.set_cons_zero, List.set_cons_succ]
  refine fT 1 rfl hHeld ?_; try simp only [sP,sQ]
  refine fT 2 rfl hHeld ?_; try simp only [sP,sQ]
  refine fT 3 rfl hHeld ?_; try simp only [sP,sQ]
  refine wpAnyH_ready (rs := [4]) (by kernel_rfl) (by simp) ?_
  refine (AllReadyH.cons (o := _) rfl (fun K hK => ?_) AllReadyH.nil)
  obtain ⟨W17, hW17⟩ := nm (W16.setRow B2 #[.int .u64 (e.toNat : Int), .slice a11 nn c11, .slice (famU LA c aF 0) (famU LN c nF 0) (famU LC c cF 0), .slice (famU LA c aF 1) (famU LN c nF 1) (famU LC c cF 1), .slice (famU LA c aF 2) (famU LN c nF 2) (famU LC c cF 2), .slice (famU LA c aF 3) (famU LN c nF 3) (famU LC c cF 3), .slice (famU LA c aF 4) (famU LN c nF 4) (famU LC c cF 4), .slice (famU LA c aF 5) (famU LN c nF 5) (famU LC c cF 5), .slice (famU LA c aF 6) (famU LN c nF 6) (famU LC c cF 6), .slice (famU LA c aF 7) (famU LN c nF 7) (famU LC c cF 7)])
  rw [if_pos (by rfl)]
  refine wp_store_row _ _ _ rfl rfl rfl hB2.out.1 (by kernel_rfl) rfl (by simp [Value.oneCell']) ?_
  try rw [← hW17.out]
  have kr4 : Keeps (fun k => k = B2) W16 W17 := by rw [hW17.out]; exact keeps_setRow _ _ _
  replace ho11 := qH (ho11.out.keeps' kr4 (fun g hg e => (own_ne_old ho11.out o_B4_B2.out) (by rw [← e]; exact hg)))
  replace hs11 := qH (Nat.le_trans hs11.out kr4.size)
  clear kr4
  have kr5 : Keeps (fun k => k = B2) W16 W17 := by rw [hW17.out]; exact keeps_setRow _ _ _
  replace hoF := qH (hoF.out.keeps' kr5 (fun g hg e => (own_ne_old hoF.out o_fb_B2.out) (by rw [← e]; exact hg)))
  replace hsF := qH (Nat.le_trans hsF.out kr5.size)
  clear kr5
  replace hst := zS hW17 (hst.out.row gB2.out _)
  replace hB1 := zB hW17 (hB1.out.rowo (Nat.ne_of_lt nB1B2.out) _)
  replace hB2 := qH (show Bx W17 Nil B2 #[.int .u64 (e.toNat : Int), .slice a11 nn c11, .slice (famU LA c aF 0) (famU LN c nF 0) (famU LC c cF 0), .slice (famU LA c aF 1) (famU LN c nF 1) (famU LC c cF 1), .slice (famU LA c aF 2) (famU LN c nF 2) (famU LC c cF 2), .slice (famU LA c aF 3) (famU LN c nF 3) (famU LC c cF 3), .slice (famU LA c aF 4) (famU LN c nF 4) (famU LC c cF 4), .slice (famU LA c aF 5) (famU LN c nF 5) (famU LC c cF 5), .slice (famU LA c aF 6) (famU LN c nF 6) (famU LC c cF 6), .slice (famU LA c aF 7) (famU LN c nF 7) (famU LC c cF 7)] 30 by rw [hW17.out]; exact hB2.out.row _)
  replace hB3 := zB hW17 (hB3.out.rowo (Nat.ne_of_gt nB2B3.out) _)
  replace hB5 := zB hW17 (hB5.out.rowo (Nat.ne_of_gt nB2B5.out) _)
  refine hK.out _ _ (⟨cB hB1 0, cB hB1 1, cB hB1 2, cB hB1 3, cB hB1 4, cB hB1 5, cB hB1 6, cB hB1 7, cB hB1 8, cB hB1 9, cB hB5 0⟩) (fun hHeld => ?_)
  clear hK K
  try simp only [Act.put, List.getElem_toArray, List.getElem_cons_succ, List.getElem_cons_zero]
  refine fT 5 rfl hHeld ?_; try simp only [sP,sQ]
  refine fT 6 rfl hHeld ?_; try simp only [sP,sQ]
  refine fD ?_
  clear hHeld
  have c_B1_0 := cB hB1 0
  have c_B1_1 := cB hB1 1
  have c_B1_2 := cB hB1 2
  have c_B1_3 := cB hB1 3
  have c_B1_4 := cB hB1 4
  have c_B1_5 := cB hB1 5
  have c_B1_6 := cB hB1 6
  have c_B1_7 := cB hB1 7
  have c_B1_8 := cB hB1 8
  have c_B1_9 := cB hB1 9
  have l_B1 := hB1.out.lt
  have c_B2_0 := cB hB2 0
  have c_B2_1 := cB hB2 1
  have c_B2_2 := cB hB2 2
  have c_B2_3 := cB hB2 3
  have c_B2_4 := cB hB2 4
  have c_B2_5 := cB hB2 5
  have c_B2_6 := cB hB2 6
  have c_B2_7 := cB hB2 7
  have c_B2_8 := cB hB2 8
  have c_B2_9 := cB hB2 9
  have l_B2 := hB2.out.lt
  have c_B5_0 := cB hB5 0
  have l_B5 := hB5.out.lt
  go_wp2_with fail
  clear c_B1_0 c_B1_1 c_B1_2 c_B1_3 c_B1_4 c_B1_5 c_B1_6 c_B1_7 c_B1_8 c_B1_9 l_B1 c_B2_0 c_B2_1 c_B2_2 c_B2_3 c_B2_4 c_B2_5 c_B2_6 c_B2_7 c_B2_8 c_B2_9 l_B2 c_B5_0 l_B5
  refine bodyPost_ret (results_row_tmp2 rfl rfl hB2.out.1 Tryz.underlying30 rfl (by kernel_rfl)) rfl ?_
  exact ⟨_, _, _, _, rfl, by simpa using ho11.out.base gB4.out, hst.out.keeps, hoF.out.base gfb.out⟩
theorem rTake_110 {w : World} {S : Nat → Prop} {e : UInt64} {vb : Value} {LA : Nat → Option Addr} {LN LC : Nat → Nat} {H : List BlockV} {j : Nat} {bo bs bl pd nd rs uo us ro n a : UInt64} {bw : Int}
  (hv0 : View kRB S w vb H)
  (hSl : ∀ k, S k → k < w.heap.size)
  (hj : H[j]? = some ⟨bo, ⟨bs, false, bw⟩, bl⟩)
  (hlen : H.length ≤ 65535)
  (hF : ∀ w', Keeps Nil w w' → Calls Tryz.prog 60 #[.agg #[.int .u64 (e.toNat : Int), vb, .slice (LA 0) (LN 0) (LC 0), .slice (LA 1) (LN 1) (LC 1), .slice (LA 2) (LN 2) (LC 2), .slice (LA 3) (LN 3) (LC 3), .slice (LA 4) (LN 4) (LC 4), .slice (LA 5) (LN 5) (LC 5), .slice (LA 6) (LN 6) (LC 6), .slice (LA 7) (LN 7) (LC 7)], .int .u64 (n.toNat : Int), .int .u64 (a.toNat : Int)] w' fun e' w2 => e' = .returned (.tuple #[.int .i64 (j : Int), .int .u64 (pd.toNat : Int), .int .u64 (nd.toNat : Int), .int .i64 0]) ∧ Keeps Nil w' w2)
  (huo : uo = bo + pd)
  (hrs : rs = bs - pd - nd)
  (hp : 0 < pd.toNat)
  (hr : ¬ rs.toNat < 48)
  (hro : ro = uo + nd)
  (hus : us = nd) :
  Calls Tryz.prog 63 #[.agg #[.int .u64 (e.toNat : Int), vb, .slice (LA 0) (LN 0) (LC 0), .slice (LA 1) (LN 1) (LC 1), .slice (LA 2) (LN 2) (LC 2), .slice (LA 3) (LN 3) (LC 3), .slice (LA 4) (LN 4) (LC 4), .slice (LA 5) (LN 5) (LC 5), .slice (LA 6) (LN 6) (LC 6), .slice (LA 7) (LN 7) (LC 7)], .int .i64 0, .int .u64 (n.toNat : Int), .int .u64 (a.toNat : Int)] w fun e' w' => ∃ vb', e' = .returned (.tuple #[.agg #[.int .u64 (e.toNat : Int), vb', .slice (LA 0) (LN 0) (LC 0), .slice (LA 1) (LN 1) (LC 1), .slice (LA 2) (LN 2) (LC 2), .slice (LA 3) (LN 3) (LC 3), .slice (LA 4) (LN 4) (LC 4), .slice (LA 5) (LN 5) (LC 5), .slice (LA 6) (LN 6) (LC 6), .slice (LA 7) (LN 7) (LC 7)], .int .u64 ((uo + 32).toNat : Int), .int .i64 0]) ∧ Own kRB w' w.heap.size vb' ((((H.take j ++ [⟨bo, ⟨pd, false, 0⟩, 0⟩]) ++ [⟨uo, ⟨us, true, 0⟩, n⟩]) ++ [⟨ro, ⟨rs, false, 0⟩, 0⟩]) ++ H.drop (j + 1)) ∧ Keeps Nil w w' := by
 have hjl := (List.getElem?_eq_some_iff.1 hj).1
 obtain ⟨N, hN⟩ : ∃ N, N = H.length := ⟨_, rfl⟩
 obtain ⟨gb, go, cl, rfl, hcp, _, hgb, _, hcell⟩ := hv0.pos (by omega)
 rw [← hN] at hF hcp hv0 ⊢
 obtain ⟨j1, hj1⟩ : ∃ x, x = j + 1 := ⟨_, rfl⟩
 obtain ⟨m, hm⟩ : ∃ x, x = N - j1 := ⟨_, rfl⟩
 obtain ⟨c1, hc1⟩ : ∃ x, x = cl - j1 := ⟨_, rfl⟩
 obtain ⟨A, hA⟩ : ∃ x, x = H.take j := ⟨_, rfl⟩
 obtain ⟨C, hC⟩ : ∃ x, x = H.drop j1 := ⟨_, rfl⟩
 have hAl : A.length = j := by rw [hA, List.length_take]; omega
 have hCl : m = C.length := by rw [hC, List.length_drop, ← hN]; exact hm
 rw [← hj1, ← hA, ← hC]
 have hsp : H = A ++ ⟨bo, ⟨bs, false, bw⟩, bl⟩ :: C := by rw [hA, hC, hj1]; exact split_at hj
 have HVF := qH (vFrontK hv0 (A := A) (B := ⟨bo, ⟨bs, false, bw⟩, bl⟩ :: C) (m := j) hsp hAl.symm)
 have hb0 : View kRB S w (.slice (some ⟨gb, go + j1 * 5, none⟩) m c1) C := by rw [hc1]; exact vBackK hv0 (A := A ++ [⟨bo, ⟨bs, false, bw⟩, bl⟩]) (B := C) (by rw [hsp]; simp) (by simp; omega) hCl
 have hb1 : cl = j1 → View kRB S w (.slice (some ⟨gb, go, none⟩) m c1) C := fun e => vNoneK hv0 (by omega) (by omega)
 have HX := qH hj
 have HC := qH (show ∀ i j, j < kRB.size → i < H.length → w.cell? ⟨gb, go + (i * kRB.size + j), none⟩ = (H[i]?).bind (fun x => (kRB.enc x)[j]?) from hcell)
 have HGB := qH hgb
 have HSl := qH hSl
 have HF := qH hF
 have HLN := qH (And.intro hAl (And.intro hCl (show j + 1 + m ≤ 65535 by omega)))
 have hjN : j < N := by omega
 have hNc : N ≤ cl := hcp
 have hjc : j ≤ cl := by omega
 have hjc2 : j < cl := by omega
 have hj1N : j1 ≤ N := by omega
 have hj1c : j1 ≤ cl := by omega
 have hj6 : j ≤ 65535 := by omega
 have hN6 : N ≤ 65535 := by omega
 have hm6 : m ≤ 65535 := by omega
 have q_m := hm.symm
 have q_c1 := hc1.symm
 have q_j1 : wrap64 ((j : Int) + 1) = (j1 : Int) := by rw [hj1]; exact IntWalk.wrap64_in _ (by omega)
 have q_j12 : IntKind.i64.wrap ((j : Int) + 1) = (j1 : Int) := by rw [IntWalk.i64_left]; exact q_j1
 obtain ⟨ys, hys⟩ : ∃ y, y = bs - pd := ⟨_, rfl⟩
 obtain ⟨up, hup⟩ : ∃ y, y = uo + 32 := ⟨_, rfl⟩
 have q_uo : IntKind.u64.wrap ((bo.toNat : Int) + (pd.toNat : Int)) = (uo.toNat : Int) := by rw [huo]; exact u64_add bo pd
 have q_ys : IntKind.u64.wrap ((bs.toNat : Int) - (pd.toNat : Int)) = (ys.toNat : Int) := by rw [hys]; exact u64_sub bs pd
 have q_rs : IntKind.u64.wrap ((ys.toNat : Int) - (nd.toNat : Int)) = (rs.toNat : Int) := by rw [hrs, ← hys]; exact u64_sub ys nd
 have q_up : IntKind.u64.wrap ((uo.toNat : Int) + 32) = (up.toNat : Int) := by rw [hup]; exact u64_add uo 32
 rw [← hup]
 have q_ro : IntKind.u64.wrap ((uo.toNat : Int) + (nd.toNat : Int)) = (ro.toNat : Int) := by rw [hro]; exact u64_add uo nd
 subst hus
 have hr48 : ¬ rs.toNat < 48 := hr
 have hr49 : 48 ≤ rs.toNat := by omega
 have hp0 := hp
 have HJ1 := qH hj1
 clear hv0 hSl hj hlen hF huo hrs hp hr hjl hN hcp hgb hcell hj1 hm hc1 hA hC hAl hCl hsp hys hup hro
 have hdis : ((cl = j1) = True ∧ View kRB S w (.slice (some ⟨gb, go, none⟩) m c1) C) ∨ ((cl = j1) = False ∧ View kRB S w (.slice (some ⟨gb, go + j1 * 5, none⟩) m c1) C) := by
  by_cases h : cl = j1
  · exact .inl ⟨eq_true h, hb1 h⟩
  · exact .inr ⟨eq_false h, hb0⟩
 clear hb0 hb1
 rcases hdis with ⟨q_e, HVB⟩ | ⟨q_e, HVB⟩
 all_goals
  replace HVB := qH HVB
  have hst := qH (Step.refl Nil w)
  go_enter Tryz.func63, Tryz.ntmps63
  have e_x0 := eX hst HGB (View.cellB HC.out j _ HX.out).1
  have e_x1 := eX hst HGB (View.cellB HC.out j _ HX.out).2.1
  have e_x2 := eX hst HGB (View.cellB HC.out j _ HX.out).2.2.1
  have e_x3 := eX hst HGB (View.cellB HC.out j _ HX.out).2.2.2.1
  have e_x4 := eX hst HGB (View.cellB HC.out j _ HX.out).2.2.2.2
  have l_gb := Nat.lt_of_lt_of_le HGB.out hst.out.keeps.size
  obtain ⟨W1, hW1⟩ := nm (w.alloc (.cells #[.int .u64 (e.toNat : Int), .slice (some ⟨gb, go, none⟩) N cl, .slice (LA 0) (LN 0) (LC 0), .slice (LA 1) (LN 1) (LC 1), .slice (LA 2) (LN 2) (LC 2), .slice (LA 3) (LN 3) (LC 3), .slice (LA 4) (LN 4) (LC 4), .slice (LA 5) (LN 5) (LC 5), .slice (LA 6) (LN 6) (LC 6), .slice (LA 7) (LN 7) (LC 7)] 30))
  obtain ⟨B1, eB1⟩ := nm (w.heap.size)
  obtain ⟨W2, hW2⟩ := nm (W1.alloc (.cells #[.int .u64 0, .slice none 0 0, .slice none 0 0, .slice none 0 0, .slice none 0 0, .slice none 0 0, .slice none 0 0, .slice none 0 0, .slice none 0 0, .slice none 0 0] 30))
  obtain ⟨B2, eB2⟩ := nm (w.heap.size + 1)
  go_wp2_with fail
  clear e_x0 e_x1 e_x2 e_x3 e_x4 l_gb
  rw [← hW1.out]
  rw [← hW2.out]
  try rw [← eB2.out]
  try rw [← eB1.out]
  have k1 := kA hW1
  have e0B1 := eB1.out
  have hB1 := zB hW1 (Bx.new Nil.lt _ _ e0B1)
  have gB1 := gZ e0B1 hst
  replace hst := sN hst k1
  clear k1 e0B1
  have k2 := kA hW2
  have e0B2 : B2 = W1.heap.size := by rw [eB2.out, hW1.out]; simp []
  have hB2 := zB hW2 (Bx.new Nil.lt _ _ e0B2)
  have gB2 := gZ e0B2 hst
  have nB1B2 := nZ e0B2 hB1
  replace hst := sN hst k2
  replace hB1 := bN hB1 k2
  clear k2 e0B2
  refine (HF.out _ hst.out.keeps).mono ?_
  rintro _ W3 ⟨rfl, kn⟩
  replace hst := sN hst kn
  replace hB1 := bN hB1 kn
  replace hB2 := bN hB2 kn
  clear kn
  have c_B1_1 := cB hB1 1
  have l_B1 := hB1.out.lt
  have e_x0 := eX hst HGB (View.cellB HC.out j _ HX.out).1
  have e_x1 := eX hst HGB (View.cellB HC.out j _ HX.out).2.1
  have e_x2 := eX hst HGB (View.cellB HC.out j _ HX.out).2.2.1
  have e_x3 := eX hst HGB (View.cellB HC.out j _ HX.out).2.2.2.1
  have e_x4 := eX hst HGB (View.cellB HC.out j _ HX.out).2.2.2.2
  have l_gb := Nat.lt_of_lt_of_le HGB.out hst.out.keeps.size
  go_wp2_with (
   at_builtin
   obtain ⟨W4, hW4⟩ := nm (W3.alloc (.cells #[.int .u64 (bo.toNat : Int), .int .u64 (bs.toNat : Int), .bool false, .int .i64 bw, .int .u64 (bl.toNat : Int)] 63))
   obtain ⟨B3, eB3⟩ := nm (W3.heap.size)
   obtain ⟨W5, hW5⟩ := nm (W4.alloc (.cells #[] 63))
   obtain ⟨B4, eB4⟩ := nm (W3.heap.size + 1)
   rw [← hW4.out]
   rw [← hW5.out]
   try rw [← eB4.out]
   try rw [← eB3.out]
   have k3 := kA hW4
   have e0B3 := eB3.out
   have hB3 := zB hW4 (Bx.new Nil.lt _ _ e0B3)
   have gB3 := gZ e0B3 hst
   have nB1B3 := nZ e0B3 hB1
   have nB2B3 := nZ e0B3 hB2
   replace hst := sN hst k3
   replace hB1 := bN hB1 k3
   replace hB2 := bN hB2 k3
   clear k3 e0B3
   have k4 := kA hW5
   have e0B4 : B4 = W4.heap.size := by rw [eB4.out, hW4.out]; simp []
   have hB4 := zB hW5 (Bx.new Nil.lt _ _ e0B4)
   have gB4 := gZ e0B4 hst
   have nB1B4 := nZ e0B4 hB1
   have nB2B4 := nZ e0B4 hB2
   have nB3B4 := nZ e0B4 hB3
   replace hst := sN hst k4
   replace hB1 := bN hB1 k4
   replace hB2 := bN hB2 k4
   replace hB3 := bN hB3 k4
   clear k4 e0B4
   have hO6 := (show Own kRB W5 B4 (.slice (some ⟨B4, 0, none⟩) 0 0) [] by rw [show B4 = W4.heap.size by rw [eB4.out, hW4.out]; simp [], hW5.out]; exact Own.made kRB _ _ (Nat.le_refl _))
   have hB6 := Nat.le_of_lt hB4.out.lt
   clear hB4
   have o_B4_B1 := nB1B4
   have o_B4_B2 := nB2B4
   have o_B4_B3 := nB3B4
   refine wpList_append_any kRB rfl _ _ rfl hO6 rfl rfl (HVF.out.keeps_nil hst.out.keeps) j (by rw [List.length_nil, Nat.zero_add]; exact HLN.out.1) (show j * 40 ≤ _ by clear q_m q_c1 q_j1 q_j12; omega) hB6 (by decide) ?_
   rintro _ W6 ho6 kA6 hg6 ⟨a6, c6, rfl⟩
   replace hst := qH (hst.out.own hO6 gB4.out kA6)
   replace hB1 := qH (hB1.out.own hO6 kA6 (own_ne_old hO6 nB1B4.out))
   replace hB2 := qH (hB2.out.own hO6 kA6 (own_ne_old hO6 nB2B4.out))
   replace hB3 := qH (hB3.out.own hO6 kA6 (own_ne_old hO6 nB3B4.out))
   replace ho6 := qH ho6
   have hs6 := qH (Nat.le_trans hB6 kA6.size)
   clear kA6 hg6 hO6 hB6
   have d1 : decide (0 < pd.toNat) = true := decide_eq_true (hp0)
   have c_B3_0 := cB hB3 0
   have l_B3 := hB3.out.lt)
  clear c_B1_1 l_B1 e_x0 e_x1 e_x2 e_x3 e_x4 l_gb c_B3_0 l_B3
  refine (r10free_any _ bo pd).mono ?_
  rintro _ W7 ⟨rfl, kn⟩
  rw [free_cells]
  replace hst := sN hst kn
  replace ho6 := qH (ho6.out.keeps_nil kn)
  replace hs6 := qH (Nat.le_trans hs6.out kn.size)
  replace hB1 := bN hB1 kn
  replace hB2 := bN hB2 kn
  replace hB3 := bN hB3 kn
  clear kn
  have d2 : decide (rs.toNat < 48) = false := decide_eq_false (hr48)
  go_wp2_with (first
                       | (
                        at_builtin
                        refine wpList_append_one kRB rfl _ _ rfl ho6.out rfl ((⟨bo, ⟨pd, false, 0⟩, 0⟩ : BlockV)) _ rfl rfl (by have h1 := HLN.out; simp; clear q_m q_c1 q_j1 q_j12; omega) hs6.out ?_
                        rintro _ W8 ho8 kA8 ⟨g8, cap8, rfl, hg8⟩
                        obtain ⟨n8, hn8⟩ : ∃ nx, nx = ([] ++ A).length + 1 := ⟨_, rfl⟩
                        rw [← hn8] at ho8 ⊢
                        replace hn8 := qH hn8
                        replace hst := qH (hst.out.own ho6.out gB4.out kA8)
                        replace hB1 := qH (hB1.out.own ho6.out kA8 (own_ne_old ho6.out o_B4_B1.out))
                        replace hB2 := qH (hB2.out.own ho6.out kA8 (own_ne_old ho6.out o_B4_B2.out))
                        replace hB3 := qH (hB3.out.own ho6.out kA8 (own_ne_old ho6.out o_B4_B3.out))
                        replace ho8 := qH ho8
                        have hs8 := qH (Nat.le_trans hs6.out kA8.size)
                        clear kA8
                        have c_B3_0 := cB hB3 0
                        have c_B3_1 := cB hB3 1
                        have l_B3 := hB3.out.lt)
                       | (
                        at_builtin
                        obtain ⟨W9, hW9⟩ := nm (W8.alloc (.cells #[.int .u64 (uo.toNat : Int), .int .u64 (us.toNat : Int), .bool true, .int .i64 0, .int .u64 (n.toNat : Int)] 63))
                        obtain ⟨B5, eB5⟩ := nm (W8.heap.size)
                        rw [show W8.heap.size + 1 = W9.heap.size by rw [hW9.out]; simp []]
                        rw [← hW9.out]
                        try rw [← eB5.out]
                        have k5 := kA hW9
                        have e0B5 := eB5.out
                        have hB5 := zB hW9 (Bx.new Nil.lt _ _ e0B5)
                        have gB5 := gZ e0B5 hst
                        have nB1B5 := nZ e0B5 hB1
                        have nB2B5 := nZ e0B5 hB2
                        have nB3B5 := nZ e0B5 hB3
                        have r_ho8_B5 := qH (show ∀ g, (.slice (some ⟨g8, 0, none⟩) n8 cap8 : Value).ownBlock = some g → g < B5 by intro g hg; rw [e0B5]; exact (ho8.out.block hg).2)
                        replace hst := sN hst k5
                        replace ho8 := qH (ho8.out.keeps_nil k5)
                        replace hs8 := qH (Nat.le_trans hs8.out k5.size)
                        replace hB1 := bN hB1 k5
                        replace hB2 := bN hB2 k5
                        replace hB3 := bN hB3 k5
                        clear k5 e0B5
                        refine wpList_append_one kRB rfl _ _ rfl ho8.out rfl ((⟨uo, ⟨us, true, 0⟩, n⟩ : BlockV)) _ rfl rfl (by have h1 := HLN.out; simp; clear q_m q_c1 q_j1 q_j12; omega) hs8.out ?_
                        rintro _ W10 ho10 kA10 ⟨g10, cap10, rfl, hg10⟩
                        obtain ⟨n10, hn10⟩ : ∃ nx, nx = (([] ++ A) ++ [(⟨bo, ⟨pd, false, 0⟩, 0⟩ : BlockV)]).length + 1 := ⟨_, rfl⟩
                        rw [← hn10] at ho10 ⊢
                        replace hn10 := qH hn10
                        have x_ho10_B5 := qH (app_ne (m := n10) (c := cap10) hg10 hB5.out.lt (own_ne_new r_ho8_B5.out))
                        replace hst := qH (hst.out.own ho8.out gB4.out kA10)
                        replace hB1 := qH (hB1.out.own ho8.out kA10 (own_ne_old ho8.out o_B4_B1.out))
                        replace hB2 := qH (hB2.out.own ho8.out kA10 (own_ne_old ho8.out o_B4_B2.out))
                        replace hB3 := qH (hB3.out.own ho8.out kA10 (own_ne_old ho8.out o_B4_B3.out))
                        replace hB5 := qH (hB5.out.own ho8.out kA10 (own_ne_new r_ho8_B5.out))
                        replace ho10 := qH ho10
                        have hs10 := qH (Nat.le_trans hs8.out kA10.size)
                        clear kA10
                        have d3 : decide (48 ≤ rs.toNat) = true := decide_eq_true (hr49)
                        have c_B5_0 := cB hB5 0
                        have l_B5 := hB5.out.lt))
  clear c_B3_0 c_B3_1 l_B3 c_B5_0 l_B5
  refine (r10free_any _ ro rs).mono ?_
  rintro _ W11 ⟨rfl, kn⟩
  rw [free_cells]
  replace hst := sN hst kn
  replace ho10 := qH (ho10.out.keeps_nil kn)
  replace hs10 := qH (Nat.le_trans hs10.out kn.size)
  replace hB1 := bN hB1 kn
  replace hB2 := bN hB2 kn
  replace hB3 := bN hB3 kn
  replace hB5 := bN hB5 kn
  clear kn
  obtain ⟨nn, hnn⟩ : ∃ x, x = j + 3 + m := ⟨_, rfl⟩
  have hn6 : nn ≤ 65540 := by rw [hnn]; have h := HLN.out.2.2; clear q_m q_c1 q_j1 q_j12; omega
  replace hnn := qH hnn
  go_wp2_with (first
                       | (
                        at_builtin
                        refine wpList_append_one kRB rfl _ _ rfl ho10.out rfl ((⟨ro, ⟨rs, false, 0⟩, 0⟩ : BlockV)) _ rfl rfl (by have h1 := HLN.out; simp; clear q_m q_c1 q_j1 q_j12; omega) hs10.out ?_
                        rintro _ W12 ho12 kA12 ⟨g12, cap12, rfl, hg12⟩
                        obtain ⟨n12, hn12⟩ : ∃ nx, nx = ((([] ++ A) ++ [(⟨bo, ⟨pd, false, 0⟩, 0⟩ : BlockV)]) ++ [(⟨uo, ⟨us, true, 0⟩, n⟩ : BlockV)]).length + 1 := ⟨_, rfl⟩
                        rw [← hn12] at ho12 ⊢
                        replace hn12 := qH hn12
                        have x_ho12_B5 := qH (app_ne (m := n12) (c := cap12) hg12 hB5.out.lt x_ho10_B5.out)
                        replace hst := qH (hst.out.own ho10.out gB4.out kA12)
                        replace hB1 := qH (hB1.out.own ho10.out kA12 (own_ne_old ho10.out o_B4_B1.out))
                        replace hB2 := qH (hB2.out.own ho10.out kA12 (own_ne_old ho10.out o_B4_B2.out))
                        replace hB3 := qH (hB3.out.own ho10.out kA12 (own_ne_old ho10.out o_B4_B3.out))
                        replace hB5 := qH (hB5.out.own ho10.out kA12 x_ho10_B5.out)
                        replace ho12 := qH ho12
                        have hs12 := qH (Nat.le_trans hs10.out kA12.size)
                        clear kA12
                        have c_B1_1 := cB hB1 1
                        have l_B1 := hB1.out.lt)
                       | (
                        at_builtin
                        refine wpList_append_any kRB rfl _ _ rfl ho12.out rfl rfl (HVB.out.keeps_nil hst.out.keeps) nn (by have h1 := HLN.out.1; have h2 := HLN.out.2.1; have h3 := hnn.out; clear q_m q_c1 q_j1 q_j12; simp; omega) (show nn * 40 ≤ _ by clear q_m q_c1 q_j1 q_j12; omega) hs12.out (by decide) ?_
                        rintro _ W13 ho13 kA13 hg13 ⟨a13, c13, rfl⟩
                        have x_ho13_B5 := qH (app_ne2 hg13 hB5.out.lt x_ho12_B5.out)
                        replace hst := qH (hst.out.own ho12.out gB4.out kA13)
                        replace hB1 := qH (hB1.out.own ho12.out kA13 (own_ne_old ho12.out o_B4_B1.out))
                        replace hB2 := qH (hB2.out.own ho12.out kA13 (own_ne_old ho12.out o_B4_B2.out))
                        replace hB3 := qH (hB3.out.own ho12.out kA13 (own_ne_old ho12.out o_B4_B3.out))
                        replace hB5 := qH (hB5.out.own ho12.out kA13 x_ho12_B5.out)
                        replace ho13 := qH ho13
                        have hs13 := qH (Nat.le_trans hs12.out kA13.size)
                        clear kA13 hg13
                        replace c_B1_1 := cB hB1 1
                        have f_B1_1 := hB1.out.frz 1
                        replace l_B1 := hB1.out.lt
                        have ne_B2_B1 := nG nB1B2
                        have ne_B1_B2 := nH nB1B2
                        have ne_B3_B1 := nG nB1B3
                        have ne_B1_B3 := nH nB1B3
                        have ne_B5_B1 := nG nB1B5
                        have ne_B1_B5 := nH nB1B5
                        obtain ⟨W14, hW14⟩ := nm ((W13.setCell ⟨B1, 1, none⟩ (.slice a13 nn c13)))
                        replace f_B1_1 := hB1.out.frz 1
                        replace l_B1 := hB1.out.lt))
  clear c_B1_1 l_B1 f_B1_1 ne_B2_B1 ne_B1_B2 ne_B3_B1 ne_B1_B3 ne_B5_B1 ne_B1_B5
  rw [← hW14.out]
  have kr1 : Keeps (fun k => k = B1) W13 W14 := by rw [hW14.out]; exact keeps_setCell W13 ⟨B1, 1, none⟩ _
  replace ho13 := qH (ho13.out.keeps' kr1 (fun g hg e => (own_ne_old ho13.out o_B4_B1.out) (by rw [← e]; exact hg)))
  replace hs13 := qH (Nat.le_trans hs13.out kr1.size)
  clear kr1
  replace hst := zS hW14 ((hst.out.set gB1.out _ _))
  replace hB1 := zC hW14 ((hB1.out.set _ _))
  replace hB2 := zB hW14 ((hB2.out.other (Nat.ne_of_gt nB1B2.out) _ _))
  replace hB3 := zB hW14 ((hB3.out.other (Nat.ne_of_gt nB1B3.out) _ _))
  replace hB5 := zB hW14 ((hB5.out.other (Nat.ne_of_gt nB1B5.out) _ _))
  obtain ⟨W15, hW15⟩ := nm (W14.drew)
  have kn := kD hW15
  replace hst := sN hst kn
  replace ho13 := qH (ho13.out.keeps_nil kn)
  replace hs13 := qH (Nat.le_trans hs13.out kn.size)
  replace hB1 := bN hB1 kn
  replace hB2 := bN hB2 kn
  replace hB3 := bN hB3 kn
  replace hB5 := bN hB5 kn
  clear kn
  refine wp_region_held_drew (S := fun w' => w'.cell? ⟨B1, 0, none⟩ = some (.int .u64 (e.toNat : Int)) ∧ w'.cell? ⟨B1, 1, none⟩ = some (.slice a13 nn c13) ∧ w'.cell? ⟨B1, 2, none⟩ = some (.slice (LA 0) (LN 0) (LC 0)) ∧ w'.cell? ⟨B1, 3, none⟩ = some (.slice (LA 1) (LN 1) (LC 1)) ∧ w'.cell? ⟨B1, 4, none⟩ = some (.slice (LA 2) (LN 2) (LC 2)) ∧ w'.cell? ⟨B1, 5, none⟩ = some (.slice (LA 3) (LN 3) (LC 3)) ∧ w'.cell? ⟨B1, 6, none⟩ = some (.slice (LA 4) (LN 4) (LC 4)) ∧ w'.cell? ⟨B1, 7, none⟩ = some (.slice (LA 5) (LN 5) (LC 5)) ∧ w'.cell? ⟨B1, 8, none⟩ = some (.slice (LA 6) (LN 6) (LC 6)) ∧ w'.cell? ⟨B1, 9, none⟩ = some (.slice (LA 7) (LN 7) (LC 7)) ∧ w'.cell? ⟨B5, 0, none⟩ = some (.int .u64 (uo.toNat : Int))) (by kernel_rfl) (by rw [← hW15.out]; exact ⟨cB hB1 0, cB hB1 1, cB hB1 2, cB hB1 3, cB hB1 4, cB hB1 5, cB hB1 6, cB hB1 7, cB hB1 8, cB hB1 9, cB hB5 0⟩) (fun hHeld => ?_)
  rw [← hW15.out] at hHeld ⊢
  refine fT 0 rfl hHeld ?_
  try simp only [Act.put, List.getElem_toArray, List.getElem_cons_zero, List.setIfInBounds_toArray, List.set_cons_zero, List.set_cons_succ]
  refine fT 1 rfl hHeld ?_; try simp only [sP,sQ]
  refine fT 2 rfl hHeld ?_; try simp only [sP,sQ]
  refine fT 3 rfl hHeld ?_; try simp only [sP,sQ]
  refine wpAnyH_ready (rs := [4]) (by kernel_rfl) (by simp) ?_
  refine (AllReadyH.cons (o := _) rfl (fun K hK => ?_) AllReadyH.nil)
  obtain ⟨W16, hW16⟩ := nm (W15.setRow B2 #[.int .u64 (e.toNat : Int), .slice a13 nn c13, .slice (LA 0) (LN 0) (LC 0), .slice (LA 1) (LN 1) (LC 1), .slice (LA 2) (LN 2) (LC 2), .slice (LA 3) (LN 3) (LC 3), .slice (LA 4) (LN 4) (LC 4), .slice (LA 5) (LN 5) (LC 5), .slice (LA 6) (LN 6) (LC 6), .slice (LA 7) (LN 7) (LC 7)])
  rw [if_pos (by rfl)]
  refine wp_store_row _ _ _ rfl rfl rfl hB2.out.1 (by kernel_rfl) rfl (by simp [Value.oneCell']) ?_
  try rw [← hW16.out]
  have kr2 : Keeps (fun k => k = B2) W15 W16 := by rw [hW16.out]; exact keeps_setRow _ _ _
  replace ho13 := qH (ho13.out.keeps' kr2 (fun g hg e => (own_ne_old ho13.out o_B4_B2.out) (by rw [← e]; exact hg)))
  replace hs13 := qH (Nat.le_trans hs13.out kr2.size)
  clear kr2
  replace hst := zS hW16 (hst.out.row gB2.out _)
  replace hB1 := zB hW16 (hB1.out.rowo (Nat.ne_of_lt nB1B2.out) _)
  replace hB2 := qH (show Bx W16 Nil B2 #[.int .u64 (e.toNat : Int), .slice a13 nn c13, .slice (LA 0) (LN 0) (LC 0), .slice (LA 1) (LN 1) (LC 1), .slice (LA 2) (LN 2) (LC 2), .slice (LA 3) (LN 3) (LC 3), .slice (LA 4) (LN 4) (LC 4), .slice (LA 5) (LN 5) (LC 5), .slice (LA 6) (LN 6) (LC 6), .slice (LA 7) (LN 7) (LC 7)] 30 by rw [hW16.out]; exact hB2.out.row _)
  replace hB3 := zB hW16 (hB3.out.rowo (Nat.ne_of_gt nB2B3.out) _)
  replace hB5 := zB hW16 (hB5.out.rowo (Nat.ne_of_gt nB2B5.out) _)
  refine hK.out _ _ (⟨cB hB1 0, cB hB1 1, cB hB1 2, cB hB1 3, cB hB1 4, cB hB1 5, cB hB1 6, cB hB1 7, cB hB1 8, cB hB1 9, cB hB5 0⟩) (fun hHeld => ?_)
  clear hK K
  try simp only [Act.put, List.getElem_toArray, List.getElem_cons_succ, List.getElem_cons_zero]
  refine fT 5 rfl hHeld ?_; try simp only [sP,sQ]
  refine fT 6 rfl hHeld ?_; try simp only [sP,sQ]
  refine fD ?_
  clear hHeld
  have c_B1_0 := cB hB1 0
  have c_B1_1 := cB hB1 1
  have c_B1_2 := cB hB1 2
  have c_B1_3 := cB hB1 3
  have c_B1_4 := cB hB1 4
  have c_B1_5 := cB hB1 5
  have c_B1_6 := cB hB1 6
  have c_B1_7 := cB hB1 7
  have c_B1_8 := cB hB1 8
  have c_B1_9 := cB hB1 9
  have l_B1 := hB1.out.lt
  have c_B2_0 := cB hB2 0
  have c_B2_1 := cB hB2 1
  have c_B2_2 := cB hB2 2
  have c_B2_3 := cB hB2 3
  have c_B2_4 := cB hB2 4
  have c_B2_5 := cB hB2 5
  have c_B2_6 := cB hB2 6
  have c_B2_7 := cB hB2 7
  have c_B2_8 := cB hB2 8
  have c_B2_9 := cB hB2 9
  have l_B2 := hB2.out.lt
  have c_B5_0 := cB hB5 0
  have l_B5 := hB5.out.lt
  go_wp2_with fail
  clear c_B1_0 c_B1_1 c_B1_2 c_B1_3 c_B1_4 c_B1_5 c_B1_6 c_B1_7 c_B1_8 c_B1_9 l_B1 c_B2_0 c_B2_1 c_B2_2 c_B2_3 c_B2_4 c_B2_5 c_B2_6 c_B2_7 c_B2_8 c_B2_9 l_B2 c_B5_0 l_B5
  refine bodyPost_ret (results_row_tmp2 rfl rfl hB2.out.1 Tryz.underlying30 rfl (by kernel_rfl)) rfl ?_
  exact ⟨_, rfl, by simpa using ho13.out.base gB4.out, hst.out.keeps⟩
theorem rTake_111 {w : World} {S : Nat → Prop} {e : UInt64} {vb : Value} {LA : Nat → Option Addr} {LN LC : Nat → Nat} {H : List BlockV} {j c : Nat} {bo bs bl pd nd rs uo us ro n a : UInt64} {bw ow : Int} {Ls : Nat → List UInt64}
  (hv0 : View kRB S w vb H)
  (hSl : ∀ k, S k → k < w.heap.size)
  (hj : H[j]? = some ⟨bo, ⟨bs, false, bw⟩, bl⟩)
  (hlen : H.length ≤ 65535)
  (hF : ∀ w', Keeps Nil w w' → Calls Tryz.prog 60 #[.agg #[.int .u64 (e.toNat : Int), vb, .slice (LA 0) (LN 0) (LC 0), .slice (LA 1) (LN 1) (LC 1), .slice (LA 2) (LN 2) (LC 2), .slice (LA 3) (LN 3) (LC 3), .slice (LA 4) (LN 4) (LC 4), .slice (LA 5) (LN 5) (LC 5), .slice (LA 6) (LN 6) (LC 6), .slice (LA 7) (LN 7) (LC 7)], .int .u64 (n.toNat : Int), .int .u64 (a.toNat : Int)] w' fun e' w2 => e' = .returned (.tuple #[.int .i64 (j : Int), .int .u64 (pd.toNat : Int), .int .u64 (nd.toNat : Int), .int .i64 0]) ∧ Keeps Nil w' w2)
  (huo : uo = bo + pd)
  (hrs : rs = bs - pd - nd)
  (hp : 0 < pd.toNat)
  (hr : ¬ rs.toNat < 48)
  (hro : ro = uo + nd)
  (hus : us = nd)
  (hLv : ∀ c, c < 8 → View kU S w (.slice (LA c) (LN c) (LC c)) (Ls c))
  (hc : c < 8)
  (how : ow = (c : Int) + 1)
  (hll : (Ls c).length ≤ 65535) :
  Calls Tryz.prog 63 #[.agg #[.int .u64 (e.toNat : Int), vb, .slice (LA 0) (LN 0) (LC 0), .slice (LA 1) (LN 1) (LC 1), .slice (LA 2) (LN 2) (LC 2), .slice (LA 3) (LN 3) (LC 3), .slice (LA 4) (LN 4) (LC 4), .slice (LA 5) (LN 5) (LC 5), .slice (LA 6) (LN 6) (LC 6), .slice (LA 7) (LN 7) (LC 7)], .int .i64 ow, .int .u64 (n.toNat : Int), .int .u64 (a.toNat : Int)] w fun e' w' => ∃ vb' aF nF cF, e' = .returned (.tuple #[.agg #[.int .u64 (e.toNat : Int), vb', .slice (famU LA c aF 0) (famU LN c nF 0) (famU LC c cF 0), .slice (famU LA c aF 1) (famU LN c nF 1) (famU LC c cF 1), .slice (famU LA c aF 2) (famU LN c nF 2) (famU LC c cF 2), .slice (famU LA c aF 3) (famU LN c nF 3) (famU LC c cF 3), .slice (famU LA c aF 4) (famU LN c nF 4) (famU LC c cF 4), .slice (famU LA c aF 5) (famU LN c nF 5) (famU LC c cF 5), .slice (famU LA c aF 6) (famU LN c nF 6) (famU LC c cF 6), .slice (famU LA c aF 7) (famU LN c nF 7) (famU LC c cF 7)], .int .u64 ((uo + 32).toNat : Int), .int .i64 0]) ∧ Own kRB w' w.heap.size vb' ((((H.take j ++ [⟨bo, ⟨pd, false, 0⟩, 0⟩]) ++ [⟨uo, ⟨us, true, ow⟩, n⟩]) ++ [⟨ro, ⟨rs, false, 0⟩, 0⟩]) ++ H.drop (j + 1)) ∧ Keeps Nil w w' ∧ Own kU w' w.heap.size (.slice aF nF cF) (uo :: Ls c) := by
 have hjl := (List.getElem?_eq_some_iff.1 hj).1
 obtain ⟨N, hN⟩ : ∃ N, N = H.length := ⟨_, rfl⟩
 obtain ⟨gb, go, cl, rfl, hcp, _, hgb, _, hcell⟩ := hv0.pos (by omega)
 rw [← hN] at hF hcp hv0 ⊢
 obtain ⟨j1, hj1⟩ : ∃ x, x = j + 1 := ⟨_, rfl⟩
 obtain ⟨m, hm⟩ : ∃ x, x = N - j1 := ⟨_, rfl⟩
 obtain ⟨c1, hc1⟩ : ∃ x, x = cl - j1 := ⟨_, rfl⟩
 obtain ⟨A, hA⟩ : ∃ x, x = H.take j := ⟨_, rfl⟩
 obtain ⟨C, hC⟩ : ∃ x, x = H.drop j1 := ⟨_, rfl⟩
 have hAl : A.length = j := by rw [hA, List.length_take]; omega
 have hCl : m = C.length := by rw [hC, List.length_drop, ← hN]; exact hm
 rw [← hj1, ← hA, ← hC]
 have hsp : H = A ++ ⟨bo, ⟨bs, false, bw⟩, bl⟩ :: C := by rw [hA, hC, hj1]; exact split_at hj
 have HVF := qH (vFrontK hv0 (A := A) (B := ⟨bo, ⟨bs, false, bw⟩, bl⟩ :: C) (m := j) hsp hAl.symm)
 have hb0 : View kRB S w (.slice (some ⟨gb, go + j1 * 5, none⟩) m c1) C := by rw [hc1]; exact vBackK hv0 (A := A ++ [⟨bo, ⟨bs, false, bw⟩, bl⟩]) (B := C) (by rw [hsp]; simp) (by simp; omega) hCl
 have hb1 : cl = j1 → View kRB S w (.slice (some ⟨gb, go, none⟩) m c1) C := fun e => vNoneK hv0 (by omega) (by omega)
 have HX := qH hj
 have HC := qH (show ∀ i j, j < kRB.size → i < H.length → w.cell? ⟨gb, go + (i * kRB.size + j), none⟩ = (H[i]?).bind (fun x => (kRB.enc x)[j]?) from hcell)
 have HGB := qH hgb
 have HSl := qH hSl
 have HF := qH hF
 have HLN := qH (And.intro hAl (And.intro hCl (show j + 1 + m ≤ 65535 by omega)))
 have hjN : j < N := by omega
 have hNc : N ≤ cl := hcp
 have hjc : j ≤ cl := by omega
 have hjc2 : j < cl := by omega
 have hj1N : j1 ≤ N := by omega
 have hj1c : j1 ≤ cl := by omega
 have hj6 : j ≤ 65535 := by omega
 have hN6 : N ≤ 65535 := by omega
 have hm6 : m ≤ 65535 := by omega
 have q_m := hm.symm
 have q_c1 := hc1.symm
 have q_j1 : wrap64 ((j : Int) + 1) = (j1 : Int) := by rw [hj1]; exact IntWalk.wrap64_in _ (by omega)
 have q_j12 : IntKind.i64.wrap ((j : Int) + 1) = (j1 : Int) := by rw [IntWalk.i64_left]; exact q_j1
 obtain ⟨ys, hys⟩ : ∃ y, y = bs - pd := ⟨_, rfl⟩
 obtain ⟨up, hup⟩ : ∃ y, y = uo + 32 := ⟨_, rfl⟩
 have q_uo : IntKind.u64.wrap ((bo.toNat : Int) + (pd.toNat : Int)) = (uo.toNat : Int) := by rw [huo]; exact u64_add bo pd
 have q_ys : IntKind.u64.wrap ((bs.toNat : Int) - (pd.toNat : Int)) = (ys.toNat : Int) := by rw [hys]; exact u64_sub bs pd
 have q_rs : IntKind.u64.wrap ((ys.toNat : Int) - (nd.toNat : Int)) = (rs.toNat : Int) := by rw [hrs, ← hys]; exact u64_sub ys nd
 have q_up : IntKind.u64.wrap ((uo.toNat : Int) + 32) = (up.toNat : Int) := by rw [hup]; exact u64_add uo 32
 rw [← hup]
 have q_ro : IntKind.u64.wrap ((uo.toNat : Int) + (nd.toNat : Int)) = (ro.toNat : Int) := by rw [hro]; exact u64_add uo nd
 subst hus
 have hr48 : ¬ rs.toNat < 48 := hr
 have hr49 : 48 ≤ rs.toNat := by omega
 have q_ow : wrap64 (ow - 1) = (c : Int) := by rw [how, show (c : Int) + 1 - 1 = (c : Int) by omega]; exact IntWalk.wrap64_in _ (by omega)
 have q_ow2 : IntKind.i64.wrap (ow - 1) = (c : Int) := by rw [IntWalk.i64_left]; exact q_ow
 have d_o1 : decide (ow < 0) = false := decide_eq_false (by omega)
 have d_o2 : decide (8 < ow) = false := decide_eq_false (by omega)
 have d_o3 : decide (0 < ow) = true := decide_eq_true (by omega)
 have HCc := qH hc
 have hc8 : (c : Int) < 8 := by omega
 have HLL := qH (And.intro (hLv c hc) hll)
 clear how hLv hll
 have hp0 := hp
 have HJ1 := qH hj1
 clear hv0 hSl hj hlen hF huo hrs hp hr hjl hN hcp hgb hcell hj1 hm hc1 hA hC hAl hCl hsp hys hup hro
 have hdis : ((cl = j1) = True ∧ View kRB S w (.slice (some ⟨gb, go, none⟩) m c1) C) ∨ ((cl = j1) = False ∧ View kRB S w (.slice (some ⟨gb, go + j1 * 5, none⟩) m c1) C) := by
  by_cases h : cl = j1
  · exact .inl ⟨eq_true h, hb1 h⟩
  · exact .inr ⟨eq_false h, hb0⟩
 clear hb0 hb1
 rcases hdis with ⟨q_e, HVB⟩ | ⟨q_e, HVB⟩
 all_goals
  replace HVB := qH HVB
  have hst := qH (Step.refl Nil w)
  go_enter Tryz.func63, Tryz.ntmps63
  have e_x0 := eX hst HGB (View.cellB HC.out j _ HX.out).1
  have e_x1 := eX hst HGB (View.cellB HC.out j _ HX.out).2.1
  have e_x2 := eX hst HGB (View.cellB HC.out j _ HX.out).2.2.1
  have e_x3 := eX hst HGB (View.cellB HC.out j _ HX.out).2.2.2.1
  have e_x4 := eX hst HGB (View.cellB HC.out j _ HX.out).2.2.2.2
  have l_gb := Nat.lt_of_lt_of_le HGB.out hst.out.keeps.size
  obtain ⟨W1, hW1⟩ := nm (w.alloc (.cells #[.int .u64 (e.toNat : Int), .slice (some ⟨gb, go, none⟩) N cl, .slice (LA 0) (LN 0) (LC 0), .slice (LA 1) (LN 1) (LC 1), .slice (LA 2) (LN 2) (LC 2), .slice (LA 3) (LN 3) (LC 3), .slice (LA 4) (LN 4) (LC 4), .slice (LA 5) (LN 5) (LC 5), .slice (LA 6) (LN 6) (LC 6), .slice (LA 7) (LN 7) (LC 7)] 30))
  obtain ⟨B1, eB1⟩ := nm (w.heap.size)
  obtain ⟨W2, hW2⟩ := nm (W1.alloc (.cells #[.int .u64 0, .slice none 0 0, .slice none 0 0, .slice none 0 0, .slice none 0 0, .slice none 0 0, .slice none 0 0, .slice none 0 0, .slice none 0 0, .slice none 0 0] 30))
  obtain ⟨B2, eB2⟩ := nm (w.heap.size + 1)
  go_wp2_with fail
  clear e_x0 e_x1 e_x2 e_x3 e_x4 l_gb
  rw [← hW1.out]
  rw [← hW2.out]
  try rw [← eB2.out]
  try rw [← eB1.out]
  have k1 := kA hW1
  have e0B1 := eB1.out
  have hB1 := zB hW1 (Bx.new Nil.lt _ _ e0B1)
  have gB1 := gZ e0B1 hst
  replace hst := sN hst k1
  clear k1 e0B1
  have k2 := kA hW2
  have e0B2 : B2 = W1.heap.size := by rw [eB2.out, hW1.out]; simp []
  have hB2 := zB hW2 (Bx.new Nil.lt _ _ e0B2)
  have gB2 := gZ e0B2 hst
  have nB1B2 := nZ e0B2 hB1
  replace hst := sN hst k2
  replace hB1 := bN hB1 k2
  clear k2 e0B2
  refine (HF.out _ hst.out.keeps).mono ?_
  rintro _ W3 ⟨rfl, kn⟩
  replace hst := sN hst kn
  replace hB1 := bN hB1 kn
  replace hB2 := bN hB2 kn
  clear kn
  have c_B1_1 := cB hB1 1
  have l_B1 := hB1.out.lt
  have e_x0 := eX hst HGB (View.cellB HC.out j _ HX.out).1
  have e_x1 := eX hst HGB (View.cellB HC.out j _ HX.out).2.1
  have e_x2 := eX hst HGB (View.cellB HC.out j _ HX.out).2.2.1
  have e_x3 := eX hst HGB (View.cellB HC.out j _ HX.out).2.2.2.1
  have e_x4 := eX hst HGB (View.cellB HC.out j _ HX.out).2.2.2.2
  have l_gb := Nat.lt_of_lt_of_le HGB.out hst.out.keeps.size
  go_wp2_with (
   at_builtin
   obtain ⟨W4, hW4⟩ := nm (W3.alloc (.cells #[.int .u64 (bo.toNat : Int), .int .u64 (bs.toNat : Int), .bool false, .int .i64 bw, .int .u64 (bl.toNat : Int)] 63))
   obtain ⟨B3, eB3⟩ := nm (W3.heap.size)
   obtain ⟨W5, hW5⟩ := nm (W4.alloc (.cells #[] 63))
   obtain ⟨B4, eB4⟩ := nm (W3.heap.size + 1)
   rw [← hW4.out]
   rw [← hW5.out]
   try rw [← eB4.out]
   try rw [← eB3.out]
   have k3 := kA hW4
   have e0B3 := eB3.out
   have hB3 := zB hW4 (Bx.new Nil.lt _ _ e0B3)
   have gB3 := gZ e0B3 hst
   have nB1B3 := nZ e0B3 hB1
   have nB2B3 := nZ e0B3 hB2
   replace hst := sN hst k3
   replace hB1 := bN hB1 k3
   replace hB2 := bN hB2 k3
   clear k3 e0B3
   have k4 := kA hW5
   have e0B4 : B4 = W4.heap.size := by rw [eB4.out, hW4.out]; simp []
   have hB4 := zB hW5 (Bx.new Nil.lt _ _ e0B4)
   have gB4 := gZ e0B4 hst
   have nB1B4 := nZ e0B4 hB1
   have nB2B4 := nZ e0B4 hB2
   have nB3B4 := nZ e0B4 hB3
   replace hst := sN hst k4
   replace hB1 := bN hB1 k4
   replace hB2 := bN hB2 k4
   replace hB3 := bN hB3 k4
   clear k4 e0B4
   have hO6 := (show Own kRB W5 B4 (.slice (some ⟨B4, 0, none⟩) 0 0) [] by rw [show B4 = W4.heap.size by rw [eB4.out, hW4.out]; simp [], hW5.out]; exact Own.made kRB _ _ (Nat.le_refl _))
   have hB6 := Nat.le_of_lt hB4.out.lt
   clear hB4
   have o_B4_B1 := nB1B4
   have o_B4_B2 := nB2B4
   have o_B4_B3 := nB3B4
   refine wpList_append_any kRB rfl _ _ rfl hO6 rfl rfl (HVF.out.keeps_nil hst.out.keeps) j (by rw [List.length_nil, Nat.zero_add]; exact HLN.out.1) (show j * 40 ≤ _ by clear q_m q_c1 q_j1 q_j12; omega) hB6 (by decide) ?_
   rintro _ W6 ho6 kA6 hg6 ⟨a6, c6, rfl⟩
   replace hst := qH (hst.out.own hO6 gB4.out kA6)
   replace hB1 := qH (hB1.out.own hO6 kA6 (own_ne_old hO6 nB1B4.out))
   replace hB2 := qH (hB2.out.own hO6 kA6 (own_ne_old hO6 nB2B4.out))
   replace hB3 := qH (hB3.out.own hO6 kA6 (own_ne_old hO6 nB3B4.out))
   replace ho6 := qH ho6
   have hs6 := qH (Nat.le_trans hB6 kA6.size)
   clear kA6 hg6 hO6 hB6
   have d1 : decide (0 < pd.toNat) = true := decide_eq_true (hp0)
   have c_B3_0 := cB hB3 0
   have l_B3 := hB3.out.lt)
  clear c_B1_1 l_B1 e_x0 e_x1 e_x2 e_x3 e_x4 l_gb c_B3_0 l_B3
  refine (r10free_any _ bo pd).mono ?_
  rintro _ W7 ⟨rfl, kn⟩
  rw [free_cells]
  replace hst := sN hst kn
  replace ho6 := qH (ho6.out.keeps_nil kn)
  replace hs6 := qH (Nat.le_trans hs6.out kn.size)
  replace hB1 := bN hB1 kn
  replace hB2 := bN hB2 kn
  replace hB3 := bN hB3 kn
  clear kn
  have d2 : decide (rs.toNat < 48) = false := decide_eq_false (hr48)
  go_wp2_with (first
                       | (
                        at_builtin
                        refine wpList_append_one kRB rfl _ _ rfl ho6.out rfl ((⟨bo, ⟨pd, false, 0⟩, 0⟩ : BlockV)) _ rfl rfl (by have h1 := HLN.out; simp; clear q_m q_c1 q_j1 q_j12; omega) hs6.out ?_
                        rintro _ W8 ho8 kA8 ⟨g8, cap8, rfl, hg8⟩
                        obtain ⟨n8, hn8⟩ : ∃ nx, nx = ([] ++ A).length + 1 := ⟨_, rfl⟩
                        rw [← hn8] at ho8 ⊢
                        replace hn8 := qH hn8
                        replace hst := qH (hst.out.own ho6.out gB4.out kA8)
                        replace hB1 := qH (hB1.out.own ho6.out kA8 (own_ne_old ho6.out o_B4_B1.out))
                        replace hB2 := qH (hB2.out.own ho6.out kA8 (own_ne_old ho6.out o_B4_B2.out))
                        replace hB3 := qH (hB3.out.own ho6.out kA8 (own_ne_old ho6.out o_B4_B3.out))
                        replace ho8 := qH ho8
                        have hs8 := qH (Nat.le_trans hs6.out kA8.size)
                        clear kA8
                        have c_B3_0 := cB hB3 0
                        have c_B3_1 := cB hB3 1
                        have l_B3 := hB3.out.lt)
                       | (
                        at_builtin
                        obtain ⟨W9, hW9⟩ := nm (W8.alloc (.cells #[.int .u64 (uo.toNat : Int), .int .u64 (us.toNat : Int), .bool true, .int .i64 ow, .int .u64 (n.toNat : Int)] 63))
                        obtain ⟨B5, eB5⟩ := nm (W8.heap.size)
                        rw [show W8.heap.size + 1 = W9.heap.size by rw [hW9.out]; simp []]
                        rw [← hW9.out]
                        try rw [← eB5.out]
                        have k5 := kA hW9
                        have e0B5 := eB5.out
                        have hB5 := zB hW9 (Bx.new Nil.lt _ _ e0B5)
                        have gB5 := gZ e0B5 hst
                        have nB1B5 := nZ e0B5 hB1
                        have nB2B5 := nZ e0B5 hB2
                        have nB3B5 := nZ e0B5 hB3
                        have r_ho8_B5 := qH (show ∀ g, (.slice (some ⟨g8, 0, none⟩) n8 cap8 : Value).ownBlock = some g → g < B5 by intro g hg; rw [e0B5]; exact (ho8.out.block hg).2)
                        replace hst := sN hst k5
                        replace ho8 := qH (ho8.out.keeps_nil k5)
                        replace hs8 := qH (Nat.le_trans hs8.out k5.size)
                        replace hB1 := bN hB1 k5
                        replace hB2 := bN hB2 k5
                        replace hB3 := bN hB3 k5
                        clear k5 e0B5
                        refine wpList_append_one kRB rfl _ _ rfl ho8.out rfl ((⟨uo, ⟨us, true, ow⟩, n⟩ : BlockV)) _ rfl rfl (by have h1 := HLN.out; simp; clear q_m q_c1 q_j1 q_j12; omega) hs8.out ?_
                        rintro _ W10 ho10 kA10 ⟨g10, cap10, rfl, hg10⟩
                        obtain ⟨n10, hn10⟩ : ∃ nx, nx = (([] ++ A) ++ [(⟨bo, ⟨pd, false, 0⟩, 0⟩ : BlockV)]).length + 1 := ⟨_, rfl⟩
                        rw [← hn10] at ho10 ⊢
                        replace hn10 := qH hn10
                        have x_ho10_B5 := qH (app_ne (m := n10) (c := cap10) hg10 hB5.out.lt (own_ne_new r_ho8_B5.out))
                        replace hst := qH (hst.out.own ho8.out gB4.out kA10)
                        replace hB1 := qH (hB1.out.own ho8.out kA10 (own_ne_old ho8.out o_B4_B1.out))
                        replace hB2 := qH (hB2.out.own ho8.out kA10 (own_ne_old ho8.out o_B4_B2.out))
                        replace hB3 := qH (hB3.out.own ho8.out kA10 (own_ne_old ho8.out o_B4_B3.out))
                        replace hB5 := qH (hB5.out.own ho8.out kA10 (own_ne_new r_ho8_B5.out))
                        replace ho10 := qH ho10
                        have hs10 := qH (Nat.le_trans hs8.out kA10.size)
                        clear kA10
                        have d3 : decide (48 ≤ rs.toNat) = true := decide_eq_true (hr49)
                        have c_B5_0 := cB hB5 0
                        have l_B5 := hB5.out.lt))
  clear c_B3_0 c_B3_1 l_B3 c_B5_0 l_B5
  refine (r10free_any _ ro rs).mono ?_
  rintro _ W11 ⟨rfl, kn⟩
  rw [free_cells]
  replace hst := sN hst kn
  replace ho10 := qH (ho10.out.keeps_nil kn)
  replace hs10 := qH (Nat.le_trans hs10.out kn.size)
  replace hB1 := bN hB1 kn
  replace hB2 := bN hB2 kn
  replace hB3 := bN hB3 kn
  replace hB5 := bN hB5 kn
  clear kn
  obtain ⟨nn, hnn⟩ : ∃ x, x = j + 3 + m := ⟨_, rfl⟩
  have hn6 : nn ≤ 65540 := by rw [hnn]; have h := HLN.out.2.2; clear q_m q_c1 q_j1 q_j12; omega
  replace hnn := qH hnn
  go_wp2_with (first
                       | (
                        at_builtin
                        refine wpList_append_one kRB rfl _ _ rfl ho10.out rfl ((⟨ro, ⟨rs, false, 0⟩, 0⟩ : BlockV)) _ rfl rfl (by have h1 := HLN.out; simp; clear q_m q_c1 q_j1 q_j12; omega) hs10.out ?_
                        rintro _ W12 ho12 kA12 ⟨g12, cap12, rfl, hg12⟩
                        obtain ⟨n12, hn12⟩ : ∃ nx, nx = ((([] ++ A) ++ [(⟨bo, ⟨pd, false, 0⟩, 0⟩ : BlockV)]) ++ [(⟨uo, ⟨us, true, ow⟩, n⟩ : BlockV)]).length + 1 := ⟨_, rfl⟩
                        rw [← hn12] at ho12 ⊢
                        replace hn12 := qH hn12
                        have x_ho12_B5 := qH (app_ne (m := n12) (c := cap12) hg12 hB5.out.lt x_ho10_B5.out)
                        replace hst := qH (hst.out.own ho10.out gB4.out kA12)
                        replace hB1 := qH (hB1.out.own ho10.out kA12 (own_ne_old ho10.out o_B4_B1.out))
                        replace hB2 := qH (hB2.out.own ho10.out kA12 (own_ne_old ho10.out o_B4_B2.out))
                        replace hB3 := qH (hB3.out.own ho10.out kA12 (own_ne_old ho10.out o_B4_B3.out))
                        replace hB5 := qH (hB5.out.own ho10.out kA12 x_ho10_B5.out)
                        replace ho12 := qH ho12
                        have hs12 := qH (Nat.le_trans hs10.out kA12.size)
                        clear kA12
                        have c_B1_1 := cB hB1 1
                        have l_B1 := hB1.out.lt)
                       | (
                        at_builtin
                        refine wpList_append_any kRB rfl _ _ rfl ho12.out rfl rfl (HVB.out.keeps_nil hst.out.keeps) nn (by have h1 := HLN.out.1; have h2 := HLN.out.2.1; have h3 := hnn.out; clear q_m q_c1 q_j1 q_j12; simp; omega) (show nn * 40 ≤ _ by clear q_m q_c1 q_j1 q_j12; omega) hs12.out (by decide) ?_
                        rintro _ W13 ho13 kA13 hg13 ⟨a13, c13, rfl⟩
                        have x_ho13_B5 := qH (app_ne2 hg13 hB5.out.lt x_ho12_B5.out)
                        replace hst := qH (hst.out.own ho12.out gB4.out kA13)
                        replace hB1 := qH (hB1.out.own ho12.out kA13 (own_ne_old ho12.out o_B4_B1.out))
                        replace hB2 := qH (hB2.out.own ho12.out kA13 (own_ne_old ho12.out o_B4_B2.out))
                        replace hB3 := qH (hB3.out.own ho12.out kA13 (own_ne_old ho12.out o_B4_B3.out))
                        replace hB5 := qH (hB5.out.own ho12.out kA13 x_ho12_B5.out)
                        replace ho13 := qH ho13
                        have hs13 := qH (Nat.le_trans hs12.out kA13.size)
                        clear kA13 hg13
                        replace c_B1_1 := cB hB1 1
                        have f_B1_1 := hB1.out.frz 1
                        replace l_B1 := hB1.out.lt
                        have ne_B2_B1 := nG nB1B2
                        have ne_B1_B2 := nH nB1B2
                        have ne_B3_B1 := nG nB1B3
                        have ne_B1_B3 := nH nB1B3
                        have ne_B5_B1 := nG nB1B5
                        have ne_B1_B5 := nH nB1B5
                        obtain ⟨W14, hW14⟩ := nm ((W13.setCell ⟨B1, 1, none⟩ (.slice a13 nn c13)))
                        replace f_B1_1 := hB1.out.frz 1
                        replace l_B1 := hB1.out.lt))
  clear c_B1_1 l_B1 f_B1_1 ne_B2_B1 ne_B1_B2 ne_B3_B1 ne_B1_B3 ne_B5_B1 ne_B1_B5
  rw [← hW14.out]
  have kr1 : Keeps (fun k => k = B1) W13 W14 := by rw [hW14.out]; exact keeps_setCell W13 ⟨B1, 1, none⟩ _
  replace ho13 := qH (ho13.out.keeps' kr1 (fun g hg e => (own_ne_old ho13.out o_B4_B1.out) (by rw [← e]; exact hg)))
  replace hs13 := qH (Nat.le_trans hs13.out kr1.size)
  clear kr1
  replace hst := zS hW14 ((hst.out.set gB1.out _ _))
  replace hB1 := zC hW14 ((hB1.out.set _ _))
  replace hB2 := zB hW14 ((hB2.out.other (Nat.ne_of_gt nB1B2.out) _ _))
  replace hB3 := zB hW14 ((hB3.out.other (Nat.ne_of_gt nB1B3.out) _ _))
  replace hB5 := zB hW14 ((hB5.out.other (Nat.ne_of_gt nB1B5.out) _ _))
  obtain ⟨W15, hW15⟩ := nm (W14.drew)
  have kn := kD hW15
  replace hst := sN hst kn
  replace ho13 := qH (ho13.out.keeps_nil kn)
  replace hs13 := qH (Nat.le_trans hs13.out kn.size)
  replace hB1 := bN hB1 kn
  replace hB2 := bN hB2 kn
  replace hB3 := bN hB3 kn
  replace hB5 := bN hB5 kn
  clear kn
  refine wp_region_held_drew (S := fun w' => w'.cell? ⟨B5, 0, none⟩ = some (.int .u64 (uo.toNat : Int))) (by kernel_rfl) (by rw [← hW15.out]; exact cB hB5 0) (fun hHeld => ?_)
  rw [← hW15.out] at hHeld ⊢
  refine fT 0 rfl hHeld ?_
  try simp only [Act.put, List.getElem_toArray, List.getElem_cons_zero, List.setIfInBounds_toArray, List.set_cons_zero, List.set_cons_succ]
  refine fT 1 rfl hHeld ?_; try simp only [sP,sQ]
  refine fT 2 rfl hHeld ?_; try simp only [sP,sQ]
  refine fT 3 rfl hHeld ?_; try simp only [sP,sQ]
  refine fT 4 rfl hHeld ?_; try simp only [sP,sQ]
  refine fT 5 rfl hHeld ?_; try simp only [sP,sQ]
  refine fT 7 rfl hHeld ?_; try simp only [sP,sQ]
  refine fT 8 rfl hHeld ?_; try simp only [sP,sQ]
  refine fT 10 rfl hHeld ?_; try simp only [sP,sQ]
  refine wpAnyH_ready (rs := [6]) (by kernel_rfl) (by simp) ?_
  refine (AllReadyH.cons (o := _) rfl (fun K hK => ?_) AllReadyH.nil)
  have e_l := hB1.out.famc HCc.out
  have f_l := hB1.out.frz (2 + c)
  go_simp
  clear e_l f_l
  refine hK.out _ _ (cB hB5 0) (fun hHeld => ?_)
  clear hK K
  try simp only [sP,sQ]
  refine wpAnyH_ready (rs := [9]) (by kernel_rfl) (by simp) ?_
  refine (AllReadyH.cons (o := _) rfl (fun K hK => ?_) AllReadyH.nil)
  go_simp
  obtain ⟨fb, hfb⟩ : ∃ b, b = W15.heap.size := ⟨_, rfl⟩
  have gfb := gZ hfb hst
  have o_fb_B1 := qH (show B1 < fb by rw [hfb]; exact hB1.out.lt)
  have o_fb_B2 := qH (show B2 < fb by rw [hfb]; exact hB2.out.lt)
  have o_fb_B3 := qH (show B3 < fb by rw [hfb]; exact hB3.out.lt)
  have o_fb_B5 := qH (show B5 < fb by rw [hfb]; exact hB5.out.lt)
  have sfb := qH (show fb ≤ W15.heap.size by rw [hfb]; exact Nat.le_refl _)
  clear hfb
  have hkF := hst.out.keeps
  refine (rFirst_any uo (HLL.out.1.keeps_nil hkF) HLL.out.2).mono ?_
  rintro _ W16 ⟨vF, rfl, hoF, kn⟩
  obtain ⟨aF, cF, rfl⟩ := hoF.valN
  obtain ⟨nF, hnF⟩ : ∃ n, n = (uo :: Ls c).length := ⟨_, rfl⟩
  rw [← hnF] at hoF ⊢
  replace hnF := qH hnF
  replace hoF := qH (hoF.base sfb.out)
  have hsF := qH (Nat.le_trans sfb.out kn.size)
  clear hkF
  replace hst := sN hst kn
  replace ho13 := qH (ho13.out.keeps_nil kn)
  replace hs13 := qH (Nat.le_trans hs13.out kn.size)
  replace hB1 := bN hB1 kn
  replace hB2 := bN hB2 kn
  replace hB3 := bN hB3 kn
  replace hB5 := bN hB5 kn
  clear kn
  refine hK.out _ _ (cB hB5 0) (fun hHeld => ?_)
  clear hK K
  try simp only [sP,sQ]
  refine fT 11 rfl hHeld ?_; try simp only [sP,sQ]
  refine wpAnyH_ready (rs := [12]) (by kernel_rfl) (by simp) ?_
  refine (AllReadyH.cons (o := _) rfl (fun K hK => ?_) AllReadyH.nil)
  have l_B1 := hB1.out.lt
  have e_l := hB1.out.famc HCc.out
  have f_l := hB1.out.frz (2 + c)
  have ne_B2_B1 := nG nB1B2
  have ne_B1_B2 := nH nB1B2
  have ne_B3_B1 := nG nB1B3
  have ne_B1_B3 := nH nB1B3
  have ne_B5_B1 := nG nB1B5
  have ne_B1_B5 := nH nB1B5
  obtain ⟨W17, hW17⟩ := nm ((W16.setCell ⟨B1, 2 + c, none⟩ (.slice aF nF cF)))
  go_simp
  clear l_B1 e_l f_l ne_B2_B1 ne_B1_B2 ne_B3_B1 ne_B1_B3 ne_B5_B1 ne_B1_B5
  rw [← hW17.out]
  have kr2 : Keeps (fun k => k = B1) W16 W17 := by rw [hW17.out]; exact keeps_setCell W16 ⟨B1, 2 + c, none⟩ _
  replace ho13 := qH (ho13.out.keeps' kr2 (fun g hg e => (own_ne_old ho13.out o_B4_B1.out) (by rw [← e]; exact hg)))
  replace hs13 := qH (Nat.le_trans hs13.out kr2.size)
  clear kr2
  have kr3 : Keeps (fun k => k = B1) W16 W17 := by rw [hW17.out]; exact keeps_setCell W16 ⟨B1, 2 + c, none⟩ _
  replace hoF := qH (hoF.out.keeps' kr3 (fun g hg e => (own_ne_old hoF.out o_fb_B1.out) (by rw [← e]; exact hg)))
  replace hsF := qH (Nat.le_trans hsF.out kr3.size)
  clear kr3
  replace hst := zS hW17 ((hst.out.set gB1.out _ _))
  replace hB1 := qH (show Bx W17 Nil B1 #[.int .u64 (e.toNat : Int), .slice a13 nn c13, .slice (famU LA c aF 0) (famU LN c nF 0) (famU LC c cF 0), .slice (famU LA c aF 1) (famU LN c nF 1) (famU LC c cF 1), .slice (famU LA c aF 2) (famU LN c nF 2) (famU LC c cF 2), .slice (famU LA c aF 3) (famU LN c nF 3) (famU LC c cF 3), .slice (famU LA c aF 4) (famU LN c nF 4) (famU LC c cF 4), .slice (famU LA c aF 5) (famU LN c nF 5) (famU LC c cF 5), .slice (famU LA c aF 6) (famU LN c nF 6) (famU LC c cF 6), .slice (famU LA c aF 7) (famU LN c nF 7) (famU LC c cF 7)] 30 by rw [hW17.out]; exact (hB1.out.fam HCc.out))
  replace hB2 := zB hW17 ((hB2.out.other (Nat.ne_of_gt nB1B2.out) _ _))
  replace hB3 := zB hW17 ((hB3.out.other (Nat.ne_of_gt nB1B3.out) _ _))
  replace hB5 := zB hW17 ((hB5.out.other (Nat.ne_of_gt nB1B5.out) _ _))
  refine hK.out _ _ (cB hB5 0) (fun hHeld => ?_)
  clear hK K
  try simp only [sP,sQ]
  refine fD ?_
  clear hHeld
  have c_B5_0 := cB hB5 0
  have l_B5 := hB5.out.lt
  go_wp2_with fail
  clear c_B5_0 l_B5
  obtain ⟨W18, hW18⟩ := nm (W17.drew)
  have kn := kD hW18
  replace hst := sN hst kn
  replace ho13 := qH (ho13.out.keeps_nil kn)
  replace hs13 := qH (Nat.le_trans hs13.out kn.size)
  replace hoF := qH (hoF.out.keeps_nil kn)
  replace hsF := qH (Nat.le_trans hsF.out kn.size)
  replace hB1 := bN hB1 kn
  replace hB2 := bN hB2 kn
  replace hB3 := bN hB3 kn
  replace hB5 := bN hB5 kn
  clear kn
  refine wp_region_held_drew (S := fun w' => w'.cell? ⟨B1, 0, none⟩ = some (.int .u64 (e.toNat : Int)) ∧ w'.cell? ⟨B1, 1, none⟩ = some (.slice a13 nn c13) ∧ w'.cell? ⟨B1, 2, none⟩ = some (.slice (famU LA c aF 0) (famU LN c nF 0) (famU LC c cF 0)) ∧ w'.cell? ⟨B1, 3, none⟩ = some (.slice (famU LA c aF 1) (famU LN c nF 1) (famU LC c cF 1)) ∧ w'.cell? ⟨B1, 4, none⟩ = some (.slice (famU LA c aF 2) (famU LN c nF 2) (famU LC c cF 2)) ∧ w'.cell? ⟨B1, 5, none⟩ = some (.slice (famU LA c aF 3) (famU LN c nF 3) (famU LC c cF 3)) ∧ w'.cell? ⟨B1, 6, none⟩ = some (.slice (famU LA c aF 4) (famU LN c nF 4) (famU LC c cF 4)) ∧ w'.cell? ⟨B1, 7, none⟩ = some (.slice (famU LA c aF 5) (famU LN c nF 5) (famU LC c cF 5)) ∧ w'.cell? ⟨B1, 8, none⟩ = some (.slice (famU LA c aF 6) (famU LN c nF 6) (famU LC c cF 6)) ∧ w'.cell? ⟨B1, 9, none⟩ = some (.slice (famU LA c aF 7) (famU LN c nF 7) (famU LC c cF 7)) ∧ w'.cell? ⟨B5, 0, none⟩ = some (.int .u64 (uo.toNat : Int))) (by kernel_rfl) (by rw [← hW18.out]; exact ⟨cB hB1 0, cB hB1 1, cB hB1 2, cB hB1 3, cB hB1 4, cB hB1 5, cB hB1 6, cB hB1 7, cB hB1 8, cB hB1 9, cB hB5 0⟩) (fun hHeld => ?_)
  rw [← hW18.out] at hHeld ⊢
  refine fT 0 rfl hHeld ?_
  try simp only [Act.put, List.getElem_toArray, List.getElem_cons_zero, List.setIfInBounds_toArray, List.set_cons_zero, List.set_cons_succ]
  refine fT 1 rfl hHeld ?_; try simp only [sP,sQ]
  refine fT 2 rfl hHeld ?_; try simp only [sP,sQ]
  refine fT 3 rfl hHeld ?_; try simp only [sP,sQ]
  refine wpAnyH_ready (rs := [4]) (by kernel_rfl) (by simp) ?_
  refine (AllReadyH.cons (o := _) rfl (fun K hK => ?_) AllReadyH.nil)
  obtain ⟨W19, hW19⟩ := nm (W18.setRow B2 #[.int .u64 (e.toNat : Int), .slice a13 nn c13, .slice (famU LA c aF 0) (famU LN c nF 0) (famU LC c cF 0), .slice (famU LA c aF 1) (famU LN c nF 1) (famU LC c cF 1), .slice (famU LA c aF 2) (famU LN c nF 2) (famU LC c cF 2), .slice (famU LA c aF 3) (famU LN c nF 3) (famU LC c cF 3), .slice (famU LA c aF 4) (famU LN c nF 4) (famU LC c cF 4), .slice (famU LA c aF 5) (famU LN c nF 5) (famU LC c cF 5), .slice (famU LA c aF 6) (famU LN c nF 6) (famU LC c cF 6), .slice (famU LA c aF 7) (famU LN c nF 7) (famU LC c cF 7)])
  rw [if_pos (by rfl)]
  refine wp_store_row _ _ _ rfl rfl rfl hB2.out.1 (by kernel_rfl) rfl (by simp [Value.oneCell']) ?_
  try rw [← hW19.out]
  have kr4 : Keeps (fun k => k = B2) W18 W19 := by rw [hW19.out]; exact keeps_setRow _ _ _
  replace ho13 := qH (ho13.out.keeps' kr4 (fun g hg e => (own_ne_old ho13.out o_B4_B2.out) (by rw [← e]; exact hg)))
  replace hs13 := qH (Nat.le_trans hs13.out kr4.size)
  clear kr4
  have kr5 : Keeps (fun k => k = B2) W18 W19 := by rw [hW19.out]; exact keeps_setRow _ _ _
  replace hoF := qH (hoF.out.keeps' kr5 (fun g hg e => (own_ne_old hoF.out o_fb_B2.out) (by rw [← e]; exact hg)))
  replace hsF := qH (Nat.le_trans hsF.out kr5.size)
  clear kr5
  replace hst := zS hW19 (hst.out.row gB2.out _)
  replace hB1 := zB hW19 (hB1.out.rowo (Nat.ne_of_lt nB1B2.out) _)
  replace hB2 := qH (show Bx W19 Nil B2 #[.int .u64 (e.toNat : Int), .slice a13 nn c13, .slice (famU LA c aF 0) (famU LN c nF 0) (famU LC c cF 0), .slice (famU LA c aF 1) (famU LN c nF 1) (famU LC c cF 1), .slice (famU LA c aF 2) (famU LN c nF 2) (famU LC c cF 2), .slice (famU LA c aF 3) (famU LN c nF 3) (famU LC c cF 3), .slice (famU LA c aF 4) (famU LN c nF 4) (famU LC c cF 4), .slice (famU LA c aF 5) (famU LN c nF 5) (famU LC c cF 5), .slice (famU LA c aF 6) (famU LN c nF 6) (famU LC c cF 6), .slice (famU LA c aF 7) (famU LN c nF 7) (famU LC c cF 7)] 30 by rw [hW19.out]; exact hB2.out.row _)
  replace hB3 := zB hW19 (hB3.out.rowo (Nat.ne_of_gt nB2B3.out) _)
  replace hB5 := zB hW19 (hB5.out.rowo (Nat.ne_of_gt nB2B5.out) _)
  refine hK.out _ _ (⟨cB hB1 0, cB hB1 1, cB hB1 2, cB hB1 3, cB hB1 4, cB hB1 5, cB hB1 6, cB hB1 7, cB hB1 8, cB hB1 9, cB hB5 0⟩) (fun hHeld => ?_)
  clear hK K
  try simp only [Act.put, List.getElem_toArray, List.getElem_cons_succ, List.getElem_cons_zero]
  refine fT 5 rfl hHeld ?_; try simp only [sP,sQ]
  refine fT 6 rfl hHeld ?_; try simp only [sP,sQ]
  refine fD ?_
  clear hHeld
  have c_B1_0 := cB hB1 0
  have c_B1_1 := cB hB1 1
  have c_B1_2 := cB hB1 2
  have c_B1_3 := cB hB1 3
  have c_B1_4 := cB hB1 4
  have c_B1_5 := cB hB1 5
  have c_B1_6 := cB hB1 6
  have c_B1_7 := cB hB1 7
  have c_B1_8 := cB hB1 8
  have c_B1_9 := cB hB1 9
  have l_B1 := hB1.out.lt
  have c_B2_0 := cB hB2 0
  have c_B2_1 := cB hB2 1
  have c_B2_2 := cB hB2 2
  have c_B2_3 := cB hB2 3
  have c_B2_4 := cB hB2 4
  have c_B2_5 := cB hB2 5
  have c_B2_6 := cB hB2 6
  have c_B2_7 := cB hB2 7
  have c_B2_8 := cB hB2 8
  have c_B2_9 := cB hB2 9
  have l_B2 := hB2.out.lt
  have c_B5_0 := cB hB5 0
  have l_B5 := hB5.out.lt
  go_wp2_with fail
  clear c_B1_0 c_B1_1 c_B1_2 c_B1_3 c_B1_4 c_B1_5 c_B1_6 c_B1_7 c_B1_8 c_B1_9 l_B1 c_B2_0 c_B2_1 c_B2_2 c_B2_3 c_B2_4 c_B2_5 c_B2_6 c_B2_7 c_B2_8 c_B2_9 l_B2 c_B5_0 l_B5
  refine bodyPost_ret (results_row_tmp2 rfl rfl hB2.out.1 Tryz.underlying30 rfl (by kernel_rfl)) rfl ?_
  exact ⟨_, _, _, _, rfl, by simpa using ho13.out.base gB4.out, hst.out.keeps, hoF.out.base gfb.out⟩
end
end Go.Proofs.YtefpbljekfkefaaGreat
