/- carracklaw07: TreeTurns. -/
import Derived.Test.YtefpbljekfkefaaGreatW7gQ
import Derived.Test.YtefpbljekfkefaaGreatRef7SQ
namespace Go.Proofs.YtefpbljekfkefaaGreat
open Go.RowKit PT

set_option maxRecDepth 100000 in
set_option maxHeartbeats 4000000 in
theorem treeTurns_any {w : World} {vl : Value} {ps : List PieceV} (a b : UInt8) (hl : Look kPc w vl ps) :
    Calls Tryz.prog 8 #[vl, .agg #[.int .u8 (a.toNat : Int), .int .u8 (b.toNat : Int)]] w fun e w' => e = .returned (.bool true) ∧ Keeps Nil w w' := by
  obtain ⟨X, hX⟩ : ∃ X, X = freeL ps := ⟨_, rfl⟩
  obtain ⟨f0, hf0⟩ : ∃ g, g = layF ps := ⟨_, rfl⟩
  obtain ⟨P, hP⟩ : ∃ P, P = layAll (formW 4800) [] (ps.take 20) := ⟨_, rfl⟩
  obtain ⟨M, hM⟩ : ∃ M, M = X.length := ⟨_, rfl⟩
  obtain ⟨g1, g2, g3⟩ := free_good ps
  have hMs : M ≤ 100 := by rw [hM, hX]; exact free_short ps
  rw [← hX] at g1 g2 g3
  have HQ := Lib.hid (And.intro g1 g3)
  have HXn := Lib.hid g2
  have HF := Lib.hid (And.intro hf0 (And.intro hP hX))
  have HM := Lib.hid hM
  have HL := Lib.hid hl
  obtain ⟨al, lcap, rfl, hlm⟩ := hl.val
  clear hl hlm hX hf0 hP hM g1 g2 g3
  obtain ⟨ha, hha⟩ : ∃ n : Nat, n = a.toNat := ⟨_, rfl⟩
  obtain ⟨hb, hhb⟩ : ∃ n : Nat, n = b.toNat := ⟨_, rfl⟩
  have ha6 : ha ≤ 255 := by rw [hha]; have := a.toNat_lt; omega
  have hb6 : hb ≤ 255 := by rw [hhb]; have := b.toNat_lt; omega
  rw [← hha, ← hhb]
  clear hha hhb
  have q_a : IntKind.i64.wrap (ha : Int) = (ha : Int) := by rw [IntWalk.i64_left]; exact IntWalk.wrap64_in _ (by omega)
  have q_b : IntKind.i64.wrap (hb : Int) = (hb : Int) := by rw [IntWalk.i64_left]; exact IntWalk.wrap64_in _ (by omega)
  have hst := Lib.hid (Step.refl Nil w)
  go_enter Tryz.func8, Tryz.ntmps8
  obtain ⟨W1, hW1⟩ : ∃ W, W = w.alloc (.cells #[.int .u8 (ha : Int), .int .u8 (hb : Int)] 68) := ⟨_, rfl⟩
  obtain ⟨B1, eB1⟩ : ∃ B, B = w.heap.size := ⟨_, rfl⟩
  replace hW1 := Lib.hid hW1
  replace eB1 := Lib.hid eB1
  go_wp2_with fail
  rw [← hW1.out]
  try rw [← eB1.out]
  have k1 : Keeps Nil w W1 := by rw [hW1.out]; exact alloc_keeps _ _
  have e0B1 : B1 = w.heap.size := by rw [eB1.out]
  have hB1 := Lib.hid (show Bx W1 Nil B1 #[.int .u8 (ha : Int), .int .u8 (hb : Int)] 68 by rw [hW1.out]; exact Bx.new Nil.lt _ _ e0B1)
  have gB1 := Lib.hid (show w.heap.size ≤ B1 by rw [e0B1]; exact hst.out.keeps.size)
  replace hst := Lib.hid (hst.out.nil k1)
  clear k1 e0B1
  refine (awake07 _).mono ?_
  rintro _ W2 ⟨rfl, kn⟩
  replace hst := Lib.hid (hst.out.nil kn)
  replace hB1 := Lib.hid (hB1.out.nil kn)
  clear kn
  have c_B1_0 := hB1.out.cell 0 _ rfl
  have f_B1_0 := hB1.out.frz 0
  have c_B1_1 := hB1.out.cell 1 _ rfl
  have f_B1_1 := hB1.out.frz 1
  have l_B1 := hB1.out.lt
  go_wp2_with fail
  clear c_B1_0 f_B1_0 c_B1_1 f_B1_1 l_B1
  refine (laid07_any (HL.out.keeps_nil hst.out.keeps)).mono ?_
  rintro _ W3 ⟨t, ab, ao, ac, a2, c2, vf, S1, rfl, hT, hX, hF, kn⟩
  replace hT := Lib.hid hT
  replace hX := Lib.hid hX
  replace hT := hT.out
  replace hX := hX.out
  rw [← HF.out.1] at hT
  rw [← HF.out.2.1] at hX ⊢
  rw [← HF.out.2.2] at hF
  obtain ⟨af, cf, rfl, hfm⟩ := hF.val
  rw [← HM.out] at hF ⊢
  have hfm2 := Lib.hid hfm
  clear hfm
  replace hF := Lib.hid hF
  replace hT := Lib.hid hT
  replace hX := Lib.hid hX
  replace hst := Lib.hid (hst.out.trans kn)
  replace hB1 := Lib.hid (hB1.out.steps kn)
  clear kn
  have c_B1_0 := hB1.out.cell 0 _ rfl
  have f_B1_0 := hB1.out.frz 0
  have c_B1_1 := hB1.out.cell 1 _ rfl
  have f_B1_1 := hB1.out.frz 1
  have l_B1 := hB1.out.lt
  obtain ⟨W4, hW4⟩ : ∃ W, W = W3.alloc (.cells #[.slice (some ⟨ab, ao, none⟩) 600 ac, .slice a2 P.length c2] 71) := ⟨_, rfl⟩
  obtain ⟨B2, eB2⟩ : ∃ B, B = W3.heap.size := ⟨_, rfl⟩
  replace hW4 := Lib.hid hW4
  replace eB2 := Lib.hid eB2
  go_wp2_with fail
  clear c_B1_0 f_B1_0 c_B1_1 f_B1_1 l_B1
  rw [← hW4.out]
  try rw [← eB2.out]
  have k2 : Keeps Nil W3 W4 := by rw [hW4.out]; exact alloc_keeps _ _
  have e0B2 : B2 = W3.heap.size := by rw [eB2.out]
  have hB2 := Lib.hid (show Bx W4 S1 B2 #[.slice (some ⟨ab, ao, none⟩) 600 ac, .slice a2 P.length c2] 71 by rw [hW4.out]; exact Bx.new hT.out.lt _ _ e0B2)
  have gB2 := Lib.hid (show w.heap.size ≤ B2 by rw [e0B2]; exact hst.out.keeps.size)
  have nB1B2 := Lib.hid (show B1 < B2 by rw [e0B2]; exact hB1.out.lt)
  replace hst := Lib.hid (hst.out.nil k2)
  replace hX := Lib.hid (hX.out.keeps_nil k2)
  replace hF := Lib.hid (hF.out.keeps_nil k2)
  replace hT := Lib.hid (hT.out.nil k2)
  replace hB1 := Lib.hid (hB1.out.nil k2)
  clear k2 e0B2
  obtain ⟨f1, ef1⟩ : ∃ g, g = PT.stF 4800 f0 32 0 := ⟨_, rfl⟩
  have hZ := Lib.hid (show Stands f0 X f1 [] by rw [ef1]; exact Stands.start HQ.out.1 HQ.out.2 (fun x _ => rfl))
  refine (plantF_any hT.out 0 _ rfl).mono ?_
  rintro _ W5 ⟨rfl, S1, hT2, kn⟩
  rw [← ef1] at hT2
  clear ef1
  replace hst := Lib.hid (hst.out.trans kn)
  replace hX := Lib.hid (hX.out.steps kn)
  replace hF := Lib.hid (hF.out.steps kn)
  replace hB1 := Lib.hid (hB1.out.steps kn)
  replace hB2 := Lib.hid (hB2.out.steps kn)
  replace hT := Lib.hid hT2
  clear kn hT2
  have c_B1_0 := hB1.out.cell 0 _ rfl
  have f_B1_0 := hB1.out.frz 0
  have c_B1_1 := hB1.out.cell 1 _ rfl
  have f_B1_1 := hB1.out.frz 1
  have l_B1 := hB1.out.lt
  have c_B2_0 := hB2.out.cell 0 _ rfl
  have f_B2_0 := hB2.out.frz 0
  have c_B2_1 := hB2.out.cell 1 _ rfl
  have f_B2_1 := hB2.out.frz 1
  have l_B2 := hB2.out.lt
  go_wp2_with fail
  clear c_B1_0 f_B1_0 c_B1_1 f_B1_1 l_B1 c_B2_0 f_B2_0 c_B2_1 f_B2_1 l_B2
  have hlt1 := Lib.hid hT.out.lt
  refine (Turned_any (show View kU S1 _ (.slice af M cf) X from hF.out) ha hb (by omega) (by omega) (by rw [← HM.out]; omega)).mono ?_
  rintro _ W6 ⟨v, R, rfl, ho, hp, kn⟩
  replace ho := ho.view (S := S1) (fun g hg e => absurd (hlt1.out g e) (Nat.not_lt.2 hg))
  obtain ⟨ar, cr, rfl, hRm⟩ := ho.val
  rw [show R.length = M by rw [HM.out]; exact hp.length_eq] at ho ⊢
  have HR := Lib.hid (And.intro (show M = R.length by rw [HM.out]; exact hp.length_eq.symm) (And.intro hp (hp.nodup_iff.2 HXn.out)))
  have hV := Lib.hid ho
  clear ho hp hRm hlt1
  replace hst := Lib.hid (hst.out.nil kn)
  replace hX := Lib.hid (hX.out.keeps_nil kn)
  replace hF := Lib.hid (hF.out.keeps_nil kn)
  replace hT := Lib.hid (hT.out.nil kn)
  replace hB1 := Lib.hid (hB1.out.nil kn)
  replace hB2 := Lib.hid (hB2.out.nil kn)
  clear kn
  have c_B1_0 := hB1.out.cell 0 _ rfl
  have f_B1_0 := hB1.out.frz 0
  have c_B1_1 := hB1.out.cell 1 _ rfl
  have f_B1_1 := hB1.out.frz 1
  have l_B1 := hB1.out.lt
  have c_B2_0 := hB2.out.cell 0 _ rfl
  have f_B2_0 := hB2.out.frz 0
  have c_B2_1 := hB2.out.cell 1 _ rfl
  have f_B2_1 := hB2.out.frz 1
  have l_B2 := hB2.out.lt
  go_wp2_with fail
  clear c_B1_0 f_B1_0 c_B1_1 f_B1_1 l_B1 c_B2_0 f_B2_0 c_B2_1 f_B2_1 l_B2
  clear hB1
  have c_B2_0 := hB2.out.cell 0 _ rfl
  have f_B2_0 := hB2.out.frz 0
  have c_B2_1 := hB2.out.cell 1 _ rfl
  have f_B2_1 := hB2.out.frz 1
  have l_B2 := hB2.out.lt
  go_wp2_with fail
  clear c_B2_0 f_B2_0 c_B2_1 f_B2_1 l_B2
  go_loopw [10] (fun i wr => ∃ (k : Nat) (Sa : Nat → Prop) (f : UInt64 → UInt64), k ≤ M ∧ i = .int .i64 (k : Int) ∧ Hid (Step Nil Sa w wr) ∧ Hid (TxF wr t f 4800 Sa) ∧ Hid (Stands f0 X f (R.take k)) ∧ Hid (View kU Sa wr (.slice ar M cr) R) ∧ Hid (View kU Sa wr (.slice af M cf) X) ∧ Hid (TxV Sa wr (.slice (some ⟨ab, ao, none⟩) 600 ac) (.slice a2 P.length c2) (formW 4800) P) ∧ Hid (Bx wr Sa B2 #[.slice (some ⟨ab, ao, none⟩) 600 ac, .slice a2 P.length c2] 71)) (fun i _ => M - (intOf i).toNat)
  case atStart => exact ⟨0, _, _, Nat.zero_le _, rfl, hst, hT, Lib.hid (by rw [List.take_zero]; exact hZ.out), hV, hF, hX, hB2⟩
  case round =>
    clear hst hT hZ hV hF hX hB2 q_a q_b
    obtain ⟨k, Sa, f, hk, rfl, hst, hT, hZ, hV, hF, hX, hB2⟩ := hrel
    by_cases hlt : k < M
    · obtain ⟨gr, gor, cap, e1, hcp, hcm, _, _, _⟩ := hV.out.pos (by rw [← HR.out.1]; omega)
      simp only [Value.slice.injEq] at e1
      obtain ⟨rfl, hn1, rfl⟩ := e1
      clear hn1
      obtain ⟨y, hy⟩ : ∃ y, R[k]? = some y := ⟨R[k]'(by rw [← HR.out.1]; exact hlt), by simp⟩
      obtain ⟨k1, hk1⟩ : ∃ n, n = k + 1 := ⟨_, rfl⟩
      have hcM : M ≤ cr := by rw [HR.out.1]; exact hcp
      have hk1M : k1 ≤ M := by omega
      have hk1c : k1 ≤ cr := by omega
      have htl : (R.take k1).length = k1 := by rw [List.length_take, ← HR.out.1]; omega
      have HB := Lib.hid (show ∀ (S : Nat → Prop) (W : World), View kU S W (.slice (some ⟨gr, gor, none⟩) M cr) R → View kU S W (.slice (some ⟨gr, gor, none⟩) k1 cr) (R.take k1) from fun S W h => h.front (List.take_append_drop k1 R).symm htl.symm)
      have htk : R.take k ++ [y] = R.take k1 := by rw [hk1]; exact (take_succ' hy).symm
      have hny : y ∉ R.take k := fun e => by
          have h9 : (R.take k ++ [y]).Nodup := by rw [htk]; exact HR.out.2.2.sublist (List.take_sublist _ _)
          exact (List.nodup_append.1 h9).2.2 y e y (by simp) rfl
      have HD := Lib.hid (And.intro (show y ∈ X from HR.out.2.1.mem_iff.1 (List.mem_of_getElem? hy)) (And.intro hny htk))
      have HTL := Lib.hid (And.intro htl (HR.out.2.2.sublist (List.take_sublist k1 R)))
      have HLT := Lib.hid (show (R.take k1).length < 4294967296 by rw [htl]; omega)
      have HLS := Lib.hid (show (R.take k1).length ≤ 65535 by rw [htl]; omega)
      have HY := Lib.hid hy
      have HK := Lib.hid (And.intro hk1 hlt)
      have hkM : k ≤ 100 := by omega
      have q_k1 : wrap64 ((k : Int) + 1) = (k1 : Int) := by rw [hk1]; exact wrap_step k 1 (by omega) (by decide)
      have q_k2 : IntKind.i64.wrap ((k : Int) + 1) = (k1 : Int) := by rw [IntWalk.i64_left]; exact q_k1
      clear hy hk1 htl htk hny hcp hcm
      have c_B2_0 := hB2.out.cell 0 _ rfl
      have f_B2_0 := hB2.out.frz 0
      have c_B2_1 := hB2.out.cell 1 _ rfl
      have f_B2_1 := hB2.out.frz 1
      have l_B2 := hB2.out.lt
      have e_y : wr.cell? ⟨gr, gor + k, none⟩ = some (.int .u64 (y.toNat : Int)) := View.cellX hV.out.at.2.2.2.2.2 k y HY.out
      have l_gr := hV.out.at.2.2.2.1
      go_wp2_with fail
      clear c_B2_0 f_B2_0 c_B2_1 f_B2_1 l_B2 e_y l_gr
      obtain ⟨f2a, f2r, hIf2, hZf2⟩ := Stands.put HQ.out.1 HQ.out.2 hZ.out (off := y) HD.out.1 HD.out.2.1
      obtain ⟨f2, ef2⟩ : ∃ g, g = PT.stF 4800 f2a 32 f2r := ⟨_, rfl⟩
      rw [← ef2] at hZf2
      replace hZ := Lib.hid hZf2
      clear hZf2
      replace hIf2 := Lib.hid hIf2
      refine (Insert_any hIf2.out hT.out).mono ?_
      rintro _ W7 ⟨rfl, S2, hT2, kn⟩
      rw [← ef2] at hT2
      clear ef2 hIf2
      replace hst := Lib.hid (hst.out.trans kn)
      replace hV := Lib.hid (hV.out.steps kn)
      replace hF := Lib.hid (hF.out.steps kn)
      replace hX := Lib.hid (hX.out.steps kn)
      replace hB2 := Lib.hid (hB2.out.steps kn)
      replace hT := Lib.hid hT2
      clear kn hT2
      have c_B2_0 := hB2.out.cell 0 _ rfl
      have f_B2_0 := hB2.out.frz 0
      have c_B2_1 := hB2.out.cell 1 _ rfl
      have f_B2_1 := hB2.out.frz 1
      have l_B2 := hB2.out.lt
      have e_y : W7.cell? ⟨gr, gor + k, none⟩ = some (.int .u64 (y.toNat : Int)) := View.cellX hV.out.at.2.2.2.2.2 k y HY.out
      have l_gr := hV.out.at.2.2.2.1
      go_wp2_with fail
      clear c_B2_0 f_B2_0 c_B2_1 f_B2_1 l_B2 e_y l_gr
      obtain ⟨W8, hW8⟩ : ∃ W, W = W7.drew := ⟨_, rfl⟩
      replace hW8 := Lib.hid hW8
      have kn : Keeps Nil W7 W8 := by rw [hW8.out]; exact keeps_drew _
      replace hst := Lib.hid (hst.out.nil kn)
      replace hV := Lib.hid (hV.out.keeps_nil kn)
      replace hF := Lib.hid (hF.out.keeps_nil kn)
      replace hX := Lib.hid (hX.out.keeps_nil kn)
      replace hT := Lib.hid (hT.out.nil kn)
      replace hB2 := Lib.hid (hB2.out.nil kn)
      clear kn
      refine wp_region_held_drew (S := fun w' => w'.cell? ⟨B2, 0, none⟩ = some (.slice (some ⟨ab, ao, none⟩) 600 ac) ∧ w'.cell? ⟨B2, 1, none⟩ = some (.slice a2 P.length c2)) (by kernel_rfl) (by rw [← hW8.out]; exact ⟨hB2.out.cell 0 _ rfl, hB2.out.cell 1 _ rfl⟩) (fun hHeld => ?_)
      rw [← hW8.out] at hHeld ⊢
      refine wpAnyH_take (i := 0) (oi := _) (v := ?m1_v) rfl (by kernel_rfl) (by kernel_rfl) (by kernel_rfl) (fun _ _ _ h => h) (Or.inl ⟨by kernel_rfl, ?m1_h⟩) hHeld ?m1_r
      case m1_h => (intro w hSw; (try dsimp only at hSw); go_simp; try with_reducible rfl)
      try simp only [Act.put, List.getElem_toArray, List.getElem_cons_zero, List.setIfInBounds_toArray, List.set_cons_zero, List.set_cons_succ]
      refine wpAnyH_take (i := 1) (oi := _) (v := ?m2_v) rfl (by kernel_rfl) (by kernel_rfl) (by kernel_rfl) (fun _ _ _ h => h) (Or.inl ⟨by kernel_rfl, ?m2_h⟩) hHeld ?m2_r
      case m2_h => (intro w hSw; (try dsimp only at hSw); go_simp; try with_reducible rfl)
      try simp only [Act.put, List.getElem_toArray, List.getElem_cons_succ, List.getElem_cons_zero, List.setIfInBounds_toArray, List.set_cons_zero, List.set_cons_succ]
      refine wpAnyH_take (i := 2) (oi := _) (v := ?m3_v) rfl (by kernel_rfl) (by kernel_rfl) (by kernel_rfl) (fun _ _ _ h => h) (Or.inl ⟨by kernel_rfl, ?m3_h⟩) hHeld ?m3_r
      case m3_h => (intro w hSw; (try dsimp only at hSw); go_simp; try with_reducible rfl)
      try simp only [Act.put, List.getElem_toArray, List.getElem_cons_succ, List.getElem_cons_zero, List.setIfInBounds_toArray, List.set_cons_zero, List.set_cons_succ]
      refine wpAnyH_take (i := 3) (oi := _) (v := ?m4_v) rfl (by kernel_rfl) (by kernel_rfl) (by kernel_rfl) (fun _ _ _ h => h) (Or.inl ⟨by kernel_rfl, ?m4_h⟩) hHeld ?m4_r
      case m4_h => (intro w hSw; (try dsimp only at hSw); go_simp; try with_reducible rfl)
      try simp only [Act.put, List.getElem_toArray, List.getElem_cons_succ, List.getElem_cons_zero, List.setIfInBounds_toArray, List.set_cons_zero, List.set_cons_succ]
      refine wpAnyH_take (i := 4) (oi := _) (v := ?m5_v) rfl (by kernel_rfl) (by kernel_rfl) (by kernel_rfl) (fun _ _ _ h => h) (Or.inl ⟨by kernel_rfl, ?m5_h⟩) hHeld ?m5_r
      case m5_h => (intro w hSw; (try dsimp only at hSw); go_simp; try with_reducible rfl)
      try simp only [Act.put, List.getElem_toArray, List.getElem_cons_succ, List.getElem_cons_zero, List.setIfInBounds_toArray, List.set_cons_zero, List.set_cons_succ]
      refine wpAnyH_ready (rs := [5]) (by kernel_rfl) (by simp) ?_
      refine (AllReadyH.cons (o := _) rfl (fun K hK => ?_) AllReadyH.nil)
      go_simp
      obtain ⟨T1, hT1a, hT1b, hT1c⟩ := Stands.checks HQ.out.1 hZ.out (k := (R.take k1)) HTL.out.2 (fun x hx => HQ.out.1.nz (HR.out.2.1.mem_iff.1 (List.mem_of_mem_take hx)))
      have hT1d : checkT f2 T1 = true := hT1c.2 (fun x => by rw [← HD.out.2.2])
      replace hT1a := Lib.hid (And.intro hT1a (And.intro hT1b hT1d))
      clear hT1b hT1c hT1d
      refine (Check_any hT.out (show View kU S2 _ (.slice (some ⟨gr, gor, none⟩) k1 cr) (R.take k1) from HB.out S2 _ hV.out) HLT.out hT1a.out.1 hT1a.out.2.1).mono ?_
      rintro _ W9 ⟨rfl, kn⟩
      rw [hT1a.out.2.2]
      clear hT1a
      replace hst := Lib.hid (hst.out.nil kn)
      replace hV := Lib.hid (hV.out.keeps_nil kn)
      replace hF := Lib.hid (hF.out.keeps_nil kn)
      replace hX := Lib.hid (hX.out.keeps_nil kn)
      replace hT := Lib.hid (hT.out.nil kn)
      replace hB2 := Lib.hid (hB2.out.nil kn)
      clear kn
      refine hK.out _ _ (⟨hB2.out.cell 0 _ rfl, hB2.out.cell 1 _ rfl⟩) (fun hHeld => ?_)
      clear hK K
      try simp only [Act.put, List.getElem_toArray, List.getElem_cons_succ, List.getElem_cons_zero, List.setIfInBounds_toArray, List.set_cons_zero, List.set_cons_succ]
      refine wpAnyH_take (i := 6) (oi := _) (v := ?m6_v) rfl (by kernel_rfl) (by kernel_rfl) (by kernel_rfl) (fun _ _ _ h => h) (Or.inl ⟨by kernel_rfl, ?m6_h⟩) hHeld ?m6_r
      case m6_h => (intro w hSw; (try dsimp only at hSw); go_simp; try with_reducible rfl)
      try simp only [Act.put, List.getElem_toArray, List.getElem_cons_succ, List.getElem_cons_zero, List.setIfInBounds_toArray, List.set_cons_zero, List.set_cons_succ]
      refine wpAnyH_take (i := 7) (oi := _) (v := ?m7_v) rfl (by kernel_rfl) (by kernel_rfl) (by kernel_rfl) (fun _ _ _ h => h) (Or.inl ⟨by kernel_rfl, ?m7_h⟩) hHeld ?m7_r
      case m7_h => (intro w hSw; (try dsimp only at hSw); go_simp; try with_reducible rfl)
      try simp only [Act.put, List.getElem_toArray, List.getElem_cons_succ, List.getElem_cons_zero, List.setIfInBounds_toArray, List.set_cons_zero, List.set_cons_succ]
      refine wpAnyH_take (i := 8) (oi := _) (v := ?m8_v) rfl (by kernel_rfl) (by kernel_rfl) (by kernel_rfl) (fun _ _ _ h => h) (Or.inl ⟨by kernel_rfl, ?m8_h⟩) hHeld ?m8_r
      case m8_h => (intro w hSw; (try dsimp only at hSw); go_simp; try with_reducible rfl)
      try simp only [Act.put, List.getElem_toArray, List.getElem_cons_succ, List.getElem_cons_zero, List.setIfInBounds_toArray, List.set_cons_zero, List.set_cons_succ]
      refine wpAnyH_take (i := 10) (oi := _) (v := ?m9_v) rfl (by kernel_rfl) (by kernel_rfl) (by kernel_rfl) (fun _ _ _ h => h) (Or.inl ⟨by kernel_rfl, ?m9_h⟩) hHeld ?m9_r
      case m9_h => (intro w hSw; (try dsimp only at hSw); go_simp; try with_reducible rfl)
      try simp only [Act.put, List.getElem_toArray, List.getElem_cons_succ, List.getElem_cons_zero, List.setIfInBounds_toArray, List.set_cons_zero, List.set_cons_succ]
      refine wpAnyH_take (i := 11) (oi := _) (v := ?m10_v) rfl (by kernel_rfl) (by kernel_rfl) (by kernel_rfl) (fun _ _ _ h => h) (Or.inl ⟨by kernel_rfl, ?m10_h⟩) hHeld ?m10_r
      case m10_h => (intro w hSw; (try dsimp only at hSw); go_simp; try with_reducible rfl)
      try simp only [Act.put, List.getElem_toArray, List.getElem_cons_succ, List.getElem_cons_zero, List.setIfInBounds_toArray, List.set_cons_zero, List.set_cons_succ]
      refine wpAnyH_take (i := 12) (oi := _) (v := ?m11_v) rfl (by kernel_rfl) (by kernel_rfl) (by kernel_rfl) (fun _ _ _ h => h) (Or.inl ⟨by kernel_rfl, ?m11_h⟩) hHeld ?m11_r
      case m11_h => (intro w hSw; (try dsimp only at hSw); go_simp; try with_reducible rfl)
      try simp only [Act.put, List.getElem_toArray, List.getElem_cons_succ, List.getElem_cons_zero, List.setIfInBounds_toArray, List.set_cons_zero, List.set_cons_succ]
      refine wpAnyH_take (i := 13) (oi := _) (v := ?m12_v) rfl (by kernel_rfl) (by kernel_rfl) (by kernel_rfl) (fun _ _ _ h => h) (Or.inl ⟨by kernel_rfl, ?m12_h⟩) hHeld ?m12_r
      case m12_h => (intro w hSw; (try dsimp only at hSw); go_simp; try with_reducible rfl)
      try simp only [Act.put, List.getElem_toArray, List.getElem_cons_succ, List.getElem_cons_zero, List.setIfInBounds_toArray, List.set_cons_zero, List.set_cons_succ]
      refine wpAnyH_take (i := 14) (oi := _) (v := ?m13_v) rfl (by kernel_rfl) (by kernel_rfl) (by kernel_rfl) (fun _ _ _ h => h) (Or.inl ⟨by kernel_rfl, ?m13_h⟩) hHeld ?m13_r
      case m13_h => (intro w hSw; (try dsimp only at hSw); go_simp; try with_reducible rfl)
      try simp only [Act.put, List.getElem_toArray, List.getElem_cons_succ, List.getElem_cons_zero, List.setIfInBounds_toArray, List.set_cons_zero, List.set_cons_succ]
      refine wpAnyH_ready (rs := [9]) (by kernel_rfl) (by simp) ?_
      refine (AllReadyH.cons (o := _) rfl (fun K hK => ?_) AllReadyH.nil)
      go_simp
      obtain ⟨T2, _, hT2b, _, hT2d⟩ := hZ.out.told HQ.out.1
      rw [hZ.out.list] at hT2b
      rw [show R.take k ++ [y] = R.take k1 from HD.out.2.2] at hT2b
      replace hT2b := Lib.hid hT2b
      replace hT2d := Lib.hid hT2d
      refine (All_any hT.out.readsK hT.out.lt hT2d.out (by rw [hT2b.out]; exact (by rw [sortF_length]; exact HLT.out))).mono ?_
      rintro _ W10 ⟨v, rfl, ho, kn⟩
      rw [hT2b.out] at ho
      replace ho := ho.view (S := S2) (fun g hg e => absurd (hT.out.lt g e) (Nat.not_lt.2 hg))
      obtain ⟨aaT2, caT2, rfl, _⟩ := ho.val
      rw [show (sortF (cmpF f0) (R.take k1)).length = k1 from (sortF_length _ _).trans HTL.out.1] at ho ⊢
      have hAT2 := Lib.hid ho
      clear ho hT2b hT2d
      replace hst := Lib.hid (hst.out.nil kn)
      replace hV := Lib.hid (hV.out.keeps_nil kn)
      replace hF := Lib.hid (hF.out.keeps_nil kn)
      replace hX := Lib.hid (hX.out.keeps_nil kn)
      replace hT := Lib.hid (hT.out.nil kn)
      replace hB2 := Lib.hid (hB2.out.nil kn)
      clear kn
      refine hK.out _ _ (⟨hB2.out.cell 0 _ rfl, hB2.out.cell 1 _ rfl⟩) (fun hHeld => ?_)
      clear hK K
      try simp only [Act.put, List.getElem_toArray, List.getElem_cons_succ, List.getElem_cons_zero, List.setIfInBounds_toArray, List.set_cons_zero, List.set_cons_succ]
      refine wpAnyH_ready (rs := [15]) (by kernel_rfl) (by simp) ?_
      refine (AllReadyH.cons (o := _) rfl (fun K hK => ?_) AllReadyH.nil)
      go_simp
      have hlt_V1 := Lib.hid hT.out.lt
      refine (rSorted_any hX.out.rreads (show View kU S2 _ (.slice (some ⟨gr, gor, none⟩) k1 cr) (R.take k1) from HB.out S2 _ hV.out) HLS.out HTL.out.2).mono ?_
      rintro _ W11 ⟨v, rfl, ho, kn⟩
      replace ho := ho.shut (S' := S2) (fun g hg e => hlt_V1.out g e)
      rw [show txLoad (formW 4800) P = f0 by rw [HF.out.1, HF.out.2.1]; rfl] at ho
      obtain ⟨asV1, csV1, rfl, _⟩ := ho.val
      rw [show (sortF (cmpF f0) (R.take k1)).length = k1 from (sortF_length _ _).trans HTL.out.1] at ho ⊢
      have hV1 := Lib.hid ho
      clear ho hlt_V1
      replace hst := Lib.hid (hst.out.nil kn)
      replace hV := Lib.hid (hV.out.keeps_nil kn)
      replace hF := Lib.hid (hF.out.keeps_nil kn)
      replace hX := Lib.hid (hX.out.keeps_nil kn)
      replace hAT2 := Lib.hid (hAT2.out.keeps_nil kn)
      replace hT := Lib.hid (hT.out.nil kn)
      replace hB2 := Lib.hid (hB2.out.nil kn)
      clear kn
      refine hK.out _ _ (⟨hB2.out.cell 0 _ rfl, hB2.out.cell 1 _ rfl⟩) (fun hHeld => ?_)
      clear hK K
      try simp only [Act.put, List.getElem_toArray, List.getElem_cons_succ, List.getElem_cons_zero, List.setIfInBounds_toArray, List.set_cons_zero, List.set_cons_succ]
      refine wpAnyH_ready (rs := [16]) (by kernel_rfl) (by simp) ?_
      refine (AllReadyH.cons (o := _) rfl (fun K hK => ?_) AllReadyH.nil)
      go_simp
      refine (Nums_any (show View kU S2 _ (.slice aaT2 k1 caT2) (sortF (cmpF f0) (R.take k1)) from hAT2.out) (show View kU S2 _ (.slice asV1 k1 csV1) (sortF (cmpF f0) (R.take k1)) from hV1.out)).mono ?_
      rintro _ W12 ⟨rfl, kn⟩
      rw [decide_eq_true rfl]
      replace hst := Lib.hid (hst.out.nil kn)
      replace hV := Lib.hid (hV.out.keeps_nil kn)
      replace hF := Lib.hid (hF.out.keeps_nil kn)
      replace hX := Lib.hid (hX.out.keeps_nil kn)
      replace hAT2 := Lib.hid (hAT2.out.keeps_nil kn)
      replace hV1 := Lib.hid (hV1.out.keeps_nil kn)
      replace hT := Lib.hid (hT.out.nil kn)
      replace hB2 := Lib.hid (hB2.out.nil kn)
      clear kn
      refine hK.out _ _ (⟨hB2.out.cell 0 _ rfl, hB2.out.cell 1 _ rfl⟩) (fun hHeld => ?_)
      clear hK K
      try simp only [Act.put, List.getElem_toArray, List.getElem_cons_succ, List.getElem_cons_zero, List.setIfInBounds_toArray, List.set_cons_zero, List.set_cons_succ]
      refine wpAnyH_take (i := 17) (oi := _) (v := ?m14_v) rfl (by kernel_rfl) (by kernel_rfl) (by kernel_rfl) (fun _ _ _ h => h) (Or.inl ⟨by kernel_rfl, ?m14_h⟩) hHeld ?m14_r
      case m14_h => (intro w hSw; (try dsimp only at hSw); go_simp; try with_reducible rfl)
      try simp only [Act.put, List.getElem_toArray, List.getElem_cons_succ, List.getElem_cons_zero, List.setIfInBounds_toArray, List.set_cons_zero, List.set_cons_succ]
      refine wpAnyH_take (i := 18) (oi := _) (v := ?m15_v) rfl (by kernel_rfl) (by kernel_rfl) (by kernel_rfl) (fun _ _ _ h => h) (Or.inl ⟨by kernel_rfl, ?m15_h⟩) hHeld ?m15_r
      case m15_h => (intro w hSw; (try dsimp only at hSw); go_simp; try with_reducible rfl)
      try simp only [Act.put, List.getElem_toArray, List.getElem_cons_succ, List.getElem_cons_zero, List.setIfInBounds_toArray, List.set_cons_zero, List.set_cons_succ]
      refine wpAnyH_done (by kernel_rfl) ?_ _
      clear hHeld
      have c_B2_0 := hB2.out.cell 0 _ rfl
      have f_B2_0 := hB2.out.frz 0
      have c_B2_1 := hB2.out.cell 1 _ rfl
      have f_B2_1 := hB2.out.frz 1
      have l_B2 := hB2.out.lt
      have e_y : W12.cell? ⟨gr, gor + k, none⟩ = some (.int .u64 (y.toNat : Int)) := View.cellX hV.out.at.2.2.2.2.2 k y HY.out
      have l_gr := hV.out.at.2.2.2.1
      go_wp2_with fail
      clear c_B2_0 f_B2_0 c_B2_1 f_B2_1 l_B2 e_y l_gr
      go_roundw
      case rel => exact ⟨k1, _, _, hk1M, by first | rfl | (rw [HK.out.1]; rfl) | (rw [HK.out.1]; simp), hst, hT, Lib.hid (by rw [← HD.out.2.2]; exact hZ.out), hV, hF, hX, hB2⟩
      case measure => simp only [intOf]; clear q_k1 q_k2; have h1 := HK.out; omega
    · have HE := Lib.hid (show ∀ x, x ∈ X ↔ x ∈ R.take k by rw [List.take_of_length_le (by rw [← HR.out.1]; omega)]; exact fun x => HR.out.2.1.mem_iff.symm)
      have HLX := Lib.hid (show X.length < 4294967296 by rw [← HM.out]; omega)
      have c_B2_0 := hB2.out.cell 0 _ rfl
      have f_B2_0 := hB2.out.frz 0
      have c_B2_1 := hB2.out.cell 1 _ rfl
      have f_B2_1 := hB2.out.frz 1
      have l_B2 := hB2.out.lt
      go_wp2_with fail
      clear c_B2_0 f_B2_0 c_B2_1 f_B2_1 l_B2
      obtain ⟨T1, hT1a, hT1b, hT1c⟩ := Stands.checks HQ.out.1 hZ.out (k := X) HXn.out (fun x hx => HQ.out.1.nz hx)
      have hT1d : checkT f T1 = true := hT1c.2 (fun x => HE.out x)
      replace hT1a := Lib.hid (And.intro hT1a (And.intro hT1b hT1d))
      clear hT1b hT1c hT1d
      refine (Check_any hT.out (show View kU Sa _ (.slice af M cf) X from hF.out) HLX.out hT1a.out.1 hT1a.out.2.1).mono ?_
      rintro _ W7 ⟨rfl, kn⟩
      rw [hT1a.out.2.2]
      clear hT1a
      replace hst := Lib.hid (hst.out.nil kn)
      replace hF := Lib.hid (hF.out.keeps_nil kn)
      replace hT := Lib.hid (hT.out.nil kn)
      replace hB2 := Lib.hid (hB2.out.nil kn)
      clear kn
      have c_B2_0 := hB2.out.cell 0 _ rfl
      have f_B2_0 := hB2.out.frz 0
      have c_B2_1 := hB2.out.cell 1 _ rfl
      have f_B2_1 := hB2.out.frz 1
      have l_B2 := hB2.out.lt
      go_wp2_with fail
      go_ret
      clear c_B2_0 f_B2_0 c_B2_1 f_B2_1 l_B2
      exact ⟨rfl, hst.out.keeps⟩
end Go.Proofs.YtefpbljekfkefaaGreat
