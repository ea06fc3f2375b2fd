/- carracklaw07: TreeGoes. -/
import Derived.Test.YtefpbljekfkefaaGreatM27
import Derived.Test.YtefpbljekfkefaaGreatM28
namespace Go.Proofs.YtefpbljekfkefaaGreat
open Go.RowKit PT

theorem drop_at {R : List UInt64} {k k1 : Nat} {y : UInt64} (h : R[k]? = some y) (hk : k1 = k + 1) : R.drop k = y :: R.drop k1 := by
  obtain ⟨hl, e⟩ := List.getElem?_eq_some_iff.1 h
  subst hk
  rw [← e]
  exact (List.getElem_cons_drop hl).symm
theorem drop_cut {R : List UInt64} {k k1 : Nat} {y : UInt64} (hn : R.Nodup) (h : R[k]? = some y) (hk : k1 = k + 1) : (R.drop k).filter (fun z => z != y) = R.drop k1 ∧ y ∈ R.drop k ∧ y ∉ R.drop k1 := by
  have e := drop_at h hk
  have hd : (R.drop k).Nodup := hn.sublist (List.drop_sublist k R)
  rw [e] at hd
  obtain ⟨h1, _⟩ := List.nodup_cons.1 hd
  refine ⟨?_, by rw [e]; simp, h1⟩
  rw [e, List.filter_cons]
  simp only [bne_self_eq_false, Bool.false_eq_true, if_false]
  exact List.filter_eq_self.2 (fun z hz => by rw [bne_iff_ne]; exact fun h9 => h1 (by rw [← h9]; exact hz))
theorem cut_none {R : List UInt64} {y : UInt64} (h : y ∉ R) : R.filter (fun z => z != y) = R := List.filter_eq_self.2 (fun z hz => by rw [bne_iff_ne]; exact fun h9 => h (by rw [← h9]; exact hz))

set_option maxRecDepth 100000 in
set_option maxHeartbeats 4000000 in
theorem treeGoes_any {w : World} {vl : Value} {ps : List PieceV} (a b : UInt8) (hl : Look kPc w vl ps) :
    Calls Tryz.prog 10 #[vl, .agg #[.int .u8 (a.toNat : Int), .int .u8 (b.toNat : Int)]] w fun e w' => e = .returned (.bool true) ∧ Keeps Nil w w' := by
  obtain ⟨X, hX⟩ : ∃ X, X = freeL ps := ⟨_, rfl⟩
  obtain ⟨f0, hf0⟩ : ∃ g, g = layF ps := ⟨_, rfl⟩
  obtain ⟨P, hP⟩ : ∃ P, P = layAll (formW 4800) [] (ps.take 20) := ⟨_, rfl⟩
  obtain ⟨M, hM⟩ : ∃ M, M = X.length := ⟨_, rfl⟩
  obtain ⟨g1, g2, g3⟩ := free_good ps
  have hMs : M ≤ 100 := by rw [hM, hX]; exact free_short ps
  rw [← hX] at g1 g2 g3
  have HQ := Lib.hid (And.intro g1 g3)
  have HXn := Lib.hid g2
  have HF := Lib.hid (And.intro hf0 (And.intro hP hX))
  have HM := Lib.hid hM
  have HL := Lib.hid hl
  obtain ⟨al, lcap, rfl, hlm⟩ := hl.val
  clear hl hlm hX hf0 hP hM g1 g2 g3
  obtain ⟨ha, hha⟩ : ∃ n : Nat, n = a.toNat := ⟨_, rfl⟩
  obtain ⟨hb, hhb⟩ : ∃ n : Nat, n = b.toNat := ⟨_, rfl⟩
  have ha6 : ha ≤ 255 := by rw [hha]; have := a.toNat_lt; omega
  have hb6 : hb ≤ 255 := by rw [hhb]; have := b.toNat_lt; omega
  rw [← hha, ← hhb]
  clear hha hhb
  have q_a : IntKind.i64.wrap (ha : Int) = (ha : Int) := by rw [IntWalk.i64_left]; exact IntWalk.wrap64_in _ (by omega)
  have q_b : IntKind.i64.wrap (hb : Int) = (hb : Int) := by rw [IntWalk.i64_left]; exact IntWalk.wrap64_in _ (by omega)
  have hst := Lib.hid (Step.refl Nil w)
  go_enter Tryz.func10, Tryz.ntmps10
  obtain ⟨W1, hW1⟩ : ∃ W, W = w.alloc (.cells #[.int .u8 (ha : Int), .int .u8 (hb : Int)] 68) := ⟨_, rfl⟩
  obtain ⟨B1, eB1⟩ : ∃ B, B = w.heap.size := ⟨_, rfl⟩
  replace hW1 := Lib.hid hW1
  replace eB1 := Lib.hid eB1
  go_wp2_with fail
  rw [← hW1.out]
  try rw [← eB1.out]
  have k1 : Keeps Nil w W1 := by rw [hW1.out]; exact alloc_keeps _ _
  have e0B1 : B1 = w.heap.size := by rw [eB1.out]
  have hB1 := Lib.hid (show Bx W1 Nil B1 #[.int .u8 (ha : Int), .int .u8 (hb : Int)] 68 by rw [hW1.out]; exact Bx.new Nil.lt _ _ e0B1)
  have gB1 := Lib.hid (show w.heap.size ≤ B1 by rw [e0B1]; exact hst.out.keeps.size)
  replace hst := Lib.hid (hst.out.nil k1)
  clear k1 e0B1
  refine (awake07 _).mono ?_
  rintro _ W2 ⟨rfl, kn⟩
  replace hst := Lib.hid (hst.out.nil kn)
  replace hB1 := Lib.hid (hB1.out.nil kn)
  clear kn
  have c_B1_0 := hB1.out.cell 0 _ rfl
  have f_B1_0 := hB1.out.frz 0
  have c_B1_1 := hB1.out.cell 1 _ rfl
  have f_B1_1 := hB1.out.frz 1
  have l_B1 := hB1.out.lt
  go_wp2_with fail
  clear c_B1_0 f_B1_0 c_B1_1 f_B1_1 l_B1
  refine (laid07_any (HL.out.keeps_nil hst.out.keeps)).mono ?_
  rintro _ W3 ⟨t, ab, ao, ac, a2, c2, vf, S1, rfl, hT, hX, hF, kn⟩
  replace hT := Lib.hid hT
  replace hX := Lib.hid hX
  replace hT := hT.out
  replace hX := hX.out
  rw [← HF.out.1] at hT
  rw [← HF.out.2.1] at hX ⊢
  rw [← HF.out.2.2] at hF
  obtain ⟨af, cf, rfl, hfm⟩ := hF.val
  rw [← HM.out] at hF ⊢
  have hfm2 := Lib.hid hfm
  clear hfm
  replace hF := Lib.hid hF
  replace hT := Lib.hid hT
  replace hX := Lib.hid hX
  replace hst := Lib.hid (hst.out.trans kn)
  replace hB1 := Lib.hid (hB1.out.steps kn)
  clear kn
  have c_B1_0 := hB1.out.cell 0 _ rfl
  have f_B1_0 := hB1.out.frz 0
  have c_B1_1 := hB1.out.cell 1 _ rfl
  have f_B1_1 := hB1.out.frz 1
  have l_B1 := hB1.out.lt
  obtain ⟨W4, hW4⟩ : ∃ W, W = W3.alloc (.cells #[.slice (some ⟨ab, ao, none⟩) 600 ac, .slice a2 P.length c2] 71) := ⟨_, rfl⟩
  obtain ⟨B2, eB2⟩ : ∃ B, B = W3.heap.size := ⟨_, rfl⟩
  replace hW4 := Lib.hid hW4
  replace eB2 := Lib.hid eB2
  go_wp2_with fail
  clear c_B1_0 f_B1_0 c_B1_1 f_B1_1 l_B1
  rw [← hW4.out]
  try rw [← eB2.out]
  have k2 : Keeps Nil W3 W4 := by rw [hW4.out]; exact alloc_keeps _ _
  have e0B2 : B2 = W3.heap.size := by rw [eB2.out]
  have hB2 := Lib.hid (show Bx W4 S1 B2 #[.slice (some ⟨ab, ao, none⟩) 600 ac, .slice a2 P.length c2] 71 by rw [hW4.out]; exact Bx.new hT.out.lt _ _ e0B2)
  have gB2 := Lib.hid (show w.heap.size ≤ B2 by rw [e0B2]; exact hst.out.keeps.size)
  have nB1B2 := Lib.hid (show B1 < B2 by rw [e0B2]; exact hB1.out.lt)
  replace hst := Lib.hid (hst.out.nil k2)
  replace hX := Lib.hid (hX.out.keeps_nil k2)
  replace hF := Lib.hid (hF.out.keeps_nil k2)
  replace hT := Lib.hid (hT.out.nil k2)
  replace hB1 := Lib.hid (hB1.out.nil k2)
  clear k2 e0B2
  obtain ⟨Tf1, hf1a, hf1b, hZf1⟩ := Stands.build HQ.out.1 HQ.out.2 (f0 := f0) (g := f0) (fun x _ => rfl) (l := X) (fun x h => h) HXn.out
  obtain ⟨f1, ef1⟩ : ∃ g, g = PT.stF 4800 (stAll 4800 f0 (putsT Tf1)) 32 Tf1.root := ⟨_, rfl⟩
  rw [← ef1] at hZf1
  have hZ := Lib.hid hZf1
  clear hZf1
  replace hf1a := Lib.hid (And.intro hf1a hf1b)
  clear hf1b
  refine (Build_any hT.out (show View kU S1 _ (.slice af M cf) X from hF.out) (by rw [← HM.out]; omega) hf1a.out.1 hf1a.out.2).mono ?_
  rintro _ W5 ⟨rfl, S1, hT2, kn⟩
  rw [← ef1] at hT2
  clear ef1 hf1a
  replace hst := Lib.hid (hst.out.trans kn)
  replace hX := Lib.hid (hX.out.steps kn)
  replace hF := Lib.hid (hF.out.steps kn)
  replace hB1 := Lib.hid (hB1.out.steps kn)
  replace hB2 := Lib.hid (hB2.out.steps kn)
  replace hT := Lib.hid hT2
  clear kn hT2
  have c_B1_0 := hB1.out.cell 0 _ rfl
  have f_B1_0 := hB1.out.frz 0
  have c_B1_1 := hB1.out.cell 1 _ rfl
  have f_B1_1 := hB1.out.frz 1
  have l_B1 := hB1.out.lt
  have c_B2_0 := hB2.out.cell 0 _ rfl
  have f_B2_0 := hB2.out.frz 0
  have c_B2_1 := hB2.out.cell 1 _ rfl
  have f_B2_1 := hB2.out.frz 1
  have l_B2 := hB2.out.lt
  go_wp2_with fail
  clear c_B1_0 f_B1_0 c_B1_1 f_B1_1 l_B1 c_B2_0 f_B2_0 c_B2_1 f_B2_1 l_B2
  have hlt1 := Lib.hid hT.out.lt
  refine (Turned_any (show View kU S1 _ (.slice af M cf) X from hF.out) ha hb (by omega) (by omega) (by rw [← HM.out]; omega)).mono ?_
  rintro _ W6 ⟨v, R, rfl, ho, hp, kn⟩
  replace ho := ho.view (S := S1) (fun g hg e => absurd (hlt1.out g e) (Nat.not_lt.2 hg))
  obtain ⟨ar, cr, rfl, hRm⟩ := ho.val
  rw [show R.length = M by rw [HM.out]; exact hp.length_eq] at ho ⊢
  have HR := Lib.hid (And.intro (show M = R.length by rw [HM.out]; exact hp.length_eq.symm) (And.intro hp (hp.nodup_iff.2 HXn.out)))
  have hV := Lib.hid ho
  clear ho hp hRm hlt1
  replace hst := Lib.hid (hst.out.nil kn)
  replace hX := Lib.hid (hX.out.keeps_nil kn)
  replace hF := Lib.hid (hF.out.keeps_nil kn)
  replace hT := Lib.hid (hT.out.nil kn)
  replace hB1 := Lib.hid (hB1.out.nil kn)
  replace hB2 := Lib.hid (hB2.out.nil kn)
  clear kn
  have c_B1_0 := hB1.out.cell 0 _ rfl
  have f_B1_0 := hB1.out.frz 0
  have c_B1_1 := hB1.out.cell 1 _ rfl
  have f_B1_1 := hB1.out.frz 1
  have l_B1 := hB1.out.lt
  have c_B2_0 := hB2.out.cell 0 _ rfl
  have f_B2_0 := hB2.out.frz 0
  have c_B2_1 := hB2.out.cell 1 _ rfl
  have f_B2_1 := hB2.out.frz 1
  have l_B2 := hB2.out.lt
  go_wp2_with fail
  clear c_B1_0 f_B1_0 c_B1_1 f_B1_1 l_B1 c_B2_0 f_B2_0 c_B2_1 f_B2_1 l_B2
  clear hF hX
  clear hB1
  clear hB2
  go_wp2_with fail
  go_loopw [10] (fun i wr => ∃ (k : Nat) (Sa : Nat → Prop) (f : UInt64 → UInt64), k ≤ M ∧ i = .int .i64 (k : Int) ∧ Hid (Step Nil Sa w wr) ∧ Hid (TxF wr t f 4800 Sa) ∧ Hid (Stands f0 X f (R.drop k)) ∧ Hid (View kU Sa wr (.slice ar M cr) R)) (fun i _ => M - (intOf i).toNat)
  case atStart => exact ⟨0, _, _, Nat.zero_le _, rfl, hst, hT, Lib.hid (by rw [List.drop_zero]; exact hZ.out.mono (fun x => HR.out.2.1.mem_iff) HR.out.2.2), hV⟩
  case round =>
    clear hst hT hZ hV q_a q_b
    obtain ⟨k, Sa, f, hk, rfl, hst, hT, hZ, hV⟩ := hrel
    by_cases hlt : k < M
    · obtain ⟨gr, gor, cap, e1, hcp, hcm, _, _, _⟩ := hV.out.pos (by rw [← HR.out.1]; omega)
      simp only [Value.slice.injEq] at e1
      obtain ⟨rfl, hn1, rfl⟩ := e1
      clear hn1
      obtain ⟨y, hy⟩ : ∃ y, R[k]? = some y := ⟨R[k]'(by rw [← HR.out.1]; exact hlt), by simp⟩
      obtain ⟨k1, hk1⟩ : ∃ n, n = k + 1 := ⟨_, rfl⟩
      obtain ⟨m, hm⟩ : ∃ n, n = M - k1 := ⟨_, rfl⟩
      obtain ⟨c1, hc1⟩ : ∃ n, n = cr - k1 := ⟨_, rfl⟩
      have hcM : M ≤ cr := by rw [HR.out.1]; exact hcp
      have hk1M : k1 ≤ M := by omega
      have hk1c : k1 ≤ cr := by omega
      have hmd : m = (R.drop k1).length := by rw [List.length_drop, ← HR.out.1]; exact hm
      have hk1t : k1 = (R.take k1).length := by rw [List.length_take, ← HR.out.1]; omega
      have hHB1 : ∀ (S : Nat → Prop) (W : World), View kU S W (.slice (some ⟨gr, gor, none⟩) M cr) R → View kU S W (.slice (some ⟨gr, gor + k1, none⟩) m c1) (R.drop k1) := fun S W h => by rw [hc1]; exact h.back (List.take_append_drop k1 R).symm hk1t hmd
      have hHB2 : cr = k1 → ∀ (S : Nat → Prop) (W : World), View kU S W (.slice (some ⟨gr, gor, none⟩) M cr) R → View kU S W (.slice (some ⟨gr, gor, none⟩) m c1) (R.drop k1) := fun e S W h => h.none (by rw [← hmd]; omega) (by omega)
      have HLT := Lib.hid (show (R.drop k1).length < 4294967296 by rw [List.length_drop, ← HR.out.1]; omega)
      have hd := drop_cut HR.out.2.2 hy hk1
      have HD := Lib.hid (And.intro hd.1 (And.intro hd.2.1 (And.intro hd.2.2 (cut_none hd.2.2))))
      have HY := Lib.hid hy
      have HK := Lib.hid (And.intro hk1 (And.intro hlt hm))
      have q_m := hm.symm
      have q_c := hc1.symm
      have hkM : k ≤ 100 := by omega
      have q_k1 : wrap64 ((k : Int) + 1) = (k1 : Int) := by rw [hk1]; exact wrap_step k 1 (by omega) (by decide)
      have q_k2 : IntKind.i64.wrap ((k : Int) + 1) = (k1 : Int) := by rw [IntWalk.i64_left]; exact q_k1
      clear hd hy hk1 hm hc1 hmd hk1t hcp hcm
      by_cases hca : cr = k1
      · have HB := Lib.hid (hHB2 hca)
        have q_e : (cr = k1) = True := eq_true hca
        clear hca hHB1 hHB2
        have e_y : wr.cell? ⟨gr, gor + k, none⟩ = some (.int .u64 (y.toNat : Int)) := View.cellX hV.out.at.2.2.2.2.2 k y HY.out
        have l_gr := hV.out.at.2.2.2.1
        go_wp2_with fail
        clear e_y l_gr
        obtain ⟨f2a, f2r, hIf2, hZf2⟩ := Stands.cut HQ.out.1 HQ.out.2 hZ.out y
        rw [show decide ((y : UInt64) ∈ ((R.drop k) : List UInt64)) = true from decide_eq_true HD.out.2.1] at hIf2 hZf2
        obtain ⟨f2, ef2⟩ : ∃ g, g = PT.stF 4800 f2a 32 f2r := ⟨_, rfl⟩
        rw [if_pos rfl, ← ef2] at hZf2
        replace hZ := Lib.hid hZf2
        clear hZf2
        replace hIf2 := Lib.hid hIf2
        replace hZ := Lib.hid (show Stands f0 X f2 (R.drop k1) by rw [← HD.out.1]; exact hZ.out)
        refine (Delete_any hIf2.out hT.out).mono ?_
        rintro _ W7 ⟨rfl, S2, hT2, kn⟩
        rw [if_pos rfl, ← ef2] at hT2
        clear ef2 hIf2
        replace hst := Lib.hid (hst.out.trans kn)
        replace hV := Lib.hid (hV.out.steps kn)
        replace hT := Lib.hid hT2
        clear kn hT2
        have e_y : W7.cell? ⟨gr, gor + k, none⟩ = some (.int .u64 (y.toNat : Int)) := View.cellX hV.out.at.2.2.2.2.2 k y HY.out
        have l_gr := hV.out.at.2.2.2.1
        go_wp2_with fail
        clear e_y l_gr
        obtain ⟨T1, hT1a, hT1b, hT1c⟩ := Stands.checks HQ.out.1 hZ.out (k := (R.drop k1)) (HR.out.2.2.sublist (List.drop_sublist k1 R)) (fun x hx => HQ.out.1.nz (HR.out.2.1.mem_iff.1 (List.mem_of_mem_drop hx)))
        have hT1d : checkT f2 T1 = true := hT1c.2 (fun x => Iff.rfl)
        replace hT1a := Lib.hid (And.intro hT1a (And.intro hT1b hT1d))
        clear hT1b hT1c hT1d
        refine (Check_any hT.out (show View kU S2 _ (.slice (some ⟨gr, gor, none⟩) m c1) (R.drop k1) from HB.out S2 _ hV.out) HLT.out hT1a.out.1 hT1a.out.2.1).mono ?_
        rintro _ W8 ⟨rfl, kn⟩
        rw [hT1a.out.2.2]
        clear hT1a
        replace hst := Lib.hid (hst.out.nil kn)
        replace hV := Lib.hid (hV.out.keeps_nil kn)
        replace hT := Lib.hid (hT.out.nil kn)
        clear kn
        have e_y : W8.cell? ⟨gr, gor + k, none⟩ = some (.int .u64 (y.toNat : Int)) := View.cellX hV.out.at.2.2.2.2.2 k y HY.out
        have l_gr := hV.out.at.2.2.2.1
        go_wp2_with fail
        clear e_y l_gr
        obtain ⟨f3a, f3r, hIf3, hZf3⟩ := Stands.cut HQ.out.1 HQ.out.2 hZ.out y
        rw [show decide ((y : UInt64) ∈ ((R.drop k1) : List UInt64)) = false from decide_eq_false HD.out.2.2.1] at hIf3 hZf3
        obtain ⟨f3, ef3⟩ : ∃ g, g = f3a := ⟨_, rfl⟩
        rw [if_neg (by decide), ← ef3] at hZf3
        replace hZ := Lib.hid hZf3
        clear hZf3
        replace hIf3 := Lib.hid hIf3
        replace hZ := Lib.hid (show Stands f0 X f3 (R.drop k1) by rw [← HD.out.2.2.2]; exact hZ.out)
        refine (Delete_any hIf3.out hT.out).mono ?_
        rintro _ W9 ⟨rfl, S3, hT2, kn⟩
        rw [if_neg (by decide), ← ef3] at hT2
        clear ef3 hIf3
        replace hst := Lib.hid (hst.out.trans kn)
        replace hV := Lib.hid (hV.out.steps kn)
        replace hT := Lib.hid hT2
        clear kn hT2
        have e_y : W9.cell? ⟨gr, gor + k, none⟩ = some (.int .u64 (y.toNat : Int)) := View.cellX hV.out.at.2.2.2.2.2 k y HY.out
        have l_gr := hV.out.at.2.2.2.1
        go_wp2_with fail
        clear e_y l_gr
        obtain ⟨T2, hT2a, hT2b, hT2c⟩ := Stands.checks HQ.out.1 hZ.out (k := (R.drop k1)) (HR.out.2.2.sublist (List.drop_sublist k1 R)) (fun x hx => HQ.out.1.nz (HR.out.2.1.mem_iff.1 (List.mem_of_mem_drop hx)))
        have hT2d : checkT f3 T2 = true := hT2c.2 (fun x => Iff.rfl)
        replace hT2a := Lib.hid (And.intro hT2a (And.intro hT2b hT2d))
        clear hT2b hT2c hT2d
        refine (Check_any hT.out (show View kU S3 _ (.slice (some ⟨gr, gor, none⟩) m c1) (R.drop k1) from HB.out S3 _ hV.out) HLT.out hT2a.out.1 hT2a.out.2.1).mono ?_
        rintro _ W10 ⟨rfl, kn⟩
        rw [hT2a.out.2.2]
        clear hT2a
        replace hst := Lib.hid (hst.out.nil kn)
        replace hV := Lib.hid (hV.out.keeps_nil kn)
        replace hT := Lib.hid (hT.out.nil kn)
        clear kn
        have e_y : W10.cell? ⟨gr, gor + k, none⟩ = some (.int .u64 (y.toNat : Int)) := View.cellX hV.out.at.2.2.2.2.2 k y HY.out
        have l_gr := hV.out.at.2.2.2.1
        go_wp2_with fail
        clear e_y l_gr
        go_roundw
        case rel => exact ⟨k1, _, _, hk1M, by first | rfl | (rw [HK.out.1]; rfl) | (rw [HK.out.1]; simp), hst, hT, hZ, hV⟩
        case measure => simp only [intOf]; clear q_k1 q_k2; have h1 := HK.out; omega
      · have HB := Lib.hid hHB1
        have q_e : (cr = k1) = False := eq_false hca
        clear hca hHB1 hHB2
        have e_y : wr.cell? ⟨gr, gor + k, none⟩ = some (.int .u64 (y.toNat : Int)) := View.cellX hV.out.at.2.2.2.2.2 k y HY.out
        have l_gr := hV.out.at.2.2.2.1
        go_wp2_with fail
        clear e_y l_gr
        obtain ⟨f2a, f2r, hIf2, hZf2⟩ := Stands.cut HQ.out.1 HQ.out.2 hZ.out y
        rw [show decide ((y : UInt64) ∈ ((R.drop k) : List UInt64)) = true from decide_eq_true HD.out.2.1] at hIf2 hZf2
        obtain ⟨f2, ef2⟩ : ∃ g, g = PT.stF 4800 f2a 32 f2r := ⟨_, rfl⟩
        rw [if_pos rfl, ← ef2] at hZf2
        replace hZ := Lib.hid hZf2
        clear hZf2
        replace hIf2 := Lib.hid hIf2
        replace hZ := Lib.hid (show Stands f0 X f2 (R.drop k1) by rw [← HD.out.1]; exact hZ.out)
        refine (Delete_any hIf2.out hT.out).mono ?_
        rintro _ W7 ⟨rfl, S2, hT2, kn⟩
        rw [if_pos rfl, ← ef2] at hT2
        clear ef2 hIf2
        replace hst := Lib.hid (hst.out.trans kn)
        replace hV := Lib.hid (hV.out.steps kn)
        replace hT := Lib.hid hT2
        clear kn hT2
        have e_y : W7.cell? ⟨gr, gor + k, none⟩ = some (.int .u64 (y.toNat : Int)) := View.cellX hV.out.at.2.2.2.2.2 k y HY.out
        have l_gr := hV.out.at.2.2.2.1
        go_wp2_with fail
        clear e_y l_gr
        obtain ⟨T1, hT1a, hT1b, hT1c⟩ := Stands.checks HQ.out.1 hZ.out (k := (R.drop k1)) (HR.out.2.2.sublist (List.drop_sublist k1 R)) (fun x hx => HQ.out.1.nz (HR.out.2.1.mem_iff.1 (List.mem_of_mem_drop hx)))
        have hT1d : checkT f2 T1 = true := hT1c.2 (fun x => Iff.rfl)
        replace hT1a := Lib.hid (And.intro hT1a (And.intro hT1b hT1d))
        clear hT1b hT1c hT1d
        refine (Check_any hT.out (show View kU S2 _ (.slice (some ⟨gr, gor + k1, none⟩) m c1) (R.drop k1) from HB.out S2 _ hV.out) HLT.out hT1a.out.1 hT1a.out.2.1).mono ?_
        rintro _ W8 ⟨rfl, kn⟩
        rw [hT1a.out.2.2]
        clear hT1a
        replace hst := Lib.hid (hst.out.nil kn)
        replace hV := Lib.hid (hV.out.keeps_nil kn)
        replace hT := Lib.hid (hT.out.nil kn)
        clear kn
        have e_y : W8.cell? ⟨gr, gor + k, none⟩ = some (.int .u64 (y.toNat : Int)) := View.cellX hV.out.at.2.2.2.2.2 k y HY.out
        have l_gr := hV.out.at.2.2.2.1
        go_wp2_with fail
        clear e_y l_gr
        obtain ⟨f3a, f3r, hIf3, hZf3⟩ := Stands.cut HQ.out.1 HQ.out.2 hZ.out y
        rw [show decide ((y : UInt64) ∈ ((R.drop k1) : List UInt64)) = false from decide_eq_false HD.out.2.2.1] at hIf3 hZf3
        obtain ⟨f3, ef3⟩ : ∃ g, g = f3a := ⟨_, rfl⟩
        rw [if_neg (by decide), ← ef3] at hZf3
        replace hZ := Lib.hid hZf3
        clear hZf3
        replace hIf3 := Lib.hid hIf3
        replace hZ := Lib.hid (show Stands f0 X f3 (R.drop k1) by rw [← HD.out.2.2.2]; exact hZ.out)
        refine (Delete_any hIf3.out hT.out).mono ?_
        rintro _ W9 ⟨rfl, S3, hT2, kn⟩
        rw [if_neg (by decide), ← ef3] at hT2
        clear ef3 hIf3
        replace hst := Lib.hid (hst.out.trans kn)
        replace hV := Lib.hid (hV.out.steps kn)
        replace hT := Lib.hid hT2
        clear kn hT2
        have e_y : W9.cell? ⟨gr, gor + k, none⟩ = some (.int .u64 (y.toNat : Int)) := View.cellX hV.out.at.2.2.2.2.2 k y HY.out
        have l_gr := hV.out.at.2.2.2.1
        go_wp2_with fail
        clear e_y l_gr
        obtain ⟨T2, hT2a, hT2b, hT2c⟩ := Stands.checks HQ.out.1 hZ.out (k := (R.drop k1)) (HR.out.2.2.sublist (List.drop_sublist k1 R)) (fun x hx => HQ.out.1.nz (HR.out.2.1.mem_iff.1 (List.mem_of_mem_drop hx)))
        have hT2d : checkT f3 T2 = true := hT2c.2 (fun x => Iff.rfl)
        replace hT2a := Lib.hid (And.intro hT2a (And.intro hT2b hT2d))
        clear hT2b hT2c hT2d
        refine (Check_any hT.out (show View kU S3 _ (.slice (some ⟨gr, gor + k1, none⟩) m c1) (R.drop k1) from HB.out S3 _ hV.out) HLT.out hT2a.out.1 hT2a.out.2.1).mono ?_
        rintro _ W10 ⟨rfl, kn⟩
        rw [hT2a.out.2.2]
        clear hT2a
        replace hst := Lib.hid (hst.out.nil kn)
        replace hV := Lib.hid (hV.out.keeps_nil kn)
        replace hT := Lib.hid (hT.out.nil kn)
        clear kn
        have e_y : W10.cell? ⟨gr, gor + k, none⟩ = some (.int .u64 (y.toNat : Int)) := View.cellX hV.out.at.2.2.2.2.2 k y HY.out
        have l_gr := hV.out.at.2.2.2.1
        go_wp2_with fail
        clear e_y l_gr
        go_roundw
        case rel => exact ⟨k1, _, _, hk1M, by first | rfl | (rw [HK.out.1]; rfl) | (rw [HK.out.1]; simp), hst, hT, hZ, hV⟩
        case measure => simp only [intOf]; clear q_k1 q_k2; have h1 := HK.out; omega
    · have hZ0 := hZ.out
      rw [List.drop_eq_nil_iff.2 (by rw [← HR.out.1]; omega)] at hZ0
      replace hZ := Lib.hid hZ0
      clear hZ0
      go_wp2_with fail
      refine (hRoot_any hT.out.reads).mono ?_
      rintro _ W7 ⟨rfl, kn⟩
      replace hst := Lib.hid (hst.out.nil kn)
      replace hV := Lib.hid (hV.out.keeps_nil kn)
      replace hT := Lib.hid (hT.out.nil kn)
      clear kn
      have d1 : ((((f 32).toNat : Int) : Int) == (0 : Int)) = true := (same_u64 (a := (f 32)) (b := 0) (hZ.out.root.2 rfl)).2
      go_wp2_with fail
      obtain ⟨T1, _, hT1b, _, hT1d⟩ := hZ.out.told HQ.out.1
      rw [hZ.out.list] at hT1b
      rw [sort0] at hT1b
      replace hT1b := Lib.hid hT1b
      replace hT1d := Lib.hid hT1d
      refine (All_any hT.out.readsK hT.out.lt hT1d.out (by rw [hT1b.out]; decide)).mono ?_
      rintro _ W8 ⟨v, rfl, ho, kn⟩
      rw [hT1b.out] at ho
      replace ho := ho.view (S := Sa) (fun g hg e => absurd (hT.out.lt g e) (Nat.not_lt.2 hg))
      obtain ⟨aaT1, caT1, rfl, _⟩ := ho.val
      have hAT1 := Lib.hid ho
      clear ho hT1b hT1d
      replace hst := Lib.hid (hst.out.nil kn)
      replace hV := Lib.hid (hV.out.keeps_nil kn)
      replace hT := Lib.hid (hT.out.nil kn)
      clear kn
      go_wp2_with fail
      go_ret
      exact ⟨rfl, hst.out.keeps⟩
end Go.Proofs.YtefpbljekfkefaaGreat
