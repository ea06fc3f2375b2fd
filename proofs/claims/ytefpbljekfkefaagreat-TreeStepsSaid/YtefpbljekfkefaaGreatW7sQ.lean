/- carracklaw07: TreeSteps. -/
import Derived.Test.YtefpbljekfkefaaGreatW7gQ
import Derived.Test.YtefpbljekfkefaaGreatRef7SQ
namespace Go.Proofs.YtefpbljekfkefaaGreat
open Go.RowKit PT

theorem find_next {f : UInt64 → UInt64} : ∀ {s : List UInt64} {k : Nat} {y : UInt64}, Sorted (ltF szU f) s → s[k]? = some y → s.find? (fun z => ltK (keyF szU f y) (keyF szU f z)) = s[k + 1]?
  | [], k, y, _, h => by simp at h
  | x :: s, 0, y, hs, h => by
    simp at h; subst h
    rw [List.find?_cons, show ltK (keyF szU f x) (keyF szU f x) = false from (ltF_ord szU f).irr x]
    cases s with
    | nil => rfl
    | cons z s => rw [List.find?_cons, show ltK (keyF szU f x) (keyF szU f z) = true from (List.pairwise_cons.1 hs).1 z (by simp)]; rfl
  | x :: s, k + 1, y, hs, h => by
    have h' : s[k]? = some y := by simpa using h
    have hy : y ∈ s := List.mem_of_getElem? h'
    rw [List.find?_cons, show ltK (keyF szU f y) (keyF szU f x) = false from (ltF_ord szU f).asymm ((List.pairwise_cons.1 hs).1 y hy)]
    have := find_next (List.pairwise_cons.1 hs).2 h'
    simpa using this
theorem find_first {f : UInt64 → UInt64} {s : List UInt64} (hz : ∀ x ∈ s, x ≠ 0) : s.find? (fun z => ltK (0, 0) (keyF szU f z)) = s[0]? := by
  cases s with
  | nil => rfl
  | cons x s =>
    have h0 : x ≠ 0 := hz x (by simp)
    have hp : 0 < x.toNat := Nat.pos_of_ne_zero (fun e => h0 (UInt64.toNat_inj.1 e))
    rw [List.find?_cons, show ltK (0, 0) (keyF szU f x) = true from ltK_iff.2 (by unfold keyF; simp; omega)]
    rfl
theorem rank_some {s : List UInt64} {k : Nat} {y : UInt64} (h : s[k]? = some y) (hz : ∀ x ∈ s, x ≠ 0) : (s[k]?).getD 0 = y ∧ (y != 0) = true := by
  rw [h]; exact ⟨rfl, by rw [bne_iff_ne]; exact hz y (List.mem_of_getElem? h)⟩

set_option maxRecDepth 100000 in
set_option maxHeartbeats 4000000 in
theorem treeSteps_any {w : World} {vl : Value} {ps : List PieceV} (hl : Look kPc w vl ps) :
    Calls Tryz.prog 12 #[vl] w fun e w' => e = .returned (.bool true) ∧ Keeps Nil w w' := by
  obtain ⟨X, hX⟩ : ∃ X, X = freeL ps := ⟨_, rfl⟩
  obtain ⟨f0, hf0⟩ : ∃ g, g = layF ps := ⟨_, rfl⟩
  obtain ⟨P, hP⟩ : ∃ P, P = layAll (formW 4800) [] (ps.take 20) := ⟨_, rfl⟩
  obtain ⟨M, hM⟩ : ∃ M, M = X.length := ⟨_, rfl⟩
  obtain ⟨g1, g2, g3⟩ := free_good ps
  have hMs : M ≤ 100 := by rw [hM, hX]; exact free_short ps
  rw [← hX] at g1 g2 g3
  have HQ := Lib.hid (And.intro g1 g3)
  have HXn := Lib.hid g2
  have HF := Lib.hid (And.intro hf0 (And.intro hP hX))
  have HM := Lib.hid hM
  have HL := Lib.hid hl
  obtain ⟨al, lcap, rfl, hlm⟩ := hl.val
  clear hl hlm hX hf0 hP hM g1 g2 g3
  obtain ⟨s, hs⟩ : ∃ s, s = sortF (cmpF f0) X := ⟨_, rfl⟩
  have hsl : M = s.length := by rw [hs, sortF_length]; exact HM.out
  have hsz : ∀ x ∈ s, x ≠ 0 := fun x hx => HQ.out.1.nz (by rw [hs] at hx; exact mem_sortF.1 hx)
  have hss : Sorted (ltF szU f0) s := by rw [hs]; exact sortF_sorted f0 HXn.out
  have HS := Lib.hid (And.intro hs (And.intro hsl (And.intro hsz hss)))
  clear hs hsl hsz hss
  have hst := Lib.hid (Step.refl Nil w)
  go_enter Tryz.func12, Tryz.ntmps12
  go_wp2_with fail
  refine (awake07 _).mono ?_
  rintro _ W1 ⟨rfl, kn⟩
  replace hst := Lib.hid (hst.out.nil kn)
  clear kn
  go_wp2_with fail
  refine (laid07_any (HL.out.keeps_nil hst.out.keeps)).mono ?_
  rintro _ W2 ⟨t, ab, ao, ac, a2, c2, vf, S1, rfl, hT, hX, hF, kn⟩
  replace hT := Lib.hid hT
  replace hX := Lib.hid hX
  replace hT := hT.out
  replace hX := hX.out
  rw [← HF.out.1] at hT
  rw [← HF.out.2.1] at hX ⊢
  rw [← HF.out.2.2] at hF
  obtain ⟨af, cf, rfl, hfm⟩ := hF.val
  rw [← HM.out] at hF ⊢
  have hfm2 := Lib.hid hfm
  clear hfm
  replace hF := Lib.hid hF
  replace hT := Lib.hid hT
  replace hX := Lib.hid hX
  replace hst := Lib.hid (hst.out.trans kn)
  clear kn
  obtain ⟨W3, hW3⟩ : ∃ W, W = W2.alloc (.cells #[.slice (some ⟨ab, ao, none⟩) 600 ac, .slice a2 P.length c2] 71) := ⟨_, rfl⟩
  obtain ⟨B1, eB1⟩ : ∃ B, B = W2.heap.size := ⟨_, rfl⟩
  replace hW3 := Lib.hid hW3
  replace eB1 := Lib.hid eB1
  go_wp2_with fail
  rw [← hW3.out]
  try rw [← eB1.out]
  have k1 : Keeps Nil W2 W3 := by rw [hW3.out]; exact alloc_keeps _ _
  have e0B1 : B1 = W2.heap.size := by rw [eB1.out]
  have hB1 := Lib.hid (show Bx W3 S1 B1 #[.slice (some ⟨ab, ao, none⟩) 600 ac, .slice a2 P.length c2] 71 by rw [hW3.out]; exact Bx.new hT.out.lt _ _ e0B1)
  have gB1 := Lib.hid (show w.heap.size ≤ B1 by rw [e0B1]; exact hst.out.keeps.size)
  replace hst := Lib.hid (hst.out.nil k1)
  replace hX := Lib.hid (hX.out.keeps_nil k1)
  replace hF := Lib.hid (hF.out.keeps_nil k1)
  replace hT := Lib.hid (hT.out.nil k1)
  clear k1 e0B1
  obtain ⟨Tf1, hf1a, hf1b, hZf1⟩ := Stands.build HQ.out.1 HQ.out.2 (f0 := f0) (g := f0) (fun x _ => rfl) (l := X) (fun x h => h) HXn.out
  obtain ⟨f1, ef1⟩ : ∃ g, g = PT.stF 4800 (stAll 4800 f0 (putsT Tf1)) 32 Tf1.root := ⟨_, rfl⟩
  rw [← ef1] at hZf1
  have hZ := Lib.hid hZf1
  clear hZf1
  replace hf1a := Lib.hid (And.intro hf1a hf1b)
  clear hf1b
  refine (Build_any hT.out (show View kU S1 _ (.slice af M cf) X from hF.out) (by rw [← HM.out]; omega) hf1a.out.1 hf1a.out.2).mono ?_
  rintro _ W4 ⟨rfl, S1, hT2, kn⟩
  rw [← ef1] at hT2
  clear ef1 hf1a
  replace hst := Lib.hid (hst.out.trans kn)
  replace hX := Lib.hid (hX.out.steps kn)
  replace hF := Lib.hid (hF.out.steps kn)
  replace hB1 := Lib.hid (hB1.out.steps kn)
  replace hT := Lib.hid hT2
  clear kn hT2
  have c_B1_0 := hB1.out.cell 0 _ rfl
  have f_B1_0 := hB1.out.frz 0
  have c_B1_1 := hB1.out.cell 1 _ rfl
  have f_B1_1 := hB1.out.frz 1
  have l_B1 := hB1.out.lt
  go_wp2_with fail
  clear c_B1_0 f_B1_0 c_B1_1 f_B1_1 l_B1
  have hlt_V1 := Lib.hid hT.out.lt
  refine (rSorted_any hX.out.rreads (show View kU S1 _ (.slice af M cf) X from hF.out) (by rw [← HM.out]; omega) HXn.out).mono ?_
  rintro _ W5 ⟨v, rfl, ho, kn⟩
  replace ho := ho.shut (S' := S1) (fun g hg e => hlt_V1.out g e)
  rw [show txLoad (formW 4800) P = f0 by rw [HF.out.1, HF.out.2.1]; rfl] at ho
  obtain ⟨asV1, csV1, rfl, _⟩ := ho.val
  rw [show (sortF (cmpF f0) X).length = M from (sortF_length _ _).trans HM.out.symm] at ho ⊢
  rw [← HS.out.1] at ho
  have hV := Lib.hid ho
  clear ho hlt_V1
  replace hst := Lib.hid (hst.out.nil kn)
  replace hX := Lib.hid (hX.out.keeps_nil kn)
  replace hF := Lib.hid (hF.out.keeps_nil kn)
  replace hT := Lib.hid (hT.out.nil kn)
  replace hB1 := Lib.hid (hB1.out.nil kn)
  clear kn
  have c_B1_0 := hB1.out.cell 0 _ rfl
  have f_B1_0 := hB1.out.frz 0
  have c_B1_1 := hB1.out.cell 1 _ rfl
  have f_B1_1 := hB1.out.frz 1
  have l_B1 := hB1.out.lt
  go_wp2_with fail
  clear c_B1_0 f_B1_0 c_B1_1 f_B1_1 l_B1
  clear hF
  have c_B1_0 := hB1.out.cell 0 _ rfl
  have f_B1_0 := hB1.out.frz 0
  have c_B1_1 := hB1.out.cell 1 _ rfl
  have f_B1_1 := hB1.out.frz 1
  have l_B1 := hB1.out.lt
  go_wp2_with fail
  clear c_B1_0 f_B1_0 c_B1_1 f_B1_1 l_B1
  go_loopw [8, 9, 10] (fun sz of i wr => (∃ (k : Nat) (size off : UInt64), k ≤ M ∧ sz = .int .u64 (size.toNat : Int) ∧ of = .int .u64 (off.toNat : Int) ∧ i = .int .i64 (k : Int) ∧ Hid (s.find? (fun z => ltK (size, off) (keyF szU f0 z)) = s[k]?) ∧ Hid (Step Nil S1 w wr) ∧ Hid (TxF wr t f1 4800 S1) ∧ Hid (View kU S1 wr (.slice asV1 M csV1) s) ∧ Hid (TxV S1 wr (.slice (some ⟨ab, ao, none⟩) 600 ac) (.slice a2 P.length c2) (formW 4800) P)) ∧ Hid (Bx wr S1 B1 #[.slice (some ⟨ab, ao, none⟩) 600 ac, .slice a2 P.length c2] 71)) (fun sz of i _ => M - (intOf i).toNat)
  case atStart => exact ⟨⟨0, 0, 0, Nat.zero_le _, rfl, rfl, rfl, Lib.hid (find_first HS.out.2.2.1), hst, hT, hV, hX⟩, hB1⟩
  case round =>
    clear hB1
    obtain ⟨hrel, hB1⟩ := hrel
    clear hst hT hV hX
    obtain ⟨k, size, off, hk, rfl, rfl, rfl, HFD, hst, hT, hV, hX⟩ := hrel
    by_cases hlt : k < M
    · obtain ⟨gs_, gso, cap, e1, hcp, _, _, _, _⟩ := hV.out.pos (by rw [← HS.out.2.1]; omega)
      simp only [Value.slice.injEq] at e1
      obtain ⟨rfl, hn1, rfl⟩ := e1
      clear hn1
      obtain ⟨y, hy⟩ : ∃ y, s[k]? = some y := ⟨s[k]'(by rw [← HS.out.2.1]; exact hlt), by simp⟩
      obtain ⟨z, hzz⟩ : ∃ z, z = sizeF f0 y := ⟨_, rfl⟩
      have HYZ := Lib.hid (rank_some hy HS.out.2.2.1).2
      have HDX := Lib.hid (show z = sizeF (txLoad (formW 4800) P) y by rw [hzz, HF.out.1, HF.out.2.1]; rfl)
      have HKZ := Lib.hid (show (z, y) = keyF szU f0 y by rw [hzz]; rfl)
      have HY := Lib.hid hy
      have hMs6 : k ≤ 100 := by omega
      have hcM : M ≤ csV1 := by rw [HS.out.2.1]; exact hcp
      have HLT := Lib.hid hlt
      clear hy hzz hcp
      have c_B1_0 := hB1.out.cell 0 _ rfl
      have f_B1_0 := hB1.out.frz 0
      have c_B1_1 := hB1.out.cell 1 _ rfl
      have f_B1_1 := hB1.out.frz 1
      have l_B1 := hB1.out.lt
      have e_y := View.cellX hV.out.at.2.2.2.2.2 k y HY.out
      have l_gs := hV.out.at.2.2.2.1
      go_wp2_with fail
      clear c_B1_0 f_B1_0 c_B1_1 f_B1_1 l_B1 e_y l_gs
      obtain ⟨dD1, hD1⟩ := Stands.after HQ.out.1 hZ.out (size, off)
      rw [← HS.out.1, HFD.out, HY.out] at hD1
      replace hD1 := show AftR szU f1 (size, off) (f1 32) 0 y _ from hD1
      replace hD1 := Lib.hid hD1
      refine (After_any hT.out.reads size off hD1.out).mono ?_
      rintro _ W6 ⟨rfl, kn⟩
      rw [HYZ.out]
      clear hD1
      replace hst := Lib.hid (hst.out.nil kn)
      replace hX := Lib.hid (hX.out.keeps_nil kn)
      replace hV := Lib.hid (hV.out.keeps_nil kn)
      replace hT := Lib.hid (hT.out.nil kn)
      replace hB1 := Lib.hid (hB1.out.nil kn)
      clear kn
      have c_B1_0 := hB1.out.cell 0 _ rfl
      have f_B1_0 := hB1.out.frz 0
      have c_B1_1 := hB1.out.cell 1 _ rfl
      have f_B1_1 := hB1.out.frz 1
      have l_B1 := hB1.out.lt
      have e_y := View.cellX hV.out.at.2.2.2.2.2 k y HY.out
      have l_gs := hV.out.at.2.2.2.1
      go_wp2_with fail
      clear c_B1_0 f_B1_0 c_B1_1 f_B1_1 l_B1 e_y l_gs
      refine (rSize_any hX.out.rreads y _ rfl).mono ?_
      rintro _ W7 ⟨rfl, kn⟩
      rw [← HDX.out]
      replace hst := Lib.hid (hst.out.nil kn)
      replace hX := Lib.hid (hX.out.keeps_nil kn)
      replace hV := Lib.hid (hV.out.keeps_nil kn)
      replace hT := Lib.hid (hT.out.nil kn)
      replace hB1 := Lib.hid (hB1.out.nil kn)
      clear kn
      have c_B1_0 := hB1.out.cell 0 _ rfl
      have f_B1_0 := hB1.out.frz 0
      have c_B1_1 := hB1.out.cell 1 _ rfl
      have f_B1_1 := hB1.out.frz 1
      have l_B1 := hB1.out.lt
      have e_y := View.cellX hV.out.at.2.2.2.2.2 k y HY.out
      have l_gs := hV.out.at.2.2.2.1
      go_wp2_with fail
      clear c_B1_0 f_B1_0 c_B1_1 f_B1_1 l_B1 e_y l_gs
      go_roundw
      case rel => exact ⟨⟨k + 1, z, y, by have := HLT.out; omega, rfl, rfl, by go_num, Lib.hid (by rw [HKZ.out]; exact find_next HS.out.2.2.2 HY.out), hst, hT, hV, hX⟩, hB1⟩
      case measure => simp [intOf]; have := HLT.out; omega
    · have HE := Lib.hid (show s[k]? = none from List.getElem?_eq_none (by rw [← HS.out.2.1]; omega))
      have c_B1_0 := hB1.out.cell 0 _ rfl
      have f_B1_0 := hB1.out.frz 0
      have c_B1_1 := hB1.out.cell 1 _ rfl
      have f_B1_1 := hB1.out.frz 1
      have l_B1 := hB1.out.lt
      go_wp2_with fail
      clear c_B1_0 f_B1_0 c_B1_1 f_B1_1 l_B1
      obtain ⟨dD1, hD1⟩ := Stands.after HQ.out.1 hZ.out (size, off)
      rw [← HS.out.1, HFD.out, HE.out] at hD1
      replace hD1 := show AftR szU f1 (size, off) (f1 32) 0 0 _ from hD1
      replace hD1 := Lib.hid hD1
      refine (After_any hT.out.reads size off hD1.out).mono ?_
      rintro _ W6 ⟨rfl, kn⟩
      clear hD1
      replace hst := Lib.hid (hst.out.nil kn)
      replace hX := Lib.hid (hX.out.keeps_nil kn)
      replace hV := Lib.hid (hV.out.keeps_nil kn)
      replace hT := Lib.hid (hT.out.nil kn)
      replace hB1 := Lib.hid (hB1.out.nil kn)
      clear kn
      have c_B1_0 := hB1.out.cell 0 _ rfl
      have f_B1_0 := hB1.out.frz 0
      have c_B1_1 := hB1.out.cell 1 _ rfl
      have f_B1_1 := hB1.out.frz 1
      have l_B1 := hB1.out.lt
      go_wp2_with fail
      go_ret
      clear c_B1_0 f_B1_0 c_B1_1 f_B1_1 l_B1
      exact ⟨rfl, hst.out.keeps⟩
end Go.Proofs.YtefpbljekfkefaaGreat
