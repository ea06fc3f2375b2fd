/- carracklaw07: TreeAfter. -/
import Derived.Test.YtefpbljekfkefaaGreatW7gQ
import Derived.Test.YtefpbljekfkefaaGreatRef7AQ
namespace Go.Proofs.YtefpbljekfkefaaGreat
open Go.RowKit PT

theorem rank_is {s : List UInt64} {p : UInt64 → Bool} (hz : ∀ x ∈ s, x ≠ 0) : (s.find? p).isSome = ((s.find? p).getD 0 != 0) := by
  cases h : s.find? p with
  | none => rfl
  | some y =>
    have := hz y (List.mem_of_find?_eq_some h)
    symm
    rw [Option.isSome_some, bne_iff_ne]
    exact this

set_option maxRecDepth 100000 in
set_option maxHeartbeats 4000000 in
theorem treeAfter_any {w : World} {vl : Value} {ps : List PieceV} (size off : UInt64) (hl : Look kPc w vl ps) :
    Calls Tryz.prog 11 #[vl, .int .u64 (size.toNat : Int), .int .u64 (off.toNat : Int)] w fun e w' => e = .returned (.bool true) ∧ Keeps Nil w w' := by
  obtain ⟨X, hX⟩ : ∃ X, X = freeL ps := ⟨_, rfl⟩
  obtain ⟨f0, hf0⟩ : ∃ g, g = layF ps := ⟨_, rfl⟩
  obtain ⟨P, hP⟩ : ∃ P, P = layAll (formW 4800) [] (ps.take 20) := ⟨_, rfl⟩
  obtain ⟨M, hM⟩ : ∃ M, M = X.length := ⟨_, rfl⟩
  obtain ⟨g1, g2, g3⟩ := free_good ps
  have hMs : M ≤ 100 := by rw [hM, hX]; exact free_short ps
  rw [← hX] at g1 g2 g3
  have HQ := Lib.hid (And.intro g1 g3)
  have HXn := Lib.hid g2
  have HF := Lib.hid (And.intro hf0 (And.intro hP hX))
  have HM := Lib.hid hM
  have HL := Lib.hid hl
  obtain ⟨al, lcap, rfl, hlm⟩ := hl.val
  clear hl hlm hX hf0 hP hM g1 g2 g3
  obtain ⟨r, hr⟩ : ∃ r, r = ((sortF (cmpF f0) X).find? (fun y => ltK (size, off) (keyF szU f0 y))).getD 0 := ⟨_, rfl⟩
  obtain ⟨is, his⟩ : ∃ b, b = (r != 0) := ⟨_, rfl⟩
  have hsm : ((sortF (cmpF f0) X).find? (fun y => ltK (size, off) (keyF szU f0 y))).isSome = is := by rw [his, hr]; exact rank_is (fun x hx => HQ.out.1.nz (mem_sortF.1 hx))
  have HRR := Lib.hid (And.intro hr (And.intro his hsm))
  clear hr his hsm
  have hst := Lib.hid (Step.refl Nil w)
  go_enter Tryz.func11, Tryz.ntmps11
  go_wp2_with fail
  refine (awake07 _).mono ?_
  rintro _ W1 ⟨rfl, kn⟩
  replace hst := Lib.hid (hst.out.nil kn)
  clear kn
  go_wp2_with fail
  refine (laid07_any (HL.out.keeps_nil hst.out.keeps)).mono ?_
  rintro _ W2 ⟨t, ab, ao, ac, a2, c2, vf, S1, rfl, hT, hX, hF, kn⟩
  replace hT := Lib.hid hT
  replace hX := Lib.hid hX
  replace hT := hT.out
  replace hX := hX.out
  rw [← HF.out.1] at hT
  rw [← HF.out.2.1] at hX ⊢
  rw [← HF.out.2.2] at hF
  obtain ⟨af, cf, rfl, hfm⟩ := hF.val
  rw [← HM.out] at hF ⊢
  have hfm2 := Lib.hid hfm
  clear hfm
  replace hF := Lib.hid hF
  replace hT := Lib.hid hT
  replace hX := Lib.hid hX
  replace hst := Lib.hid (hst.out.trans kn)
  clear kn
  obtain ⟨W3, hW3⟩ : ∃ W, W = W2.alloc (.cells #[.slice (some ⟨ab, ao, none⟩) 600 ac, .slice a2 P.length c2] 71) := ⟨_, rfl⟩
  obtain ⟨B1, eB1⟩ : ∃ B, B = W2.heap.size := ⟨_, rfl⟩
  replace hW3 := Lib.hid hW3
  replace eB1 := Lib.hid eB1
  go_wp2_with fail
  rw [← hW3.out]
  try rw [← eB1.out]
  have k1 : Keeps Nil W2 W3 := by rw [hW3.out]; exact alloc_keeps _ _
  have e0B1 : B1 = W2.heap.size := by rw [eB1.out]
  have hB1 := Lib.hid (show Bx W3 S1 B1 #[.slice (some ⟨ab, ao, none⟩) 600 ac, .slice a2 P.length c2] 71 by rw [hW3.out]; exact Bx.new hT.out.lt _ _ e0B1)
  have gB1 := Lib.hid (show w.heap.size ≤ B1 by rw [e0B1]; exact hst.out.keeps.size)
  replace hst := Lib.hid (hst.out.nil k1)
  replace hX := Lib.hid (hX.out.keeps_nil k1)
  replace hF := Lib.hid (hF.out.keeps_nil k1)
  replace hT := Lib.hid (hT.out.nil k1)
  clear k1 e0B1
  obtain ⟨Tf1, hf1a, hf1b, hZf1⟩ := Stands.build HQ.out.1 HQ.out.2 (f0 := f0) (g := f0) (fun x _ => rfl) (l := X) (fun x h => h) HXn.out
  obtain ⟨f1, ef1⟩ : ∃ g, g = PT.stF 4800 (stAll 4800 f0 (putsT Tf1)) 32 Tf1.root := ⟨_, rfl⟩
  rw [← ef1] at hZf1
  have hZ := Lib.hid hZf1
  clear hZf1
  replace hf1a := Lib.hid (And.intro hf1a hf1b)
  clear hf1b
  refine (Build_any hT.out (show View kU S1 _ (.slice af M cf) X from hF.out) (by rw [← HM.out]; omega) hf1a.out.1 hf1a.out.2).mono ?_
  rintro _ W4 ⟨rfl, S1, hT2, kn⟩
  rw [← ef1] at hT2
  clear ef1 hf1a
  replace hst := Lib.hid (hst.out.trans kn)
  replace hX := Lib.hid (hX.out.steps kn)
  replace hF := Lib.hid (hF.out.steps kn)
  replace hB1 := Lib.hid (hB1.out.steps kn)
  replace hT := Lib.hid hT2
  clear kn hT2
  have c_B1_0 := hB1.out.cell 0 _ rfl
  have f_B1_0 := hB1.out.frz 0
  have c_B1_1 := hB1.out.cell 1 _ rfl
  have f_B1_1 := hB1.out.frz 1
  have l_B1 := hB1.out.lt
  go_wp2_with fail
  clear c_B1_0 f_B1_0 c_B1_1 f_B1_1 l_B1
  obtain ⟨dD1, hD1⟩ := Stands.after HQ.out.1 hZ.out (size, off)
  rw [← HRR.out.1] at hD1
  replace hD1 := Lib.hid hD1
  refine (After_any hT.out.reads size off hD1.out).mono ?_
  rintro _ W5 ⟨rfl, kn⟩
  rw [← HRR.out.2.1]
  clear hD1
  replace hst := Lib.hid (hst.out.nil kn)
  replace hX := Lib.hid (hX.out.keeps_nil kn)
  replace hF := Lib.hid (hF.out.keeps_nil kn)
  replace hT := Lib.hid (hT.out.nil kn)
  replace hB1 := Lib.hid (hB1.out.nil kn)
  clear kn
  have c_B1_0 := hB1.out.cell 0 _ rfl
  have f_B1_0 := hB1.out.frz 0
  have c_B1_1 := hB1.out.cell 1 _ rfl
  have f_B1_1 := hB1.out.frz 1
  have l_B1 := hB1.out.lt
  go_wp2_with fail
  clear c_B1_0 f_B1_0 c_B1_1 f_B1_1 l_B1
  refine (rAfter_any hX.out.rreads (show View kU S1 _ (.slice af M cf) X from hF.out) (by rw [← HM.out]; omega) HXn.out size off).mono ?_
  rintro _ W6 ⟨rfl, kn⟩
  rw [show txLoad (formW 4800) P = f0 by rw [HF.out.1, HF.out.2.1]; rfl, ← HRR.out.1, HRR.out.2.2]
  replace hst := Lib.hid (hst.out.nil kn)
  replace hX := Lib.hid (hX.out.keeps_nil kn)
  replace hF := Lib.hid (hF.out.keeps_nil kn)
  replace hT := Lib.hid (hT.out.nil kn)
  replace hB1 := Lib.hid (hB1.out.nil kn)
  clear kn
  have c_B1_0 := hB1.out.cell 0 _ rfl
  have f_B1_0 := hB1.out.frz 0
  have c_B1_1 := hB1.out.cell 1 _ rfl
  have f_B1_1 := hB1.out.frz 1
  have l_B1 := hB1.out.lt
  go_wp2_with fail
  go_ret
  clear c_B1_0 f_B1_0 c_B1_1 f_B1_1 l_B1
  exact ⟨by first | rfl | simp, hst.out.keeps⟩
end Go.Proofs.YtefpbljekfkefaaGreat
