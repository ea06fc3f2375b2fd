/- carracklaw06: awake, PhysRaw. -/
import Derived.Test.YtccllkgaakmdhaaLaid06
import Derived.Test.YtccllkgaakmdhaaL6
import Derived.Test.YtccllkgaakmdhaaPhysRF
import Derived.Test.YtccllkgaakmdhaaPhysM
namespace Go.Proofs.Ytccllkgaakmdhaa
open Go.RowKit

def F40 : UInt64 → UInt64 := txLoad (formW 4000) []
def B40 : BlockV := ⟨3776, ⟨224, false, 0⟩, 0⟩
theorem aw6_1 : walkB 4800 (txLoad (formW 4000) []) = true := by kernel_rfl
theorem aw6_2 : walkL 4800 (txLoad (formW 4000) []) = [⟨3776, ⟨224, false, 0⟩, 0⟩] := by kernel_rfl
theorem aw6_3 : mergedB [⟨3776, ⟨224, false, 0⟩, 0⟩] = true := by decide

set_option maxRecDepth 100000 in
set_option maxHeartbeats 4000000 in
theorem awake06 (w : World) : Calls Try.prog 72 #[] w fun e w' => e = .returned (.bool true) ∧ Keeps Nil w w' := by
  have hgd := blk_gd
  have hst := Lib.hid (Step.refl Nil w)
  go_enter Try.func72, Try.ntmps72
  go_wp2_with fail
  refine (formedN06 4000 _ (by rfl)).mono ?_
  rintro _ W1 ⟨t, ab, ao, ac, a2, c2, S1, rfl, hT, hX, kn⟩
  replace hT := Lib.hid hT
  replace hX := Lib.hid hX
  replace hst := Lib.hid (hst.out.trans kn)
  clear kn
  obtain ⟨W2, hW2⟩ : ∃ W, W = W1.alloc (.cells #[.slice (some ⟨ab, ao, none⟩) 600 ac, .slice a2 0 c2] 28) := ⟨_, rfl⟩
  obtain ⟨B1, eB1⟩ : ∃ B, B = W1.heap.size := ⟨_, rfl⟩
  replace hW2 := Lib.hid hW2
  replace eB1 := Lib.hid eB1
  go_wp2_with fail
  rw [← hW2.out]
  try rw [← eB1.out]
  have k1 : Keeps Nil W1 W2 := by rw [hW2.out]; exact alloc_keeps _ _
  have e0B1 : B1 = W1.heap.size := by rw [eB1.out]
  have hB1 := Lib.hid (show Bx W2 S1 B1 #[.slice (some ⟨ab, ao, none⟩) 600 ac, .slice a2 0 c2] 28 by rw [hW2.out]; exact Bx.new hT.out.lt _ _ e0B1)
  have gB1 := Lib.hid (show w.heap.size ≤ B1 by rw [e0B1]; exact hst.out.keeps.size)
  replace hst := Lib.hid (hst.out.nil k1)
  replace hX := Lib.hid (hX.out.keeps_nil k1)
  replace hT := Lib.hid (hT.out.nil k1)
  clear k1 e0B1
  refine (Walk_any hT.out.readsK hT.out.lt (by decide)).mono ?_
  rintro _ W3 ⟨v, rfl, ho, kn⟩
  rw [aw6_2] at ho
  rw [aw6_1, codeOf_true]
  replace ho := ho.view (S := S1) (fun g hg e => absurd (hT.out.lt g e) (Nat.not_lt.2 hg))
  obtain ⟨gb, go, cl, rfl, hcl, hcm, hgb, _, hcell⟩ := ho.pos (by decide)
  clear hcl hcm hgb hcell
  have hV := Lib.hid ho
  clear ho
  rw [show ([⟨3776, ⟨224, false, 0⟩, 0⟩] : List BlockV).length = 1 from rfl]
  replace hst := Lib.hid (hst.out.nil kn)
  replace hX := Lib.hid (hX.out.keeps_nil kn)
  replace hT := Lib.hid (hT.out.nil kn)
  replace hB1 := Lib.hid (hB1.out.nil kn)
  clear kn
  have qs1 : ∀ w, (binOp .eql 103 (.agg #[.int .u64 3776, .int .u64 224, .bool false, .int .i64 0, .int .u64 0]) (.agg #[.int .u64 3776, .int .u64 224, .bool false, .int .i64 0, .int .u64 0])).run Try.prog w = .ok (.bool true) w := blk_eql_yes (a := 3776) (b := 3776) (s := 224) (t := 224) (n := 0) (m := 0) rfl
  have c_B1_0 := hB1.out.cell 0 _ rfl
  have f_B1_0 := hB1.out.frz 0
  have c_B1_1 := hB1.out.cell 1 _ rfl
  have f_B1_1 := hB1.out.frz 1
  have l_B1 := hB1.out.lt
  have e_l := hV.out.at.2.2.2.1
  have e_0 : W3.cell? ⟨gb, go, none⟩ = some (.int .u64 3776) := by simpa using (View.cellB hV.out.at.2.2.2.2.2 0 _ rfl).1
  have e_1 : W3.cell? ⟨gb, go + 1, none⟩ = some (.int .u64 224) := by simpa using (View.cellB hV.out.at.2.2.2.2.2 0 _ rfl).2.1
  have e_2 : W3.cell? ⟨gb, go + 2, none⟩ = some (.bool false) := by simpa using (View.cellB hV.out.at.2.2.2.2.2 0 _ rfl).2.2.1
  have e_3 : W3.cell? ⟨gb, go + 3, none⟩ = some (.int .i64 0) := by simpa using (View.cellB hV.out.at.2.2.2.2.2 0 _ rfl).2.2.2.1
  have e_4 : W3.cell? ⟨gb, go + 4, none⟩ = some (.int .u64 0) := by simpa using (View.cellB hV.out.at.2.2.2.2.2 0 _ rfl).2.2.2.2
  go_wp2_with fail
  clear c_B1_0 f_B1_0 c_B1_1 f_B1_1 l_B1 e_l e_0 e_1 e_2 e_3 e_4
  refine (pMerged_any hV.out).mono ?_
  rintro _ W4 ⟨rfl, kn⟩
  rw [aw6_3]
  replace hst := Lib.hid (hst.out.nil kn)
  replace hX := Lib.hid (hX.out.keeps_nil kn)
  replace hV := Lib.hid (hV.out.keeps_nil kn)
  replace hT := Lib.hid (hT.out.nil kn)
  replace hB1 := Lib.hid (hB1.out.nil kn)
  clear kn
  have c_B1_0 := hB1.out.cell 0 _ rfl
  have f_B1_0 := hB1.out.frz 0
  have c_B1_1 := hB1.out.cell 1 _ rfl
  have f_B1_1 := hB1.out.frz 1
  have l_B1 := hB1.out.lt
  have e_l := hV.out.at.2.2.2.1
  have e_0 : W4.cell? ⟨gb, go, none⟩ = some (.int .u64 3776) := by simpa using (View.cellB hV.out.at.2.2.2.2.2 0 _ rfl).1
  have e_1 : W4.cell? ⟨gb, go + 1, none⟩ = some (.int .u64 224) := by simpa using (View.cellB hV.out.at.2.2.2.2.2 0 _ rfl).2.1
  have e_2 : W4.cell? ⟨gb, go + 2, none⟩ = some (.bool false) := by simpa using (View.cellB hV.out.at.2.2.2.2.2 0 _ rfl).2.2.1
  have e_3 : W4.cell? ⟨gb, go + 3, none⟩ = some (.int .i64 0) := by simpa using (View.cellB hV.out.at.2.2.2.2.2 0 _ rfl).2.2.2.1
  have e_4 : W4.cell? ⟨gb, go + 4, none⟩ = some (.int .u64 0) := by simpa using (View.cellB hV.out.at.2.2.2.2.2 0 _ rfl).2.2.2.2
  go_wp2_with fail
  go_ret
  clear c_B1_0 f_B1_0 c_B1_1 f_B1_1 l_B1 e_l e_0 e_1 e_2 e_3 e_4
  exact ⟨rfl, hst.out.keeps⟩
set_option maxRecDepth 100000 in
set_option maxHeartbeats 4000000 in
theorem physRaw_any {w : World} {vl : Value} {l : List Put} (size : UInt64) (h : Look kP w vl l) : Calls Try.prog 20 #[.int .u64 (size.toNat : Int), vl] w fun e w' => e = .returned (.bool true) ∧ Keeps Nil w w' := by
  obtain ⟨ws, hws⟩ : ∃ ws, ws = formW size := ⟨_, rfl⟩
  obtain ⟨P, hP⟩ : ∃ P, P = thP ws (l.take 60) := ⟨_, rfl⟩
  have hg : GoodP ws P := by rw [hP]; exact good_thP _ _
  have hwl : 8 * ws.length = 4800 := by rw [hws, formW_length]
  obtain ⟨cd, hcd⟩ : ∃ cd, cd = codeOf (walkB 4800 (txLoad ws P)) := ⟨_, rfl⟩
  obtain ⟨L, hL⟩ : ∃ L, L = walkL 4800 (txLoad ws P) := ⟨_, rfl⟩
  have H := Lib.hid h
  have HE := Lib.hid (And.intro hws (And.intro hP (And.intro hwl (And.intro hcd hL))))
  have HG := Lib.hid hg
  obtain ⟨al, lcap, rfl, hlm⟩ := h.val
  clear h hws hP hg hwl hcd hL hlm
  have hst := Lib.hid (Step.refl Nil w)
  go_enter Try.func20, Try.ntmps20
  go_wp2_with fail
  refine (awake06 _).mono ?_
  rintro _ W1 ⟨rfl, kn⟩
  replace hst := Lib.hid (hst.out.nil kn)
  clear kn
  go_wp2_with fail
  refine (formedF06 (l := l) size (H.out.keeps_nil hst.out.keeps) _ rfl).mono ?_
  rintro _ W2 ⟨t, ab, ao, ac, a2, c2, S1, rfl, hT, hX, kn⟩
  replace hT := Lib.hid hT
  replace hX := Lib.hid hX
  replace hT := hT.out; replace hX := hX.out
  rw [← HE.out.1, ← HE.out.2.1] at hT hX
  rw [← HE.out.1, ← HE.out.2.1]
  replace hT := Lib.hid hT; replace hX := Lib.hid hX
  replace hst := Lib.hid (hst.out.trans kn)
  clear kn
  obtain ⟨W3, hW3⟩ : ∃ W, W = W2.alloc (.cells #[.slice (some ⟨ab, ao, none⟩) 600 ac, .slice a2 P.length c2] 28) := ⟨_, rfl⟩
  obtain ⟨B1, eB1⟩ : ∃ B, B = W2.heap.size := ⟨_, rfl⟩
  replace hW3 := Lib.hid hW3
  replace eB1 := Lib.hid eB1
  go_wp2_with fail
  rw [← hW3.out]
  try rw [← eB1.out]
  have k1 : Keeps Nil W2 W3 := by rw [hW3.out]; exact alloc_keeps _ _
  have e0B1 : B1 = W2.heap.size := by rw [eB1.out]
  have hB1 := Lib.hid (show Bx W3 S1 B1 #[.slice (some ⟨ab, ao, none⟩) 600 ac, .slice a2 P.length c2] 28 by rw [hW3.out]; exact Bx.new hT.out.lt _ _ e0B1)
  have gB1 := Lib.hid (show w.heap.size ≤ B1 by rw [e0B1]; exact hst.out.keeps.size)
  replace hst := Lib.hid (hst.out.nil k1)
  replace hX := Lib.hid (hX.out.keeps_nil k1)
  replace hT := Lib.hid (hT.out.nil k1)
  clear k1 e0B1
  refine (Walk_any hT.out.readsK hT.out.lt (by decide)).mono ?_
  rintro _ W4 ⟨v, rfl, ho, kn⟩
  rw [← HE.out.2.2.2.2] at ho
  rw [← HE.out.2.2.2.1]
  replace ho := ho.view (S := S1) (fun g hg e => absurd (hT.out.lt g e) (Nat.not_lt.2 hg))
  obtain ⟨av, cv, rfl, _⟩ := ho.val
  have hV := Lib.hid ho
  clear ho
  replace hst := Lib.hid (hst.out.nil kn)
  replace hX := Lib.hid (hX.out.keeps_nil kn)
  replace hT := Lib.hid (hT.out.nil kn)
  replace hB1 := Lib.hid (hB1.out.nil kn)
  clear kn
  have c_B1_0 := hB1.out.cell 0 _ rfl
  have f_B1_0 := hB1.out.frz 0
  have c_B1_1 := hB1.out.cell 1 _ rfl
  have f_B1_1 := hB1.out.frz 1
  have l_B1 := hB1.out.lt
  go_wp2_with fail
  clear c_B1_0 f_B1_0 c_B1_1 f_B1_1 l_B1
  refine (rWalk6_any hX.out hT.out.lt HG.out).mono ?_
  rintro _ W5 ⟨v, rfl, ho, kn⟩
  rw [HE.out.2.2.1, ← HE.out.2.2.2.2] at ho
  rw [HE.out.2.2.1, ← HE.out.2.2.2.1]
  replace ho := ho.view (S := S1) (fun g hg e => absurd (hT.out.lt g e) (Nat.not_lt.2 hg))
  obtain ⟨av2, cv2, rfl, _⟩ := ho.val
  have hV2 := Lib.hid ho
  clear ho
  replace hst := Lib.hid (hst.out.nil kn)
  replace hX := Lib.hid (hX.out.keeps_nil kn)
  replace hV := Lib.hid (hV.out.keeps_nil kn)
  replace hT := Lib.hid (hT.out.nil kn)
  replace hB1 := Lib.hid (hB1.out.nil kn)
  clear kn
  have c_B1_0 := hB1.out.cell 0 _ rfl
  have f_B1_0 := hB1.out.frz 0
  have c_B1_1 := hB1.out.cell 1 _ rfl
  have f_B1_1 := hB1.out.frz 1
  have l_B1 := hB1.out.lt
  go_wp2_with fail
  clear c_B1_0 f_B1_0 c_B1_1 f_B1_1 l_B1
  refine (same06 hV.out hV2.out).mono ?_
  rintro _ W6 ⟨rfl, kn⟩
  replace hst := Lib.hid (hst.out.nil kn)
  replace hX := Lib.hid (hX.out.keeps_nil kn)
  replace hV := Lib.hid (hV.out.keeps_nil kn)
  replace hV2 := Lib.hid (hV2.out.keeps_nil kn)
  replace hT := Lib.hid (hT.out.nil kn)
  replace hB1 := Lib.hid (hB1.out.nil kn)
  clear kn
  have c_B1_0 := hB1.out.cell 0 _ rfl
  have f_B1_0 := hB1.out.frz 0
  have c_B1_1 := hB1.out.cell 1 _ rfl
  have f_B1_1 := hB1.out.frz 1
  have l_B1 := hB1.out.lt
  go_wp2_with fail
  go_ret
  clear c_B1_0 f_B1_0 c_B1_1 f_B1_1 l_B1
  exact ⟨rfl, hst.out.keeps⟩
end Go.Proofs.Ytccllkgaakmdhaa
