/- carracklaw06: PhysWalks. -/
import Derived.Test.YtccllkgaakmdhaaW6a
namespace Go.Proofs.Ytccllkgaakmdhaa
open Go.RowKit

set_option maxRecDepth 100000 in
set_option maxHeartbeats 4000000 in
theorem physWalks_any {w : World} {vl vk : Value} {ps : List PieceV} {ks : List Put} (payload : UInt64) (hl : Look kPc w vl ps) (hk : Look kP w vk ks) : Calls Try.prog 22 #[vl, vk, .int .u64 (payload.toNat : Int)] w fun e w' => e = .returned (.bool true) ∧ Keeps Nil w w' := by
  obtain ⟨ws, hws⟩ : ∃ ws, ws = formW 4480 := ⟨_, rfl⟩
  obtain ⟨P, hP⟩ : ∃ P, P = laidP (formW 4480) ps ks := ⟨_, rfl⟩
  have hg : GoodP ws P := by rw [hP, hws]; exact good_laid _ _ _
  have hwl : 8 * ws.length = 4800 := by rw [hws, formW_length]
  obtain ⟨cd, hcd⟩ : ∃ cd, cd = codeOf (walkB 4800 (txLoad ws P)) := ⟨_, rfl⟩
  obtain ⟨L, hL⟩ : ∃ L, L = walkL 4800 (txLoad ws P) := ⟨_, rfl⟩
  obtain ⟨⟨bo, ⟨bs, bu, bw⟩, bl⟩, hb⟩ : ∃ b, b = blockOf (findO 4800 (txLoad ws P) payload) := ⟨_, rfl⟩
  obtain ⟨is, hi⟩ : ∃ b, b = (findO 4800 (txLoad ws P) payload).isSome := ⟨_, rfl⟩
  have HL := Lib.hid hl
  have HK := Lib.hid hk
  have HE := Lib.hid (And.intro hws (And.intro (show P = laidP ws ps ks by rw [hP, hws]) (And.intro hwl (And.intro hcd (And.intro hL (And.intro hb hi))))))
  have HG := Lib.hid hg
  obtain ⟨al, lcap, rfl, hlm⟩ := hl.val
  obtain ⟨ak, kcap, rfl, hkm⟩ := hk.val
  have hgd := blk_gd
  clear hl hk hws hP hg hwl hcd hL hlm hkm hb hi
  have hst := Lib.hid (Step.refl Nil w)
  go_enter Try.func22, Try.ntmps22
  go_wp2_with fail
  refine (awake06 _).mono ?_
  rintro _ W1 ⟨rfl, kn⟩
  replace hst := Lib.hid (hst.out.nil kn)
  clear kn
  go_wp2_with fail
  refine (laid06_any (HL.out.keeps_nil hst.out.keeps) (HK.out.keeps_nil hst.out.keeps)).mono ?_
  rintro _ W2 ⟨t, ab, ao, ac, a2, c2, S1, rfl, hT, hX, kn⟩
  replace hT := Lib.hid hT
  replace hX := Lib.hid hX
  replace hT := hT.out; replace hX := hX.out
  rw [← HE.out.1, ← HE.out.2.1] at hT hX
  rw [← HE.out.1, ← HE.out.2.1]
  replace hT := Lib.hid hT; replace hX := Lib.hid hX
  replace hst := Lib.hid (hst.out.trans kn)
  clear kn
  obtain ⟨W3, hW3⟩ : ∃ W, W = W2.alloc (.cells #[.slice (some ⟨ab, ao, none⟩) 600 ac, .slice a2 P.length c2] 28) := ⟨_, rfl⟩
  obtain ⟨B1, eB1⟩ : ∃ B, B = W2.heap.size := ⟨_, rfl⟩
  replace hW3 := Lib.hid hW3
  replace eB1 := Lib.hid eB1
  go_wp2_with fail
  rw [← hW3.out]
  try rw [← eB1.out]
  have k1 : Keeps Nil W2 W3 := by rw [hW3.out]; exact alloc_keeps _ _
  have e0B1 : B1 = W2.heap.size := by rw [eB1.out]
  have hB1 := Lib.hid (show Bx W3 S1 B1 #[.slice (some ⟨ab, ao, none⟩) 600 ac, .slice a2 P.length c2] 28 by rw [hW3.out]; exact Bx.new hT.out.lt _ _ e0B1)
  have gB1 := Lib.hid (show w.heap.size ≤ B1 by rw [e0B1]; exact hst.out.keeps.size)
  replace hst := Lib.hid (hst.out.nil k1)
  replace hX := Lib.hid (hX.out.keeps_nil k1)
  replace hT := Lib.hid (hT.out.nil k1)
  clear k1 e0B1
  refine (Walk_any hT.out.readsK hT.out.lt (by decide)).mono ?_
  rintro _ W4 ⟨v, rfl, ho, kn⟩
  rw [← HE.out.2.2.2.2.1] at ho
  rw [← HE.out.2.2.2.1]
  replace ho := ho.view (S := S1) (fun g hg e => absurd (hT.out.lt g e) (Nat.not_lt.2 hg))
  obtain ⟨av, cv, rfl, _⟩ := ho.val
  have hV := Lib.hid ho
  clear ho
  replace hst := Lib.hid (hst.out.nil kn)
  replace hX := Lib.hid (hX.out.keeps_nil kn)
  replace hT := Lib.hid (hT.out.nil kn)
  replace hB1 := Lib.hid (hB1.out.nil kn)
  clear kn
  have c_B1_0 := hB1.out.cell 0 _ rfl
  have f_B1_0 := hB1.out.frz 0
  have c_B1_1 := hB1.out.cell 1 _ rfl
  have f_B1_1 := hB1.out.frz 1
  have l_B1 := hB1.out.lt
  go_wp2_with fail
  clear c_B1_0 f_B1_0 c_B1_1 f_B1_1 l_B1
  refine (rWalk6_any hX.out hT.out.lt HG.out).mono ?_
  rintro _ W5 ⟨v, rfl, ho, kn⟩
  rw [HE.out.2.2.1, ← HE.out.2.2.2.2.1] at ho
  rw [HE.out.2.2.1, ← HE.out.2.2.2.1]
  replace ho := ho.view (S := S1) (fun g hg e => absurd (hT.out.lt g e) (Nat.not_lt.2 hg))
  obtain ⟨av2, cv2, rfl, _⟩ := ho.val
  have hV2 := Lib.hid ho
  clear ho
  replace hst := Lib.hid (hst.out.nil kn)
  replace hX := Lib.hid (hX.out.keeps_nil kn)
  replace hV := Lib.hid (hV.out.keeps_nil kn)
  replace hT := Lib.hid (hT.out.nil kn)
  replace hB1 := Lib.hid (hB1.out.nil kn)
  clear kn
  have c_B1_0 := hB1.out.cell 0 _ rfl
  have f_B1_0 := hB1.out.frz 0
  have c_B1_1 := hB1.out.cell 1 _ rfl
  have f_B1_1 := hB1.out.frz 1
  have l_B1 := hB1.out.lt
  go_wp2_with fail
  clear c_B1_0 f_B1_0 c_B1_1 f_B1_1 l_B1
  refine (Find_any hT.out.readsK hT.out.lt (by decide) payload _ rfl).mono ?_
  rintro _ W6 ⟨rfl, kn⟩
  rw [← HE.out.2.2.2.2.2.1, ← HE.out.2.2.2.2.2.2, BlockV.cells_def]
  replace hst := Lib.hid (hst.out.nil kn)
  replace hX := Lib.hid (hX.out.keeps_nil kn)
  replace hV := Lib.hid (hV.out.keeps_nil kn)
  replace hV2 := Lib.hid (hV2.out.keeps_nil kn)
  replace hT := Lib.hid (hT.out.nil kn)
  replace hB1 := Lib.hid (hB1.out.nil kn)
  clear kn
  have c_B1_0 := hB1.out.cell 0 _ rfl
  have f_B1_0 := hB1.out.frz 0
  have c_B1_1 := hB1.out.cell 1 _ rfl
  have f_B1_1 := hB1.out.frz 1
  have l_B1 := hB1.out.lt
  obtain ⟨W7, hW7⟩ : ∃ W, W = W6.alloc (.cells #[.int .u64 (bo.toNat : Int), .int .u64 (bs.toNat : Int), .bool bu, .int .i64 bw, .int .u64 (bl.toNat : Int)] 103) := ⟨_, rfl⟩
  obtain ⟨B2, eB2⟩ : ∃ B, B = W6.heap.size := ⟨_, rfl⟩
  replace hW7 := Lib.hid hW7
  replace eB2 := Lib.hid eB2
  go_wp2_with fail
  clear c_B1_0 f_B1_0 c_B1_1 f_B1_1 l_B1
  rw [← hW7.out]
  try rw [← eB2.out]
  have k2 : Keeps Nil W6 W7 := by rw [hW7.out]; exact alloc_keeps _ _
  have e0B2 : B2 = W6.heap.size := by rw [eB2.out]
  have hB2 := Lib.hid (show Bx W7 S1 B2 #[.int .u64 (bo.toNat : Int), .int .u64 (bs.toNat : Int), .bool bu, .int .i64 bw, .int .u64 (bl.toNat : Int)] 103 by rw [hW7.out]; exact Bx.new hT.out.lt _ _ e0B2)
  have gB2 := Lib.hid (show w.heap.size ≤ B2 by rw [e0B2]; exact hst.out.keeps.size)
  have nB1B2 := Lib.hid (show B1 < B2 by rw [e0B2]; exact hB1.out.lt)
  replace hst := Lib.hid (hst.out.nil k2)
  replace hX := Lib.hid (hX.out.keeps_nil k2)
  replace hV := Lib.hid (hV.out.keeps_nil k2)
  replace hV2 := Lib.hid (hV2.out.keeps_nil k2)
  replace hT := Lib.hid (hT.out.nil k2)
  replace hB1 := Lib.hid (hB1.out.nil k2)
  clear k2 e0B2
  refine (rFind6_any hX.out hT.out.lt HG.out payload _ rfl).mono ?_
  rintro _ W8 ⟨rfl, kn⟩
  rw [HE.out.2.2.1, ← HE.out.2.2.2.2.2.1, ← HE.out.2.2.2.2.2.2, BlockV.cells_def]
  replace hst := Lib.hid (hst.out.nil kn)
  replace hX := Lib.hid (hX.out.keeps_nil kn)
  replace hV := Lib.hid (hV.out.keeps_nil kn)
  replace hV2 := Lib.hid (hV2.out.keeps_nil kn)
  replace hT := Lib.hid (hT.out.nil kn)
  replace hB1 := Lib.hid (hB1.out.nil kn)
  replace hB2 := Lib.hid (hB2.out.nil kn)
  clear kn
  have c_B1_0 := hB1.out.cell 0 _ rfl
  have f_B1_0 := hB1.out.frz 0
  have c_B1_1 := hB1.out.cell 1 _ rfl
  have f_B1_1 := hB1.out.frz 1
  have l_B1 := hB1.out.lt
  have c_B2_0 := hB2.out.cell 0 _ rfl
  have f_B2_0 := hB2.out.frz 0
  have c_B2_1 := hB2.out.cell 1 _ rfl
  have f_B2_1 := hB2.out.frz 1
  have c_B2_2 := hB2.out.cell 2 _ rfl
  have f_B2_2 := hB2.out.frz 2
  have c_B2_3 := hB2.out.cell 3 _ rfl
  have f_B2_3 := hB2.out.frz 3
  have c_B2_4 := hB2.out.cell 4 _ rfl
  have f_B2_4 := hB2.out.frz 4
  have l_B2 := hB2.out.lt
  obtain ⟨W9, hW9⟩ : ∃ W, W = W8.alloc (.cells #[.int .u64 (bo.toNat : Int), .int .u64 (bs.toNat : Int), .bool bu, .int .i64 bw, .int .u64 (bl.toNat : Int)] 108) := ⟨_, rfl⟩
  obtain ⟨B3, eB3⟩ : ∃ B, B = W8.heap.size := ⟨_, rfl⟩
  replace hW9 := Lib.hid hW9
  replace eB3 := Lib.hid eB3
  go_wp2_with fail
  clear c_B1_0 f_B1_0 c_B1_1 f_B1_1 l_B1 c_B2_0 f_B2_0 c_B2_1 f_B2_1 c_B2_2 f_B2_2 c_B2_3 f_B2_3 c_B2_4 f_B2_4 l_B2
  rw [← hW9.out]
  try rw [← eB3.out]
  have k3 : Keeps Nil W8 W9 := by rw [hW9.out]; exact alloc_keeps _ _
  have e0B3 : B3 = W8.heap.size := by rw [eB3.out]
  have hB3 := Lib.hid (show Bx W9 S1 B3 #[.int .u64 (bo.toNat : Int), .int .u64 (bs.toNat : Int), .bool bu, .int .i64 bw, .int .u64 (bl.toNat : Int)] 108 by rw [hW9.out]; exact Bx.new hT.out.lt _ _ e0B3)
  have gB3 := Lib.hid (show w.heap.size ≤ B3 by rw [e0B3]; exact hst.out.keeps.size)
  have nB1B3 := Lib.hid (show B1 < B3 by rw [e0B3]; exact hB1.out.lt)
  have nB2B3 := Lib.hid (show B2 < B3 by rw [e0B3]; exact hB2.out.lt)
  replace hst := Lib.hid (hst.out.nil k3)
  replace hX := Lib.hid (hX.out.keeps_nil k3)
  replace hV := Lib.hid (hV.out.keeps_nil k3)
  replace hV2 := Lib.hid (hV2.out.keeps_nil k3)
  replace hT := Lib.hid (hT.out.nil k3)
  replace hB1 := Lib.hid (hB1.out.nil k3)
  replace hB2 := Lib.hid (hB2.out.nil k3)
  clear k3 e0B3
  obtain ⟨W10, hW10⟩ : ∃ W, W = W9.drew := ⟨_, rfl⟩
  replace hW10 := Lib.hid hW10
  have kn : Keeps Nil W9 W10 := by rw [hW10.out]; exact keeps_drew _
  replace hst := Lib.hid (hst.out.nil kn)
  replace hX := Lib.hid (hX.out.keeps_nil kn)
  replace hV := Lib.hid (hV.out.keeps_nil kn)
  replace hV2 := Lib.hid (hV2.out.keeps_nil kn)
  replace hT := Lib.hid (hT.out.nil kn)
  replace hB1 := Lib.hid (hB1.out.nil kn)
  replace hB2 := Lib.hid (hB2.out.nil kn)
  replace hB3 := Lib.hid (hB3.out.nil kn)
  clear kn
  refine wp_region_held_drew (S := fun w' => w'.cell? ⟨B1, 0, none⟩ = some (.slice (some ⟨ab, ao, none⟩) 600 ac) ∧ w'.cell? ⟨B1, 1, none⟩ = some (.slice a2 P.length c2) ∧ w'.cell? ⟨B2, 0, none⟩ = some (.int .u64 (bo.toNat : Int)) ∧ w'.cell? ⟨B2, 1, none⟩ = some (.int .u64 (bs.toNat : Int)) ∧ w'.cell? ⟨B2, 2, none⟩ = some (.bool bu) ∧ w'.cell? ⟨B2, 3, none⟩ = some (.int .i64 bw) ∧ w'.cell? ⟨B2, 4, none⟩ = some (.int .u64 (bl.toNat : Int)) ∧ w'.cell? ⟨B3, 0, none⟩ = some (.int .u64 (bo.toNat : Int)) ∧ w'.cell? ⟨B3, 1, none⟩ = some (.int .u64 (bs.toNat : Int)) ∧ w'.cell? ⟨B3, 2, none⟩ = some (.bool bu) ∧ w'.cell? ⟨B3, 3, none⟩ = some (.int .i64 bw) ∧ w'.cell? ⟨B3, 4, none⟩ = some (.int .u64 (bl.toNat : Int))) (by kernel_rfl) (by rw [← hW10.out]; exact ⟨hB1.out.cell 0 _ rfl, hB1.out.cell 1 _ rfl, hB2.out.cell 0 _ rfl, hB2.out.cell 1 _ rfl, hB2.out.cell 2 _ rfl, hB2.out.cell 3 _ rfl, hB2.out.cell 4 _ rfl, hB3.out.cell 0 _ rfl, hB3.out.cell 1 _ rfl, hB3.out.cell 2 _ rfl, hB3.out.cell 3 _ rfl, hB3.out.cell 4 _ rfl⟩) (fun hHeld => ?_)
  rw [← hW10.out] at hHeld ⊢
  refine wpAnyH_take (i := 0) (oi := _) (v := ?m1_v) rfl (by kernel_rfl) (by kernel_rfl) (by kernel_rfl) (fun _ _ _ h => h) (Or.inl ⟨by kernel_rfl, ?m1_h⟩) hHeld ?m1_r
  case m1_h => (intro w hSw; (try dsimp only at hSw); go_simp; try with_reducible rfl)
  try simp only [Act.put, List.getElem_toArray, List.getElem_cons_succ, List.getElem_cons_zero, List.setIfInBounds_toArray, List.set_cons_zero, List.set_cons_succ]
  refine wpAnyH_take (i := 1) (oi := _) (v := ?m2_v) rfl (by kernel_rfl) (by kernel_rfl) (by kernel_rfl) (fun _ _ _ h => h) (Or.inl ⟨by kernel_rfl, ?m2_h⟩) hHeld ?m2_r
  case m2_h => (intro w hSw; (try dsimp only at hSw); go_simp; try with_reducible rfl)
  try simp only [Act.put, List.getElem_toArray, List.getElem_cons_succ, List.getElem_cons_zero, List.setIfInBounds_toArray, List.set_cons_zero, List.set_cons_succ]
  refine wpAnyH_take (i := 2) (oi := _) (v := ?m3_v) rfl (by kernel_rfl) (by kernel_rfl) (by kernel_rfl) (fun _ _ _ h => h) (Or.inl ⟨by kernel_rfl, ?m3_h⟩) hHeld ?m3_r
  case m3_h => (intro w hSw; (try dsimp only at hSw); go_simp; try with_reducible rfl)
  try simp only [Act.put, List.getElem_toArray, List.getElem_cons_succ, List.getElem_cons_zero, List.setIfInBounds_toArray, List.set_cons_zero, List.set_cons_succ]
  refine wpAnyH_take (i := 3) (oi := _) (v := ?m4_v) rfl (by kernel_rfl) (by kernel_rfl) (by kernel_rfl) (fun _ _ _ h => h) (Or.inl ⟨by kernel_rfl, ?m4_h⟩) hHeld ?m4_r
  case m4_h => (intro w hSw; (try dsimp only at hSw); go_simp; try with_reducible rfl)
  try simp only [Act.put, List.getElem_toArray, List.getElem_cons_succ, List.getElem_cons_zero, List.setIfInBounds_toArray, List.set_cons_zero, List.set_cons_succ]
  refine wpAnyH_ready (rs := [4]) (by kernel_rfl) (by simp) ?_
  refine (AllReadyH.cons (o := _) rfl (fun K hK => ?_) AllReadyH.nil)
  go_simp
  refine (same06 hV.out hV2.out).mono ?_
  rintro _ W11 ⟨rfl, kn⟩
  replace hst := Lib.hid (hst.out.nil kn)
  replace hX := Lib.hid (hX.out.keeps_nil kn)
  replace hV := Lib.hid (hV.out.keeps_nil kn)
  replace hV2 := Lib.hid (hV2.out.keeps_nil kn)
  replace hT := Lib.hid (hT.out.nil kn)
  replace hB1 := Lib.hid (hB1.out.nil kn)
  replace hB2 := Lib.hid (hB2.out.nil kn)
  replace hB3 := Lib.hid (hB3.out.nil kn)
  clear kn
  refine hK.out _ _ (⟨hB1.out.cell 0 _ rfl, hB1.out.cell 1 _ rfl, hB2.out.cell 0 _ rfl, hB2.out.cell 1 _ rfl, hB2.out.cell 2 _ rfl, hB2.out.cell 3 _ rfl, hB2.out.cell 4 _ rfl, hB3.out.cell 0 _ rfl, hB3.out.cell 1 _ rfl, hB3.out.cell 2 _ rfl, hB3.out.cell 3 _ rfl, hB3.out.cell 4 _ rfl⟩) (fun hHeld => ?_)
  clear hK K
  try simp only [Act.put, List.getElem_toArray, List.getElem_cons_succ, List.getElem_cons_zero, List.setIfInBounds_toArray, List.set_cons_zero, List.set_cons_succ]
  refine wpAnyH_take (i := 5) (oi := _) (v := ?m5_v) rfl (by kernel_rfl) (by kernel_rfl) (by kernel_rfl) (fun _ _ _ h => h) (Or.inl ⟨by kernel_rfl, ?m5_h⟩) hHeld ?m5_r
  case m5_h => (intro w hSw; (try dsimp only at hSw); go_simp; try with_reducible rfl)
  try simp only [Act.put, List.getElem_toArray, List.getElem_cons_succ, List.getElem_cons_zero, List.setIfInBounds_toArray, List.set_cons_zero, List.set_cons_succ]
  refine wpAnyH_take (i := 6) (oi := _) (v := ?m6_v) rfl (by kernel_rfl) (by kernel_rfl) (by kernel_rfl) (fun _ _ _ h => h) (Or.inl ⟨by kernel_rfl, ?m6_h⟩) hHeld ?m6_r
  case m6_h => (intro w hSw; (try dsimp only at hSw); go_simp; try with_reducible rfl)
  try simp only [Act.put, List.getElem_toArray, List.getElem_cons_succ, List.getElem_cons_zero, List.setIfInBounds_toArray, List.set_cons_zero, List.set_cons_succ]
  refine wpAnyH_take (i := 7) (oi := _) (v := ?m7_v) rfl (by kernel_rfl) (by kernel_rfl) (by kernel_rfl) (fun _ _ _ h => h) (Or.inl ⟨by kernel_rfl, ?m7_h⟩) hHeld ?m7_r
  case m7_h => (intro w hSw; (try dsimp only at hSw); go_simp; try with_reducible rfl)
  try simp only [Act.put, List.getElem_toArray, List.getElem_cons_succ, List.getElem_cons_zero, List.setIfInBounds_toArray, List.set_cons_zero, List.set_cons_succ]
  refine wpAnyH_take (i := 8) (oi := _) (v := ?m8_v) rfl (by kernel_rfl) (by kernel_rfl) (by kernel_rfl) (fun _ _ _ h => h) (Or.inl ⟨by kernel_rfl, ?m8_h⟩) hHeld ?m8_r
  case m8_h => (intro w hSw; (try dsimp only at hSw); go_simp; try with_reducible rfl)
  try simp only [Act.put, List.getElem_toArray, List.getElem_cons_succ, List.getElem_cons_zero, List.setIfInBounds_toArray, List.set_cons_zero, List.set_cons_succ]
  refine wpAnyH_take (i := 9) (oi := _) (v := ?m9_v) rfl (by kernel_rfl) (by kernel_rfl) (by kernel_rfl) (fun _ _ _ h => h) (Or.inl ⟨by kernel_rfl, ?m9_h⟩) hHeld ?m9_r
  case m9_h => (intro w hSw; (try dsimp only at hSw); go_simp; try with_reducible rfl)
  try simp only [Act.put, List.getElem_toArray, List.getElem_cons_succ, List.getElem_cons_zero, List.setIfInBounds_toArray, List.set_cons_zero, List.set_cons_succ]
  refine wpAnyH_take (i := 10) (oi := _) (v := ?m10_v) rfl (by kernel_rfl) (by kernel_rfl) (by kernel_rfl) (fun _ _ _ h => h) (Or.inl ⟨by kernel_rfl, ?m10_h⟩) hHeld ?m10_r
  case m10_h => (intro w hSw; (try dsimp only at hSw); go_simp; try with_reducible rfl)
  try simp only [Act.put, List.getElem_toArray, List.getElem_cons_succ, List.getElem_cons_zero, List.setIfInBounds_toArray, List.set_cons_zero, List.set_cons_succ]
  refine wpAnyH_take (i := 11) (oi := _) (v := ?m11_v) rfl (by kernel_rfl) (by kernel_rfl) (by kernel_rfl) (fun _ _ _ h => h) (Or.inl ⟨by kernel_rfl, ?m11_h⟩) hHeld ?m11_r
  case m11_h => (intro w hSw; (try dsimp only at hSw); go_simp; try with_reducible rfl)
  try simp only [Act.put, List.getElem_toArray, List.getElem_cons_succ, List.getElem_cons_zero, List.setIfInBounds_toArray, List.set_cons_zero, List.set_cons_succ]
  refine wpAnyH_take (i := 12) (oi := _) (v := ?m12_v) rfl (by kernel_rfl) (by kernel_rfl) (by kernel_rfl) (fun _ _ _ h => h) (Or.inl ⟨by kernel_rfl, ?m12_h⟩) hHeld ?m12_r
  case m12_h => (intro w hSw; (try dsimp only at hSw); go_simp; try with_reducible rfl)
  try simp only [Act.put, List.getElem_toArray, List.getElem_cons_succ, List.getElem_cons_zero, List.setIfInBounds_toArray, List.set_cons_zero, List.set_cons_succ]
  refine wpAnyH_take (i := 13) (oi := _) (v := ?m13_v) rfl (by kernel_rfl) (by kernel_rfl) (by kernel_rfl) (fun _ _ _ h => h) (Or.inl ⟨by kernel_rfl, ?m13_h⟩) hHeld ?m13_r
  case m13_h => (intro w hSw; (try dsimp only at hSw); go_simp; try with_reducible rfl)
  try simp only [Act.put, List.getElem_toArray, List.getElem_cons_succ, List.getElem_cons_zero, List.setIfInBounds_toArray, List.set_cons_zero, List.set_cons_succ]
  refine wpAnyH_ready (rs := [14]) (by kernel_rfl) (by simp) ?_
  refine (AllReadyH.cons (o := _) rfl (fun K hK => ?_) AllReadyH.nil)
  go_simp
  refine (made06 _ ⟨bo, ⟨bs, bu, bw⟩, bl⟩).mono ?_
  rintro _ W12 ⟨rfl, kn⟩
  rw [BlockV.cells_def]
  replace hst := Lib.hid (hst.out.nil kn)
  replace hX := Lib.hid (hX.out.keeps_nil kn)
  replace hV := Lib.hid (hV.out.keeps_nil kn)
  replace hV2 := Lib.hid (hV2.out.keeps_nil kn)
  replace hT := Lib.hid (hT.out.nil kn)
  replace hB1 := Lib.hid (hB1.out.nil kn)
  replace hB2 := Lib.hid (hB2.out.nil kn)
  replace hB3 := Lib.hid (hB3.out.nil kn)
  clear kn
  refine hK.out _ _ (⟨hB1.out.cell 0 _ rfl, hB1.out.cell 1 _ rfl, hB2.out.cell 0 _ rfl, hB2.out.cell 1 _ rfl, hB2.out.cell 2 _ rfl, hB2.out.cell 3 _ rfl, hB2.out.cell 4 _ rfl, hB3.out.cell 0 _ rfl, hB3.out.cell 1 _ rfl, hB3.out.cell 2 _ rfl, hB3.out.cell 3 _ rfl, hB3.out.cell 4 _ rfl⟩) (fun hHeld => ?_)
  clear hK K
  try simp only [Act.put, List.getElem_toArray, List.getElem_cons_succ, List.getElem_cons_zero, List.setIfInBounds_toArray, List.set_cons_zero, List.set_cons_succ]
  have qs1 : ∀ w, (binOp .eql 103 (.agg #[.int .u64 (bo.toNat : Int), .int .u64 (bs.toNat : Int), .bool bu, .int .i64 bw, .int .u64 (bl.toNat : Int)]) (.agg #[.int .u64 (bo.toNat : Int), .int .u64 (bs.toNat : Int), .bool bu, .int .i64 bw, .int .u64 (bl.toNat : Int)])).run Try.prog w = .ok (.bool true) w := blk_eql_yes rfl
  refine wpAnyH_take (i := 15) (oi := _) (v := ?m14_v) rfl (by kernel_rfl) (by kernel_rfl) (by kernel_rfl) (fun _ _ _ h => h) (Or.inl ⟨by kernel_rfl, ?m14_h⟩) hHeld ?m14_r
  case m14_h => (intro w hSw; (try dsimp only at hSw); go_simp; try with_reducible rfl)
  try simp only [Act.put, List.getElem_toArray, List.getElem_cons_succ, List.getElem_cons_zero, List.setIfInBounds_toArray, List.set_cons_zero, List.set_cons_succ]
  refine wpAnyH_take (i := 16) (oi := _) (v := ?m15_v) rfl (by kernel_rfl) (by kernel_rfl) (by kernel_rfl) (fun _ _ _ h => h) (Or.inl ⟨by kernel_rfl, ?m15_h⟩) hHeld ?m15_r
  case m15_h => (intro w hSw; (try dsimp only at hSw); go_simp; try with_reducible rfl)
  try simp only [Act.put, List.getElem_toArray, List.getElem_cons_succ, List.getElem_cons_zero, List.setIfInBounds_toArray, List.set_cons_zero, List.set_cons_succ]
  refine wpAnyH_take (i := 17) (oi := _) (v := ?m16_v) rfl (by kernel_rfl) (by kernel_rfl) (by kernel_rfl) (fun _ _ _ h => h) (Or.inl ⟨by kernel_rfl, ?m16_h⟩) hHeld ?m16_r
  case m16_h => (intro w hSw; (try dsimp only at hSw); go_simp; try with_reducible rfl)
  try simp only [Act.put, List.getElem_toArray, List.getElem_cons_succ, List.getElem_cons_zero, List.setIfInBounds_toArray, List.set_cons_zero, List.set_cons_succ]
  refine wpAnyH_take (i := 18) (oi := _) (v := ?m17_v) rfl (by kernel_rfl) (by kernel_rfl) (by kernel_rfl) (fun _ _ _ h => h) (Or.inl ⟨by kernel_rfl, ?m17_h⟩) hHeld ?m17_r
  case m17_h => (intro w hSw; (try dsimp only at hSw); go_simp; try with_reducible rfl)
  try simp only [Act.put, List.getElem_toArray, List.getElem_cons_succ, List.getElem_cons_zero, List.setIfInBounds_toArray, List.set_cons_zero, List.set_cons_succ]
  refine wpAnyH_take (i := 19) (oi := _) (v := ?m18_v) rfl (by kernel_rfl) (by kernel_rfl) (by kernel_rfl) (fun _ _ _ h => h) (Or.inl ⟨by kernel_rfl, ?m18_h⟩) hHeld ?m18_r
  case m18_h => (intro w hSw; (try dsimp only at hSw); go_simp; try with_reducible rfl)
  try simp only [Act.put, List.getElem_toArray, List.getElem_cons_succ, List.getElem_cons_zero, List.setIfInBounds_toArray, List.set_cons_zero, List.set_cons_succ]
  refine wpAnyH_take (i := 20) (oi := _) (v := ?m19_v) rfl (by kernel_rfl) (by kernel_rfl) (by kernel_rfl) (fun _ _ _ h => h) (Or.inl ⟨by kernel_rfl, ?m19_h⟩) hHeld ?m19_r
  case m19_h => (intro w hSw; (try dsimp only at hSw); go_simp; try with_reducible rfl)
  try simp only [Act.put, List.getElem_toArray, List.getElem_cons_succ, List.getElem_cons_zero, List.setIfInBounds_toArray, List.set_cons_zero, List.set_cons_succ]
  refine wpAnyH_take (i := 21) (oi := _) (v := ?m20_v) rfl (by kernel_rfl) (by kernel_rfl) (by kernel_rfl) (fun _ _ _ h => h) (Or.inl ⟨by kernel_rfl, ?m20_h⟩) hHeld ?m20_r
  case m20_h => (intro w hSw; (try dsimp only at hSw); go_simp; try with_reducible rfl)
  try simp only [Act.put, List.getElem_toArray, List.getElem_cons_succ, List.getElem_cons_zero, List.setIfInBounds_toArray, List.set_cons_zero, List.set_cons_succ]
  refine wpAnyH_take (i := 22) (oi := _) (v := ?m21_v) rfl (by kernel_rfl) (by kernel_rfl) (by kernel_rfl) (fun _ _ _ h => h) (Or.inl ⟨by kernel_rfl, ?m21_h⟩) hHeld ?m21_r
  case m21_h => (intro w hSw; (try dsimp only at hSw); go_simp; try with_reducible rfl)
  try simp only [Act.put, List.getElem_toArray, List.getElem_cons_succ, List.getElem_cons_zero, List.setIfInBounds_toArray, List.set_cons_zero, List.set_cons_succ]
  refine wpAnyH_done (by kernel_rfl) ?_ _
  clear hHeld
  have c_B1_0 := hB1.out.cell 0 _ rfl
  have f_B1_0 := hB1.out.frz 0
  have c_B1_1 := hB1.out.cell 1 _ rfl
  have f_B1_1 := hB1.out.frz 1
  have l_B1 := hB1.out.lt
  have c_B2_0 := hB2.out.cell 0 _ rfl
  have f_B2_0 := hB2.out.frz 0
  have c_B2_1 := hB2.out.cell 1 _ rfl
  have f_B2_1 := hB2.out.frz 1
  have c_B2_2 := hB2.out.cell 2 _ rfl
  have f_B2_2 := hB2.out.frz 2
  have c_B2_3 := hB2.out.cell 3 _ rfl
  have f_B2_3 := hB2.out.frz 3
  have c_B2_4 := hB2.out.cell 4 _ rfl
  have f_B2_4 := hB2.out.frz 4
  have l_B2 := hB2.out.lt
  have c_B3_0 := hB3.out.cell 0 _ rfl
  have f_B3_0 := hB3.out.frz 0
  have c_B3_1 := hB3.out.cell 1 _ rfl
  have f_B3_1 := hB3.out.frz 1
  have c_B3_2 := hB3.out.cell 2 _ rfl
  have f_B3_2 := hB3.out.frz 2
  have c_B3_3 := hB3.out.cell 3 _ rfl
  have f_B3_3 := hB3.out.frz 3
  have c_B3_4 := hB3.out.cell 4 _ rfl
  have f_B3_4 := hB3.out.frz 4
  have l_B3 := hB3.out.lt
  go_wp2_with fail
  go_ret
  clear c_B1_0 f_B1_0 c_B1_1 f_B1_1 l_B1 c_B2_0 f_B2_0 c_B2_1 f_B2_1 c_B2_2 f_B2_2 c_B2_3 f_B2_3 c_B2_4 f_B2_4 l_B2 c_B3_0 f_B3_0 c_B3_1 f_B3_1 c_B3_2 f_B3_2 c_B3_3 f_B3_3 c_B3_4 f_B3_4 l_B3
  exact ⟨rfl, hst.out.keeps⟩
end Go.Proofs.Ytccllkgaakmdhaa
