/- TreeSJ: merged. -/
import Derived.Test.YtefpbljekfkefaaGreatM18
/- Package tree: split, join, insert, remove. -/
namespace Go.Proofs.YtefpbljekfkefaaGreat
open Go.RowKit PT

/-- the size that a word tells; a block's rank -/
abbrev szU : UInt64 → UInt64 := fun x => (unpackT x).size
abbrev mixU : UInt64 → UInt64 := fun x => x * goldU
theorem key_lt (f : UInt64 → UInt64) (at_ ks ko : UInt64) : decide (cmpK (sizeF f at_) at_ ks ko < 0) = ltK (keyF szU f at_) (ks, ko) := cmpK_lt _ _ _ _

set_option maxRecDepth 100000 in
set_option maxHeartbeats 4000000 in
theorem split_any {n : Nat} {f f' : UInt64 → UInt64} {at_ a b : UInt64} {k : UInt64 × UInt64} (h : SplR szU n f at_ k f' a b) : ∀ {w : World} {t : Nat} {S : Nat → Prop}, TxF w t f n S →
    Calls Tryz.prog 154 #[.agg #[.pointer (some ⟨t, 0, none⟩)], .int .u64 (at_.toNat : Int), .agg #[.int .u64 (k.1.toNat : Int), .int .u64 (k.2.toNat : Int)]] w fun e w' =>
      e = .returned (.tuple #[.int .u64 (a.toNat : Int), .int .u64 (b.toNat : Int)]) ∧ ∃ S', TxF w' t f' n S' ∧ Step S S' w w' := by
  induction h with
  | nil k =>
    intro w t S h
    obtain ⟨ks, ko⟩ := k
    have hT := Lib.hid h
    clear h
    have hst := Lib.hid (Step.refl S w)
    go_enter Tryz.func154, Tryz.ntmps154
    have d1 : ((((0 : UInt64).toNat : Int) : Int) == (0 : Int)) = true := (same_u64 (a := (0 : UInt64)) (b := 0) (rfl)).2
    obtain ⟨W1, hW1⟩ : ∃ W, W = w.alloc (.cells #[.pointer (some ⟨t, 0, none⟩)] 153) := ⟨_, rfl⟩
    obtain ⟨B1, eB1⟩ : ∃ B, B = w.heap.size := ⟨_, rfl⟩
    replace hW1 := Lib.hid hW1
    replace eB1 := Lib.hid eB1
    obtain ⟨W2, hW2⟩ : ∃ W, W = W1.alloc (.cells #[.int .u64 (ks.toNat : Int), .int .u64 (ko.toNat : Int)] 162) := ⟨_, rfl⟩
    obtain ⟨B2, eB2⟩ : ∃ B, B = w.heap.size + 1 := ⟨_, rfl⟩
    replace hW2 := Lib.hid hW2
    replace eB2 := Lib.hid eB2
    go_wp2_with fail
    go_ret2
    rw [← hW1.out]
    rw [← hW2.out]
    try rw [← eB2.out]
    try rw [← eB1.out]
    have k1 : Keeps Nil w W1 := by rw [hW1.out]; exact alloc_keeps _ _
    have e0B1 : B1 = w.heap.size := by rw [eB1.out]
    have hB1 := Lib.hid (show Bx W1 S B1 #[.pointer (some ⟨t, 0, none⟩)] 153 by rw [hW1.out]; exact Bx.new hT.out.lt _ _ e0B1)
    have gB1 := Lib.hid (show w.heap.size ≤ B1 by rw [e0B1]; exact hst.out.keeps.size)
    replace hst := Lib.hid (hst.out.nil k1)
    replace hT := Lib.hid (hT.out.nil k1)
    clear k1 e0B1
    have k2 : Keeps Nil W1 W2 := by rw [hW2.out]; exact alloc_keeps _ _
    have e0B2 : B2 = W1.heap.size := by rw [eB2.out, hW1.out]; simp []
    have hB2 := Lib.hid (show Bx W2 S B2 #[.int .u64 (ks.toNat : Int), .int .u64 (ko.toNat : Int)] 162 by rw [hW2.out]; exact Bx.new hT.out.lt _ _ e0B2)
    have gB2 := Lib.hid (show w.heap.size ≤ B2 by rw [e0B2]; exact hst.out.keeps.size)
    have nB1B2 := Lib.hid (show B1 < B2 by rw [e0B2]; exact hB1.out.lt)
    replace hst := Lib.hid (hst.out.nil k2)
    replace hT := Lib.hid (hT.out.nil k2)
    replace hB1 := Lib.hid (hB1.out.nil k2)
    clear k2 e0B2
    exact ⟨rfl, _, hT.out, hst.out⟩
  | @right at_ k f' a b h1 h2 h3 ih =>
    intro w t S h
    obtain ⟨ks, ko⟩ := k
    have hd : decide (cmpK (sizeF f at_) at_ ks ko < 0) = true := by rw [key_lt]; exact h2
    have hT := Lib.hid h
    have H1 := Lib.hid h1
    clear h h1 h2 h3
    have hst := Lib.hid (Step.refl S w)
    go_enter Tryz.func154, Tryz.ntmps154
    have d1 : (((at_.toNat : Int) : Int) == (0 : Int)) = false := (unlike_u64 (a := at_) (b := 0) (H1.out)).2
    obtain ⟨W1, hW1⟩ : ∃ W, W = w.alloc (.cells #[.pointer (some ⟨t, 0, none⟩)] 153) := ⟨_, rfl⟩
    obtain ⟨B1, eB1⟩ : ∃ B, B = w.heap.size := ⟨_, rfl⟩
    replace hW1 := Lib.hid hW1
    replace eB1 := Lib.hid eB1
    obtain ⟨W2, hW2⟩ : ∃ W, W = W1.alloc (.cells #[.int .u64 (ks.toNat : Int), .int .u64 (ko.toNat : Int)] 162) := ⟨_, rfl⟩
    obtain ⟨B2, eB2⟩ : ∃ B, B = w.heap.size + 1 := ⟨_, rfl⟩
    replace hW2 := Lib.hid hW2
    replace eB2 := Lib.hid eB2
    go_wp2_with fail
    rw [← hW1.out]
    rw [← hW2.out]
    try rw [← eB2.out]
    try rw [← eB1.out]
    have k1 : Keeps Nil w W1 := by rw [hW1.out]; exact alloc_keeps _ _
    have e0B1 : B1 = w.heap.size := by rw [eB1.out]
    have hB1 := Lib.hid (show Bx W1 S B1 #[.pointer (some ⟨t, 0, none⟩)] 153 by rw [hW1.out]; exact Bx.new hT.out.lt _ _ e0B1)
    have gB1 := Lib.hid (show w.heap.size ≤ B1 by rw [e0B1]; exact hst.out.keeps.size)
    replace hst := Lib.hid (hst.out.nil k1)
    replace hT := Lib.hid (hT.out.nil k1)
    clear k1 e0B1
    have k2 : Keeps Nil W1 W2 := by rw [hW2.out]; exact alloc_keeps _ _
    have e0B2 : B2 = W1.heap.size := by rw [eB2.out, hW1.out]; simp []
    have hB2 := Lib.hid (show Bx W2 S B2 #[.int .u64 (ks.toNat : Int), .int .u64 (ko.toNat : Int)] 162 by rw [hW2.out]; exact Bx.new hT.out.lt _ _ e0B2)
    have gB2 := Lib.hid (show w.heap.size ≤ B2 by rw [e0B2]; exact hst.out.keeps.size)
    have nB1B2 := Lib.hid (show B1 < B2 by rw [e0B2]; exact hB1.out.lt)
    replace hst := Lib.hid (hst.out.nil k2)
    replace hT := Lib.hid (hT.out.nil k2)
    replace hB1 := Lib.hid (hB1.out.nil k2)
    clear k2 e0B2
    obtain ⟨W3, hW3⟩ : ∃ W, W = W2.drew := ⟨_, rfl⟩
    replace hW3 := Lib.hid hW3
    have kn : Keeps Nil W2 W3 := by rw [hW3.out]; exact keeps_drew _
    replace hst := Lib.hid (hst.out.nil kn)
    replace hT := Lib.hid (hT.out.nil kn)
    replace hB1 := Lib.hid (hB1.out.nil kn)
    replace hB2 := Lib.hid (hB2.out.nil kn)
    clear kn
    refine wp_region_held_drew (S := fun w' => w'.cell? ⟨B1, 0, none⟩ = some (.pointer (some ⟨t, 0, none⟩)) ∧ w'.cell? ⟨B2, 0, none⟩ = some (.int .u64 (ks.toNat : Int)) ∧ w'.cell? ⟨B2, 1, none⟩ = some (.int .u64 (ko.toNat : Int))) (by kernel_rfl) (by rw [← hW3.out]; exact ⟨hB1.out.cell 0 _ rfl, hB2.out.cell 0 _ rfl, hB2.out.cell 1 _ rfl⟩) (fun hHeld => ?_)
    rw [← hW3.out] at hHeld ⊢
    refine wpAnyH_take (i := 0) (oi := _) (v := ?m18_v) rfl (by kernel_rfl) (by kernel_rfl) (by kernel_rfl) (fun _ _ _ h => h) (Or.inl ⟨by kernel_rfl, ?m18_h⟩) hHeld ?m18_r
    case m18_h => (intro w hSw; (try dsimp only at hSw); go_simp; try with_reducible rfl)
    try simp only [Act.put, List.getElem_toArray, List.getElem_cons_zero, List.setIfInBounds_toArray, List.set_cons_zero, List.set_cons_succ]
    refine wpAnyH_take (i := 1) (oi := _) (v := ?m19_v) rfl (by kernel_rfl) (by kernel_rfl) (by kernel_rfl) (fun _ _ _ h => h) (Or.inl ⟨by kernel_rfl, ?m19_h⟩) hHeld ?m19_r
    case m19_h => (intro w hSw; (try dsimp only at hSw); go_simp; try with_reducible rfl)
    try simp only [Act.put, List.getElem_toArray, List.getElem_cons_succ, List.getElem_cons_zero, List.setIfInBounds_toArray, List.set_cons_zero, List.set_cons_succ]
    refine wpAnyH_take (i := 3) (oi := _) (v := ?m20_v) rfl (by kernel_rfl) (by kernel_rfl) (by kernel_rfl) (fun _ _ _ h => h) (Or.inl ⟨by kernel_rfl, ?m20_h⟩) hHeld ?m20_r
    case m20_h => (intro w hSw; (try dsimp only at hSw); go_simp; try with_reducible rfl)
    try simp only [Act.put, List.getElem_toArray, List.getElem_cons_succ, List.getElem_cons_zero, List.setIfInBounds_toArray, List.set_cons_zero, List.set_cons_succ]
    refine wpAnyH_ready (rs := [2]) (by kernel_rfl) (by simp) ?_
    refine (AllReadyH.cons (o := _) rfl (fun K hK => ?_) AllReadyH.nil)
    go_simp
    refine (key_any hT.out.reads at_ _ rfl).mono ?_
    rintro _ W4 ⟨rfl, kn⟩
    replace hst := Lib.hid (hst.out.nil kn)
    replace hT := Lib.hid (hT.out.nil kn)
    replace hB1 := Lib.hid (hB1.out.nil kn)
    replace hB2 := Lib.hid (hB2.out.nil kn)
    clear kn
    refine hK.out _ _ (⟨hB1.out.cell 0 _ rfl, hB2.out.cell 0 _ rfl, hB2.out.cell 1 _ rfl⟩) (fun hHeld => ?_)
    clear hK K
    try simp only [Act.put, List.getElem_toArray, List.getElem_cons_succ, List.getElem_cons_zero, List.setIfInBounds_toArray, List.set_cons_zero, List.set_cons_succ]
    refine wpAnyH_ready (rs := [4]) (by kernel_rfl) (by simp) ?_
    refine (AllReadyH.cons (o := _) rfl (fun K hK => ?_) AllReadyH.nil)
    go_simp
    refine (compare_any W4 (sizeF f at_) at_ ks ko).mono ?_
    rintro _ W5 ⟨rfl, kn⟩
    replace hst := Lib.hid (hst.out.nil kn)
    replace hT := Lib.hid (hT.out.nil kn)
    replace hB1 := Lib.hid (hB1.out.nil kn)
    replace hB2 := Lib.hid (hB2.out.nil kn)
    clear kn
    refine hK.out _ _ (⟨hB1.out.cell 0 _ rfl, hB2.out.cell 0 _ rfl, hB2.out.cell 1 _ rfl⟩) (fun hHeld => ?_)
    clear hK K
    try simp only [Act.put, List.getElem_toArray, List.getElem_cons_succ, List.getElem_cons_zero, List.setIfInBounds_toArray, List.set_cons_zero, List.set_cons_succ]
    refine wpAnyH_take (i := 5) (oi := _) (v := ?m21_v) rfl (by kernel_rfl) (by kernel_rfl) (by kernel_rfl) (fun _ _ _ h => h) (Or.inl ⟨by kernel_rfl, ?m21_h⟩) hHeld ?m21_r
    case m21_h => (intro w hSw; (try dsimp only at hSw); go_simp; try with_reducible rfl)
    try simp only [Act.put, List.getElem_toArray, List.getElem_cons_succ, List.getElem_cons_zero, List.setIfInBounds_toArray, List.set_cons_zero, List.set_cons_succ]
    refine wpAnyH_done (by kernel_rfl) ?_ _
    clear hHeld
    have c_B1_0 := hB1.out.cell 0 _ rfl
    have f_B1_0 := hB1.out.frz 0
    have l_B1 := hB1.out.lt
    have c_B2_0 := hB2.out.cell 0 _ rfl
    have f_B2_0 := hB2.out.frz 0
    have c_B2_1 := hB2.out.cell 1 _ rfl
    have f_B2_1 := hB2.out.frz 1
    have l_B2 := hB2.out.lt
    go_wp2_with fail
    clear c_B1_0 f_B1_0 l_B1 c_B2_0 f_B2_0 c_B2_1 f_B2_1 l_B2
    obtain ⟨W6, hW6⟩ : ∃ W, W = W5.drew := ⟨_, rfl⟩
    replace hW6 := Lib.hid hW6
    have kn : Keeps Nil W5 W6 := by rw [hW6.out]; exact keeps_drew _
    replace hst := Lib.hid (hst.out.nil kn)
    replace hT := Lib.hid (hT.out.nil kn)
    replace hB1 := Lib.hid (hB1.out.nil kn)
    replace hB2 := Lib.hid (hB2.out.nil kn)
    clear kn
    refine wp_region_held_drew (S := fun w' => w'.cell? ⟨B1, 0, none⟩ = some (.pointer (some ⟨t, 0, none⟩)) ∧ w'.cell? ⟨B2, 0, none⟩ = some (.int .u64 (ks.toNat : Int)) ∧ w'.cell? ⟨B2, 1, none⟩ = some (.int .u64 (ko.toNat : Int))) (by kernel_rfl) (by rw [← hW6.out]; exact ⟨hB1.out.cell 0 _ rfl, hB2.out.cell 0 _ rfl, hB2.out.cell 1 _ rfl⟩) (fun hHeld => ?_)
    rw [← hW6.out] at hHeld ⊢
    refine wpAnyH_take (i := 0) (oi := _) (v := ?m22_v) rfl (by kernel_rfl) (by kernel_rfl) (by kernel_rfl) (fun _ _ _ h => h) (Or.inl ⟨by kernel_rfl, ?m22_h⟩) hHeld ?m22_r
    case m22_h => (intro w hSw; (try dsimp only at hSw); go_simp; try with_reducible rfl)
    try simp only [Act.put, List.getElem_toArray, List.getElem_cons_zero, List.setIfInBounds_toArray, List.set_cons_zero, List.set_cons_succ]
    refine wpAnyH_take (i := 1) (oi := _) (v := ?m23_v) rfl (by kernel_rfl) (by kernel_rfl) (by kernel_rfl) (fun _ _ _ h => h) (Or.inl ⟨by kernel_rfl, ?m23_h⟩) hHeld ?m23_r
    case m23_h => (intro w hSw; (try dsimp only at hSw); go_simp; try with_reducible rfl)
    try simp only [Act.put, List.getElem_toArray, List.getElem_cons_succ, List.getElem_cons_zero, List.setIfInBounds_toArray, List.set_cons_zero, List.set_cons_succ]
    refine wpAnyH_take (i := 2) (oi := _) (v := ?m24_v) rfl (by kernel_rfl) (by kernel_rfl) (by kernel_rfl) (fun _ _ _ h => h) (Or.inl ⟨by kernel_rfl, ?m24_h⟩) hHeld ?m24_r
    case m24_h => (intro w hSw; (try dsimp only at hSw); go_simp; try with_reducible rfl)
    try simp only [Act.put, List.getElem_toArray, List.getElem_cons_succ, List.getElem_cons_zero, List.setIfInBounds_toArray, List.set_cons_zero, List.set_cons_succ]
    refine wpAnyH_take (i := 3) (oi := _) (v := ?m25_v) rfl (by kernel_rfl) (by kernel_rfl) (by kernel_rfl) (fun _ _ _ h => h) (Or.inl ⟨by kernel_rfl, ?m25_h⟩) hHeld ?m25_r
    case m25_h => (intro w hSw; (try dsimp only at hSw); go_simp; try with_reducible rfl)
    try simp only [Act.put, List.getElem_toArray, List.getElem_cons_succ, List.getElem_cons_zero, List.setIfInBounds_toArray, List.set_cons_zero, List.set_cons_succ]
    obtain ⟨y1, zy1⟩ : ∃ y : UInt64, y = at_ + 16 := ⟨_, rfl⟩
    have q1 : IntKind.u64.wrap ((at_.toNat : Int) + 16) = (y1.toNat : Int) := by rw [zy1]; exact u64_add at_ 16
    replace zy1 := Lib.hid zy1
    refine wpAnyH_take (i := 4) (oi := _) (v := ?m26_v) rfl (by kernel_rfl) (by kernel_rfl) (by kernel_rfl) (fun _ _ _ h => h) (Or.inl ⟨by kernel_rfl, ?m26_h⟩) hHeld ?m26_r
    case m26_h => (intro w hSw; (try dsimp only at hSw); go_simp; try with_reducible rfl)
    try simp only [Act.put, List.getElem_toArray, List.getElem_cons_succ, List.getElem_cons_zero, List.setIfInBounds_toArray, List.set_cons_zero, List.set_cons_succ]
    refine wpAnyH_take (i := 6) (oi := _) (v := ?m27_v) rfl (by kernel_rfl) (by kernel_rfl) (by kernel_rfl) (fun _ _ _ h => h) (Or.inl ⟨by kernel_rfl, ?m27_h⟩) hHeld ?m27_r
    case m27_h => (intro w hSw; (try dsimp only at hSw); go_simp; try with_reducible rfl)
    try simp only [Act.put, List.getElem_toArray, List.getElem_cons_succ, List.getElem_cons_zero, List.setIfInBounds_toArray, List.set_cons_zero, List.set_cons_succ]
    refine wpAnyH_ready (rs := [5]) (by kernel_rfl) (by simp) ?_
    refine (AllReadyH.cons (o := _) rfl (fun K hK => ?_) AllReadyH.nil)
    go_simp
    refine (hT.out.reads.loadC y1 _ rfl).mono ?_
    rintro _ W7 ⟨rfl, kn⟩
    replace hst := Lib.hid (hst.out.nil kn)
    replace hT := Lib.hid (hT.out.nil kn)
    replace hB1 := Lib.hid (hB1.out.nil kn)
    replace hB2 := Lib.hid (hB2.out.nil kn)
    clear kn
    refine hK.out _ _ (⟨hB1.out.cell 0 _ rfl, hB2.out.cell 0 _ rfl, hB2.out.cell 1 _ rfl⟩) (fun hHeld => ?_)
    clear hK K
    try simp only [Act.put, List.getElem_toArray, List.getElem_cons_succ, List.getElem_cons_zero, List.setIfInBounds_toArray, List.set_cons_zero, List.set_cons_succ]
    refine wpAnyH_ready (rs := [7]) (by kernel_rfl) (by simp) ?_
    refine (AllReadyH.cons (o := _) rfl (fun K hK => ?_) AllReadyH.nil)
    go_simp
    have ih2 := @ih _ _ _ hT.out
    rw [← zy1.out] at ih2
    refine (ih2).mono ?_
    rintro _ W8 ⟨rfl, S1, hT2, kn⟩
    clear ih ih2
    replace hst := Lib.hid (hst.out.trans kn)
    replace hB1 := Lib.hid (hB1.out.steps kn)
    replace hB2 := Lib.hid (hB2.out.steps kn)
    replace hT := Lib.hid hT2
    clear kn hT2
    refine hK.out _ _ (⟨hB1.out.cell 0 _ rfl, hB2.out.cell 0 _ rfl, hB2.out.cell 1 _ rfl⟩) (fun hHeld => ?_)
    clear hK K
    try simp only [Act.put, List.getElem_toArray, List.getElem_cons_succ, List.getElem_cons_zero, List.setIfInBounds_toArray, List.set_cons_zero, List.set_cons_succ]
    refine wpAnyH_take (i := 8) (oi := _) (v := ?m28_v) rfl (by kernel_rfl) (by kernel_rfl) (by kernel_rfl) (fun _ _ _ h => h) (Or.inl ⟨by kernel_rfl, ?m28_h⟩) hHeld ?m28_r
    case m28_h => (intro w hSw; (try dsimp only at hSw); go_simp; try with_reducible rfl)
    try simp only [Act.put, List.getElem_toArray, List.getElem_cons_succ, List.getElem_cons_zero, List.setIfInBounds_toArray, List.set_cons_zero, List.set_cons_succ]
    refine wpAnyH_take (i := 9) (oi := _) (v := ?m29_v) rfl (by kernel_rfl) (by kernel_rfl) (by kernel_rfl) (fun _ _ _ h => h) (Or.inl ⟨by kernel_rfl, ?m29_h⟩) hHeld ?m29_r
    case m29_h => (intro w hSw; (try dsimp only at hSw); go_simp; try with_reducible rfl)
    try simp only [Act.put, List.getElem_toArray, List.getElem_cons_succ, List.getElem_cons_zero, List.setIfInBounds_toArray, List.set_cons_zero, List.set_cons_succ]
    refine wpAnyH_take (i := 10) (oi := _) (v := ?m30_v) rfl (by kernel_rfl) (by kernel_rfl) (by kernel_rfl) (fun _ _ _ h => h) (Or.inl ⟨by kernel_rfl, ?m30_h⟩) hHeld ?m30_r
    case m30_h => (intro w hSw; (try dsimp only at hSw); go_simp; try with_reducible rfl)
    try simp only [Act.put, List.getElem_toArray, List.getElem_cons_succ, List.getElem_cons_zero, List.setIfInBounds_toArray, List.set_cons_zero, List.set_cons_succ]
    refine wpAnyH_take (i := 11) (oi := _) (v := ?m31_v) rfl (by kernel_rfl) (by kernel_rfl) (by kernel_rfl) (fun _ _ _ h => h) (Or.inl ⟨by kernel_rfl, ?m31_h⟩) hHeld ?m31_r
    case m31_h => (intro w hSw; (try dsimp only at hSw); go_simp; try with_reducible rfl)
    try simp only [Act.put, List.getElem_toArray, List.getElem_cons_succ, List.getElem_cons_zero, List.setIfInBounds_toArray, List.set_cons_zero, List.set_cons_succ]
    refine wpAnyH_take (i := 12) (oi := _) (v := ?m32_v) rfl (by kernel_rfl) (by kernel_rfl) (by kernel_rfl) (fun _ _ _ h => h) (Or.inl ⟨by kernel_rfl, ?m32_h⟩) hHeld ?m32_r
    case m32_h => (intro w hSw; (try dsimp only at hSw); go_simp; try with_reducible rfl)
    try simp only [Act.put, List.getElem_toArray, List.getElem_cons_succ, List.getElem_cons_zero, List.setIfInBounds_toArray, List.set_cons_zero, List.set_cons_succ]
    refine wpAnyH_done (by kernel_rfl) ?_ _
    clear hHeld
    have c_B1_0 := hB1.out.cell 0 _ rfl
    have f_B1_0 := hB1.out.frz 0
    have l_B1 := hB1.out.lt
    have c_B2_0 := hB2.out.cell 0 _ rfl
    have f_B2_0 := hB2.out.frz 0
    have c_B2_1 := hB2.out.cell 1 _ rfl
    have f_B2_1 := hB2.out.frz 1
    have l_B2 := hB2.out.lt
    go_wp2_with fail
    clear c_B1_0 f_B1_0 l_B1 c_B2_0 f_B2_0 c_B2_1 f_B2_1 l_B2
    refine (hT.out.store y1 a _ _ rfl rfl).mono ?_
    rintro _ W9 ⟨rfl, S2, hT2, kn⟩
    replace hst := Lib.hid (hst.out.trans kn)
    replace hB1 := Lib.hid (hB1.out.steps kn)
    replace hB2 := Lib.hid (hB2.out.steps kn)
    replace hT := Lib.hid hT2
    clear kn hT2
    have c_B1_0 := hB1.out.cell 0 _ rfl
    have f_B1_0 := hB1.out.frz 0
    have l_B1 := hB1.out.lt
    have c_B2_0 := hB2.out.cell 0 _ rfl
    have f_B2_0 := hB2.out.frz 0
    have c_B2_1 := hB2.out.cell 1 _ rfl
    have f_B2_1 := hB2.out.frz 1
    have l_B2 := hB2.out.lt
    go_wp2_with fail
    go_ret2
    clear c_B1_0 f_B1_0 l_B1 c_B2_0 f_B2_0 c_B2_1 f_B2_1 l_B2
    have hT3 := hT.out
    rw [zy1.out] at hT3
    exact ⟨rfl, _, hT3, hst.out⟩
  | @left at_ k f' a b h1 h2 h3 ih =>
    intro w t S h
    obtain ⟨ks, ko⟩ := k
    have hd : decide (cmpK (sizeF f at_) at_ ks ko < 0) = false := by rw [key_lt]; exact h2
    have hT := Lib.hid h
    have H1 := Lib.hid h1
    clear h h1 h2 h3
    have hst := Lib.hid (Step.refl S w)
    go_enter Tryz.func154, Tryz.ntmps154
    have d1 : (((at_.toNat : Int) : Int) == (0 : Int)) = false := (unlike_u64 (a := at_) (b := 0) (H1.out)).2
    obtain ⟨W1, hW1⟩ : ∃ W, W = w.alloc (.cells #[.pointer (some ⟨t, 0, none⟩)] 153) := ⟨_, rfl⟩
    obtain ⟨B1, eB1⟩ : ∃ B, B = w.heap.size := ⟨_, rfl⟩
    replace hW1 := Lib.hid hW1
    replace eB1 := Lib.hid eB1
    obtain ⟨W2, hW2⟩ : ∃ W, W = W1.alloc (.cells #[.int .u64 (ks.toNat : Int), .int .u64 (ko.toNat : Int)] 162) := ⟨_, rfl⟩
    obtain ⟨B2, eB2⟩ : ∃ B, B = w.heap.size + 1 := ⟨_, rfl⟩
    replace hW2 := Lib.hid hW2
    replace eB2 := Lib.hid eB2
    go_wp2_with fail
    rw [← hW1.out]
    rw [← hW2.out]
    try rw [← eB2.out]
    try rw [← eB1.out]
    have k1 : Keeps Nil w W1 := by rw [hW1.out]; exact alloc_keeps _ _
    have e0B1 : B1 = w.heap.size := by rw [eB1.out]
    have hB1 := Lib.hid (show Bx W1 S B1 #[.pointer (some ⟨t, 0, none⟩)] 153 by rw [hW1.out]; exact Bx.new hT.out.lt _ _ e0B1)
    have gB1 := Lib.hid (show w.heap.size ≤ B1 by rw [e0B1]; exact hst.out.keeps.size)
    replace hst := Lib.hid (hst.out.nil k1)
    replace hT := Lib.hid (hT.out.nil k1)
    clear k1 e0B1
    have k2 : Keeps Nil W1 W2 := by rw [hW2.out]; exact alloc_keeps _ _
    have e0B2 : B2 = W1.heap.size := by rw [eB2.out, hW1.out]; simp []
    have hB2 := Lib.hid (show Bx W2 S B2 #[.int .u64 (ks.toNat : Int), .int .u64 (ko.toNat : Int)] 162 by rw [hW2.out]; exact Bx.new hT.out.lt _ _ e0B2)
    have gB2 := Lib.hid (show w.heap.size ≤ B2 by rw [e0B2]; exact hst.out.keeps.size)
    have nB1B2 := Lib.hid (show B1 < B2 by rw [e0B2]; exact hB1.out.lt)
    replace hst := Lib.hid (hst.out.nil k2)
    replace hT := Lib.hid (hT.out.nil k2)
    replace hB1 := Lib.hid (hB1.out.nil k2)
    clear k2 e0B2
    obtain ⟨W3, hW3⟩ : ∃ W, W = W2.drew := ⟨_, rfl⟩
    replace hW3 := Lib.hid hW3
    have kn : Keeps Nil W2 W3 := by rw [hW3.out]; exact keeps_drew _
    replace hst := Lib.hid (hst.out.nil kn)
    replace hT := Lib.hid (hT.out.nil kn)
    replace hB1 := Lib.hid (hB1.out.nil kn)
    replace hB2 := Lib.hid (hB2.out.nil kn)
    clear kn
    refine wp_region_held_drew (S := fun w' => w'.cell? ⟨B1, 0, none⟩ = some (.pointer (some ⟨t, 0, none⟩)) ∧ w'.cell? ⟨B2, 0, none⟩ = some (.int .u64 (ks.toNat : Int)) ∧ w'.cell? ⟨B2, 1, none⟩ = some (.int .u64 (ko.toNat : Int))) (by kernel_rfl) (by rw [← hW3.out]; exact ⟨hB1.out.cell 0 _ rfl, hB2.out.cell 0 _ rfl, hB2.out.cell 1 _ rfl⟩) (fun hHeld => ?_)
    rw [← hW3.out] at hHeld ⊢
    refine wpAnyH_take (i := 0) (oi := _) (v := ?m33_v) rfl (by kernel_rfl) (by kernel_rfl) (by kernel_rfl) (fun _ _ _ h => h) (Or.inl ⟨by kernel_rfl, ?m33_h⟩) hHeld ?m33_r
    case m33_h => (intro w hSw; (try dsimp only at hSw); go_simp; try with_reducible rfl)
    try simp only [Act.put, List.getElem_toArray, List.getElem_cons_zero, List.setIfInBounds_toArray, List.set_cons_zero, List.set_cons_succ]
    refine wpAnyH_take (i := 1) (oi := _) (v := ?m34_v) rfl (by kernel_rfl) (by kernel_rfl) (by kernel_rfl) (fun _ _ _ h => h) (Or.inl ⟨by kernel_rfl, ?m34_h⟩) hHeld ?m34_r
    case m34_h => (intro w hSw; (try dsimp only at hSw); go_simp; try with_reducible rfl)
    try simp only [Act.put, List.getElem_toArray, List.getElem_cons_succ, List.getElem_cons_zero, List.setIfInBounds_toArray, List.set_cons_zero, List.set_cons_succ]
    refine wpAnyH_take (i := 3) (oi := _) (v := ?m35_v) rfl (by kernel_rfl) (by kernel_rfl) (by kernel_rfl) (fun _ _ _ h => h) (Or.inl ⟨by kernel_rfl, ?m35_h⟩) hHeld ?m35_r
    case m35_h => (intro w hSw; (try dsimp only at hSw); go_simp; try with_reducible rfl)
    try simp only [Act.put, List.getElem_toArray, List.getElem_cons_succ, List.getElem_cons_zero, List.setIfInBounds_toArray, List.set_cons_zero, List.set_cons_succ]
    refine wpAnyH_ready (rs := [2]) (by kernel_rfl) (by simp) ?_
    refine (AllReadyH.cons (o := _) rfl (fun K hK => ?_) AllReadyH.nil)
    go_simp
    refine (key_any hT.out.reads at_ _ rfl).mono ?_
    rintro _ W4 ⟨rfl, kn⟩
    replace hst := Lib.hid (hst.out.nil kn)
    replace hT := Lib.hid (hT.out.nil kn)
    replace hB1 := Lib.hid (hB1.out.nil kn)
    replace hB2 := Lib.hid (hB2.out.nil kn)
    clear kn
    refine hK.out _ _ (⟨hB1.out.cell 0 _ rfl, hB2.out.cell 0 _ rfl, hB2.out.cell 1 _ rfl⟩) (fun hHeld => ?_)
    clear hK K
    try simp only [Act.put, List.getElem_toArray, List.getElem_cons_succ, List.getElem_cons_zero, List.setIfInBounds_toArray, List.set_cons_zero, List.set_cons_succ]
    refine wpAnyH_ready (rs := [4]) (by kernel_rfl) (by simp) ?_
    refine (AllReadyH.cons (o := _) rfl (fun K hK => ?_) AllReadyH.nil)
    go_simp
    refine (compare_any W4 (sizeF f at_) at_ ks ko).mono ?_
    rintro _ W5 ⟨rfl, kn⟩
    replace hst := Lib.hid (hst.out.nil kn)
    replace hT := Lib.hid (hT.out.nil kn)
    replace hB1 := Lib.hid (hB1.out.nil kn)
    replace hB2 := Lib.hid (hB2.out.nil kn)
    clear kn
    refine hK.out _ _ (⟨hB1.out.cell 0 _ rfl, hB2.out.cell 0 _ rfl, hB2.out.cell 1 _ rfl⟩) (fun hHeld => ?_)
    clear hK K
    try simp only [Act.put, List.getElem_toArray, List.getElem_cons_succ, List.getElem_cons_zero, List.setIfInBounds_toArray, List.set_cons_zero, List.set_cons_succ]
    refine wpAnyH_take (i := 5) (oi := _) (v := ?m36_v) rfl (by kernel_rfl) (by kernel_rfl) (by kernel_rfl) (fun _ _ _ h => h) (Or.inl ⟨by kernel_rfl, ?m36_h⟩) hHeld ?m36_r
    case m36_h => (intro w hSw; (try dsimp only at hSw); go_simp; try with_reducible rfl)
    try simp only [Act.put, List.getElem_toArray, List.getElem_cons_succ, List.getElem_cons_zero, List.setIfInBounds_toArray, List.set_cons_zero, List.set_cons_succ]
    refine wpAnyH_done (by kernel_rfl) ?_ _
    clear hHeld
    have c_B1_0 := hB1.out.cell 0 _ rfl
    have f_B1_0 := hB1.out.frz 0
    have l_B1 := hB1.out.lt
    have c_B2_0 := hB2.out.cell 0 _ rfl
    have f_B2_0 := hB2.out.frz 0
    have c_B2_1 := hB2.out.cell 1 _ rfl
    have f_B2_1 := hB2.out.frz 1
    have l_B2 := hB2.out.lt
    go_wp2_with fail
    clear c_B1_0 f_B1_0 l_B1 c_B2_0 f_B2_0 c_B2_1 f_B2_1 l_B2
    obtain ⟨W6, hW6⟩ : ∃ W, W = W5.drew := ⟨_, rfl⟩
    replace hW6 := Lib.hid hW6
    have kn : Keeps Nil W5 W6 := by rw [hW6.out]; exact keeps_drew _
    replace hst := Lib.hid (hst.out.nil kn)
    replace hT := Lib.hid (hT.out.nil kn)
    replace hB1 := Lib.hid (hB1.out.nil kn)
    replace hB2 := Lib.hid (hB2.out.nil kn)
    clear kn
    refine wp_region_held_drew (S := fun w' => w'.cell? ⟨B1, 0, none⟩ = some (.pointer (some ⟨t, 0, none⟩)) ∧ w'.cell? ⟨B2, 0, none⟩ = some (.int .u64 (ks.toNat : Int)) ∧ w'.cell? ⟨B2, 1, none⟩ = some (.int .u64 (ko.toNat : Int))) (by kernel_rfl) (by rw [← hW6.out]; exact ⟨hB1.out.cell 0 _ rfl, hB2.out.cell 0 _ rfl, hB2.out.cell 1 _ rfl⟩) (fun hHeld => ?_)
    rw [← hW6.out] at hHeld ⊢
    refine wpAnyH_take (i := 0) (oi := _) (v := ?m37_v) rfl (by kernel_rfl) (by kernel_rfl) (by kernel_rfl) (fun _ _ _ h => h) (Or.inl ⟨by kernel_rfl, ?m37_h⟩) hHeld ?m37_r
    case m37_h => (intro w hSw; (try dsimp only at hSw); go_simp; try with_reducible rfl)
    try simp only [Act.put, List.getElem_toArray, List.getElem_cons_zero, List.setIfInBounds_toArray, List.set_cons_zero, List.set_cons_succ]
    refine wpAnyH_take (i := 1) (oi := _) (v := ?m38_v) rfl (by kernel_rfl) (by kernel_rfl) (by kernel_rfl) (fun _ _ _ h => h) (Or.inl ⟨by kernel_rfl, ?m38_h⟩) hHeld ?m38_r
    case m38_h => (intro w hSw; (try dsimp only at hSw); go_simp; try with_reducible rfl)
    try simp only [Act.put, List.getElem_toArray, List.getElem_cons_succ, List.getElem_cons_zero, List.setIfInBounds_toArray, List.set_cons_zero, List.set_cons_succ]
    refine wpAnyH_take (i := 2) (oi := _) (v := ?m39_v) rfl (by kernel_rfl) (by kernel_rfl) (by kernel_rfl) (fun _ _ _ h => h) (Or.inl ⟨by kernel_rfl, ?m39_h⟩) hHeld ?m39_r
    case m39_h => (intro w hSw; (try dsimp only at hSw); go_simp; try with_reducible rfl)
    try simp only [Act.put, List.getElem_toArray, List.getElem_cons_succ, List.getElem_cons_zero, List.setIfInBounds_toArray, List.set_cons_zero, List.set_cons_succ]
    refine wpAnyH_take (i := 3) (oi := _) (v := ?m40_v) rfl (by kernel_rfl) (by kernel_rfl) (by kernel_rfl) (fun _ _ _ h => h) (Or.inl ⟨by kernel_rfl, ?m40_h⟩) hHeld ?m40_r
    case m40_h => (intro w hSw; (try dsimp only at hSw); go_simp; try with_reducible rfl)
    try simp only [Act.put, List.getElem_toArray, List.getElem_cons_succ, List.getElem_cons_zero, List.setIfInBounds_toArray, List.set_cons_zero, List.set_cons_succ]
    obtain ⟨y1, zy1⟩ : ∃ y : UInt64, y = at_ + 8 := ⟨_, rfl⟩
    have q1 : IntKind.u64.wrap ((at_.toNat : Int) + 8) = (y1.toNat : Int) := by rw [zy1]; exact u64_add at_ 8
    replace zy1 := Lib.hid zy1
    refine wpAnyH_take (i := 4) (oi := _) (v := ?m41_v) rfl (by kernel_rfl) (by kernel_rfl) (by kernel_rfl) (fun _ _ _ h => h) (Or.inl ⟨by kernel_rfl, ?m41_h⟩) hHeld ?m41_r
    case m41_h => (intro w hSw; (try dsimp only at hSw); go_simp; try with_reducible rfl)
    try simp only [Act.put, List.getElem_toArray, List.getElem_cons_succ, List.getElem_cons_zero, List.setIfInBounds_toArray, List.set_cons_zero, List.set_cons_succ]
    refine wpAnyH_take (i := 6) (oi := _) (v := ?m42_v) rfl (by kernel_rfl) (by kernel_rfl) (by kernel_rfl) (fun _ _ _ h => h) (Or.inl ⟨by kernel_rfl, ?m42_h⟩) hHeld ?m42_r
    case m42_h => (intro w hSw; (try dsimp only at hSw); go_simp; try with_reducible rfl)
    try simp only [Act.put, List.getElem_toArray, List.getElem_cons_succ, List.getElem_cons_zero, List.setIfInBounds_toArray, List.set_cons_zero, List.set_cons_succ]
    refine wpAnyH_ready (rs := [5]) (by kernel_rfl) (by simp) ?_
    refine (AllReadyH.cons (o := _) rfl (fun K hK => ?_) AllReadyH.nil)
    go_simp
    refine (hT.out.reads.loadC y1 _ rfl).mono ?_
    rintro _ W7 ⟨rfl, kn⟩
    replace hst := Lib.hid (hst.out.nil kn)
    replace hT := Lib.hid (hT.out.nil kn)
    replace hB1 := Lib.hid (hB1.out.nil kn)
    replace hB2 := Lib.hid (hB2.out.nil kn)
    clear kn
    refine hK.out _ _ (⟨hB1.out.cell 0 _ rfl, hB2.out.cell 0 _ rfl, hB2.out.cell 1 _ rfl⟩) (fun hHeld => ?_)
    clear hK K
    try simp only [Act.put, List.getElem_toArray, List.getElem_cons_succ, List.getElem_cons_zero, List.setIfInBounds_toArray, List.set_cons_zero, List.set_cons_succ]
    refine wpAnyH_ready (rs := [7]) (by kernel_rfl) (by simp) ?_
    refine (AllReadyH.cons (o := _) rfl (fun K hK => ?_) AllReadyH.nil)
    go_simp
    have ih2 := @ih _ _ _ hT.out
    rw [← zy1.out] at ih2
    refine (ih2).mono ?_
    rintro _ W8 ⟨rfl, S1, hT2, kn⟩
    clear ih ih2
    replace hst := Lib.hid (hst.out.trans kn)
    replace hB1 := Lib.hid (hB1.out.steps kn)
    replace hB2 := Lib.hid (hB2.out.steps kn)
    replace hT := Lib.hid hT2
    clear kn hT2
    refine hK.out _ _ (⟨hB1.out.cell 0 _ rfl, hB2.out.cell 0 _ rfl, hB2.out.cell 1 _ rfl⟩) (fun hHeld => ?_)
    clear hK K
    try simp only [Act.put, List.getElem_toArray, List.getElem_cons_succ, List.getElem_cons_zero, List.setIfInBounds_toArray, List.set_cons_zero, List.set_cons_succ]
    refine wpAnyH_take (i := 8) (oi := _) (v := ?m43_v) rfl (by kernel_rfl) (by kernel_rfl) (by kernel_rfl) (fun _ _ _ h => h) (Or.inl ⟨by kernel_rfl, ?m43_h⟩) hHeld ?m43_r
    case m43_h => (intro w hSw; (try dsimp only at hSw); go_simp; try with_reducible rfl)
    try simp only [Act.put, List.getElem_toArray, List.getElem_cons_succ, List.getElem_cons_zero, List.setIfInBounds_toArray, List.set_cons_zero, List.set_cons_succ]
    refine wpAnyH_take (i := 9) (oi := _) (v := ?m44_v) rfl (by kernel_rfl) (by kernel_rfl) (by kernel_rfl) (fun _ _ _ h => h) (Or.inl ⟨by kernel_rfl, ?m44_h⟩) hHeld ?m44_r
    case m44_h => (intro w hSw; (try dsimp only at hSw); go_simp; try with_reducible rfl)
    try simp only [Act.put, List.getElem_toArray, List.getElem_cons_succ, List.getElem_cons_zero, List.setIfInBounds_toArray, List.set_cons_zero, List.set_cons_succ]
    refine wpAnyH_take (i := 10) (oi := _) (v := ?m45_v) rfl (by kernel_rfl) (by kernel_rfl) (by kernel_rfl) (fun _ _ _ h => h) (Or.inl ⟨by kernel_rfl, ?m45_h⟩) hHeld ?m45_r
    case m45_h => (intro w hSw; (try dsimp only at hSw); go_simp; try with_reducible rfl)
    try simp only [Act.put, List.getElem_toArray, List.getElem_cons_succ, List.getElem_cons_zero, List.setIfInBounds_toArray, List.set_cons_zero, List.set_cons_succ]
    refine wpAnyH_take (i := 11) (oi := _) (v := ?m46_v) rfl (by kernel_rfl) (by kernel_rfl) (by kernel_rfl) (fun _ _ _ h => h) (Or.inl ⟨by kernel_rfl, ?m46_h⟩) hHeld ?m46_r
    case m46_h => (intro w hSw; (try dsimp only at hSw); go_simp; try with_reducible rfl)
    try simp only [Act.put, List.getElem_toArray, List.getElem_cons_succ, List.getElem_cons_zero, List.setIfInBounds_toArray, List.set_cons_zero, List.set_cons_succ]
    refine wpAnyH_take (i := 12) (oi := _) (v := ?m47_v) rfl (by kernel_rfl) (by kernel_rfl) (by kernel_rfl) (fun _ _ _ h => h) (Or.inl ⟨by kernel_rfl, ?m47_h⟩) hHeld ?m47_r
    case m47_h => (intro w hSw; (try dsimp only at hSw); go_simp; try with_reducible rfl)
    try simp only [Act.put, List.getElem_toArray, List.getElem_cons_succ, List.getElem_cons_zero, List.setIfInBounds_toArray, List.set_cons_zero, List.set_cons_succ]
    refine wpAnyH_done (by kernel_rfl) ?_ _
    clear hHeld
    have c_B1_0 := hB1.out.cell 0 _ rfl
    have f_B1_0 := hB1.out.frz 0
    have l_B1 := hB1.out.lt
    have c_B2_0 := hB2.out.cell 0 _ rfl
    have f_B2_0 := hB2.out.frz 0
    have c_B2_1 := hB2.out.cell 1 _ rfl
    have f_B2_1 := hB2.out.frz 1
    have l_B2 := hB2.out.lt
    go_wp2_with fail
    clear c_B1_0 f_B1_0 l_B1 c_B2_0 f_B2_0 c_B2_1 f_B2_1 l_B2
    refine (hT.out.store y1 b _ _ rfl rfl).mono ?_
    rintro _ W9 ⟨rfl, S2, hT2, kn⟩
    replace hst := Lib.hid (hst.out.trans kn)
    replace hB1 := Lib.hid (hB1.out.steps kn)
    replace hB2 := Lib.hid (hB2.out.steps kn)
    replace hT := Lib.hid hT2
    clear kn hT2
    have c_B1_0 := hB1.out.cell 0 _ rfl
    have f_B1_0 := hB1.out.frz 0
    have l_B1 := hB1.out.lt
    have c_B2_0 := hB2.out.cell 0 _ rfl
    have f_B2_0 := hB2.out.frz 0
    have c_B2_1 := hB2.out.cell 1 _ rfl
    have f_B2_1 := hB2.out.frz 1
    have l_B2 := hB2.out.lt
    go_wp2_with fail
    go_ret2
    clear c_B1_0 f_B1_0 l_B1 c_B2_0 f_B2_0 c_B2_1 f_B2_1 l_B2
    have hT3 := hT.out
    rw [zy1.out] at hT3
    exact ⟨rfl, _, hT3, hst.out⟩
set_option maxRecDepth 100000 in
set_option maxHeartbeats 4000000 in
theorem join_any {n : Nat} {f f' : UInt64 → UInt64} {a b r : UInt64} (h : JoinR mixU n f a b f' r) : ∀ {w : World} {t : Nat} {S : Nat → Prop}, TxF w t f n S →
    Calls Tryz.prog 164 #[.agg #[.pointer (some ⟨t, 0, none⟩)], .int .u64 (a.toNat : Int), .int .u64 (b.toNat : Int)] w fun e w' =>
      e = .returned (.int .u64 (r.toNat : Int)) ∧ ∃ S', TxF w' t f' n S' ∧ Step S S' w w' := by
  induction h with
  | nil b =>
    intro w t S h
    have hT := Lib.hid h
    clear h
    have hst := Lib.hid (Step.refl S w)
    go_enter Tryz.func164, Tryz.ntmps164
    have d1 : ((((0 : UInt64).toNat : Int) : Int) == (0 : Int)) = true := (same_u64 (a := (0 : UInt64)) (b := 0) (rfl)).2
    obtain ⟨W1, hW1⟩ : ∃ W, W = w.alloc (.cells #[.pointer (some ⟨t, 0, none⟩)] 153) := ⟨_, rfl⟩
    obtain ⟨B1, eB1⟩ : ∃ B, B = w.heap.size := ⟨_, rfl⟩
    replace hW1 := Lib.hid hW1
    replace eB1 := Lib.hid eB1
    go_wp2_with fail
    go_ret
    rw [← hW1.out]
    try rw [← eB1.out]
    have k1 : Keeps Nil w W1 := by rw [hW1.out]; exact alloc_keeps _ _
    have e0B1 : B1 = w.heap.size := by rw [eB1.out]
    have hB1 := Lib.hid (show Bx W1 S B1 #[.pointer (some ⟨t, 0, none⟩)] 153 by rw [hW1.out]; exact Bx.new hT.out.lt _ _ e0B1)
    have gB1 := Lib.hid (show w.heap.size ≤ B1 by rw [e0B1]; exact hst.out.keeps.size)
    replace hst := Lib.hid (hst.out.nil k1)
    replace hT := Lib.hid (hT.out.nil k1)
    clear k1 e0B1
    exact ⟨rfl, _, hT.out, hst.out⟩
  | @one a h1 =>
    intro w t S h
    have hT := Lib.hid h
    have H1 := Lib.hid h1
    clear h h1
    have hst := Lib.hid (Step.refl S w)
    go_enter Tryz.func164, Tryz.ntmps164
    have d1 : (((a.toNat : Int) : Int) == (0 : Int)) = false := (unlike_u64 (a := a) (b := 0) (H1.out)).2
    have d2 : ((((0 : UInt64).toNat : Int) : Int) == (0 : Int)) = true := (same_u64 (a := (0 : UInt64)) (b := 0) (rfl)).2
    obtain ⟨W1, hW1⟩ : ∃ W, W = w.alloc (.cells #[.pointer (some ⟨t, 0, none⟩)] 153) := ⟨_, rfl⟩
    obtain ⟨B1, eB1⟩ : ∃ B, B = w.heap.size := ⟨_, rfl⟩
    replace hW1 := Lib.hid hW1
    replace eB1 := Lib.hid eB1
    go_wp2_with fail
    go_ret
    rw [← hW1.out]
    try rw [← eB1.out]
    have k1 : Keeps Nil w W1 := by rw [hW1.out]; exact alloc_keeps _ _
    have e0B1 : B1 = w.heap.size := by rw [eB1.out]
    have hB1 := Lib.hid (show Bx W1 S B1 #[.pointer (some ⟨t, 0, none⟩)] 153 by rw [hW1.out]; exact Bx.new hT.out.lt _ _ e0B1)
    have gB1 := Lib.hid (show w.heap.size ≤ B1 by rw [e0B1]; exact hst.out.keeps.size)
    replace hst := Lib.hid (hst.out.nil k1)
    replace hT := Lib.hid (hT.out.nil k1)
    clear k1 e0B1
    exact ⟨rfl, _, hT.out, hst.out⟩
  | @left a b f' r h1 h2 h3 h4 ih =>
    intro w t S h
    have hT := Lib.hid h
    have H1 := Lib.hid h1
    have H2 := Lib.hid h2
    have H3 := Lib.hid h3
    clear h h1 h2 h3 h4
    have hst := Lib.hid (Step.refl S w)
    go_enter Tryz.func164, Tryz.ntmps164
    have d1 : (((a.toNat : Int) : Int) == (0 : Int)) = false := (unlike_u64 (a := a) (b := 0) (H1.out)).2
    have d2 : (((b.toNat : Int) : Int) == (0 : Int)) = false := (unlike_u64 (a := b) (b := 0) (H2.out)).2
    obtain ⟨W1, hW1⟩ : ∃ W, W = w.alloc (.cells #[.pointer (some ⟨t, 0, none⟩)] 153) := ⟨_, rfl⟩
    obtain ⟨B1, eB1⟩ : ∃ B, B = w.heap.size := ⟨_, rfl⟩
    replace hW1 := Lib.hid hW1
    replace eB1 := Lib.hid eB1
    go_wp2_with fail
    rw [← hW1.out]
    try rw [← eB1.out]
    have k1 : Keeps Nil w W1 := by rw [hW1.out]; exact alloc_keeps _ _
    have e0B1 : B1 = w.heap.size := by rw [eB1.out]
    have hB1 := Lib.hid (show Bx W1 S B1 #[.pointer (some ⟨t, 0, none⟩)] 153 by rw [hW1.out]; exact Bx.new hT.out.lt _ _ e0B1)
    have gB1 := Lib.hid (show w.heap.size ≤ B1 by rw [e0B1]; exact hst.out.keeps.size)
    replace hst := Lib.hid (hst.out.nil k1)
    replace hT := Lib.hid (hT.out.nil k1)
    clear k1 e0B1
    refine (wMix_any _ a _ rfl).mono ?_
    rintro _ _ ⟨rfl, rfl⟩
    obtain ⟨v1, zv1⟩ : ∃ v : UInt64, v = a * goldU := ⟨_, rfl⟩
    rw [← zv1]
    replace zv1 := Lib.hid zv1
    have c_B1_0 := hB1.out.cell 0 _ rfl
    have f_B1_0 := hB1.out.frz 0
    have l_B1 := hB1.out.lt
    go_wp2_with fail
    clear c_B1_0 f_B1_0 l_B1
    refine (wMix_any _ b _ rfl).mono ?_
    rintro _ _ ⟨rfl, rfl⟩
    obtain ⟨v2, zv2⟩ : ∃ v : UInt64, v = b * goldU := ⟨_, rfl⟩
    rw [← zv2]
    replace zv2 := Lib.hid zv2
    have d3 : decide (v2.toNat < v1.toNat) = true := decide_eq_true (by rw [zv1.out, zv2.out]; exact UInt64.lt_iff_toNat_lt.1 H3.out)
    have c_B1_0 := hB1.out.cell 0 _ rfl
    have f_B1_0 := hB1.out.frz 0
    have l_B1 := hB1.out.lt
    go_wp2_with fail
    clear c_B1_0 f_B1_0 l_B1
    obtain ⟨W4, hW4⟩ : ∃ W, W = W1.drew := ⟨_, rfl⟩
    replace hW4 := Lib.hid hW4
    have kn : Keeps Nil W1 W4 := by rw [hW4.out]; exact keeps_drew _
    replace hst := Lib.hid (hst.out.nil kn)
    replace hT := Lib.hid (hT.out.nil kn)
    replace hB1 := Lib.hid (hB1.out.nil kn)
    clear kn
    refine wp_region_held_drew (S := fun w' => w'.cell? ⟨B1, 0, none⟩ = some (.pointer (some ⟨t, 0, none⟩))) (by kernel_rfl) (by rw [← hW4.out]; exact hB1.out.cell 0 _ rfl) (fun hHeld => ?_)
    rw [← hW4.out] at hHeld ⊢
    refine wpAnyH_take (i := 0) (oi := _) (v := ?m48_v) rfl (by kernel_rfl) (by kernel_rfl) (by kernel_rfl) (fun _ _ _ h => h) (Or.inl ⟨by kernel_rfl, ?m48_h⟩) hHeld ?m48_r
    case m48_h => (intro w hSw; (try dsimp only at hSw); go_simp; try with_reducible rfl)
    try simp only [Act.put, List.getElem_toArray, List.getElem_cons_zero, List.setIfInBounds_toArray, List.set_cons_zero, List.set_cons_succ]
    refine wpAnyH_take (i := 1) (oi := _) (v := ?m49_v) rfl (by kernel_rfl) (by kernel_rfl) (by kernel_rfl) (fun _ _ _ h => h) (Or.inl ⟨by kernel_rfl, ?m49_h⟩) hHeld ?m49_r
    case m49_h => (intro w hSw; (try dsimp only at hSw); go_simp; try with_reducible rfl)
    try simp only [Act.put, List.getElem_toArray, List.getElem_cons_succ, List.getElem_cons_zero, List.setIfInBounds_toArray, List.set_cons_zero, List.set_cons_succ]
    refine wpAnyH_take (i := 2) (oi := _) (v := ?m50_v) rfl (by kernel_rfl) (by kernel_rfl) (by kernel_rfl) (fun _ _ _ h => h) (Or.inl ⟨by kernel_rfl, ?m50_h⟩) hHeld ?m50_r
    case m50_h => (intro w hSw; (try dsimp only at hSw); go_simp; try with_reducible rfl)
    try simp only [Act.put, List.getElem_toArray, List.getElem_cons_succ, List.getElem_cons_zero, List.setIfInBounds_toArray, List.set_cons_zero, List.set_cons_succ]
    obtain ⟨y1, zy1⟩ : ∃ y : UInt64, y = a + 16 := ⟨_, rfl⟩
    have q1 : IntKind.u64.wrap ((a.toNat : Int) + 16) = (y1.toNat : Int) := by rw [zy1]; exact u64_add a 16
    replace zy1 := Lib.hid zy1
    refine wpAnyH_take (i := 3) (oi := _) (v := ?m51_v) rfl (by kernel_rfl) (by kernel_rfl) (by kernel_rfl) (fun _ _ _ h => h) (Or.inl ⟨by kernel_rfl, ?m51_h⟩) hHeld ?m51_r
    case m51_h => (intro w hSw; (try dsimp only at hSw); go_simp; try with_reducible rfl)
    try simp only [Act.put, List.getElem_toArray, List.getElem_cons_succ, List.getElem_cons_zero, List.setIfInBounds_toArray, List.set_cons_zero, List.set_cons_succ]
    refine wpAnyH_take (i := 4) (oi := _) (v := ?m52_v) rfl (by kernel_rfl) (by kernel_rfl) (by kernel_rfl) (fun _ _ _ h => h) (Or.inl ⟨by kernel_rfl, ?m52_h⟩) hHeld ?m52_r
    case m52_h => (intro w hSw; (try dsimp only at hSw); go_simp; try with_reducible rfl)
    try simp only [Act.put, List.getElem_toArray, List.getElem_cons_succ, List.getElem_cons_zero, List.setIfInBounds_toArray, List.set_cons_zero, List.set_cons_succ]
    refine wpAnyH_take (i := 5) (oi := _) (v := ?m53_v) rfl (by kernel_rfl) (by kernel_rfl) (by kernel_rfl) (fun _ _ _ h => h) (Or.inl ⟨by kernel_rfl, ?m53_h⟩) hHeld ?m53_r
    case m53_h => (intro w hSw; (try dsimp only at hSw); go_simp; try with_reducible rfl)
    try simp only [Act.put, List.getElem_toArray, List.getElem_cons_succ, List.getElem_cons_zero, List.setIfInBounds_toArray, List.set_cons_zero, List.set_cons_succ]
    refine wpAnyH_take (i := 6) (oi := _) (v := ?m54_v) rfl (by kernel_rfl) (by kernel_rfl) (by kernel_rfl) (fun _ _ _ h => h) (Or.inl ⟨by kernel_rfl, ?m54_h⟩) hHeld ?m54_r
    case m54_h => (intro w hSw; (try dsimp only at hSw); go_simp; try with_reducible rfl)
    try simp only [Act.put, List.getElem_toArray, List.getElem_cons_succ, List.getElem_cons_zero, List.setIfInBounds_toArray, List.set_cons_zero, List.set_cons_succ]
    refine wpAnyH_take (i := 7) (oi := _) (v := ?m55_v) rfl (by kernel_rfl) (by kernel_rfl) (by kernel_rfl) (fun _ _ _ h => h) (Or.inl ⟨by kernel_rfl, ?m55_h⟩) hHeld ?m55_r
    case m55_h => (intro w hSw; (try dsimp only at hSw); go_simp; try with_reducible rfl)
    try simp only [Act.put, List.getElem_toArray, List.getElem_cons_succ, List.getElem_cons_zero, List.setIfInBounds_toArray, List.set_cons_zero, List.set_cons_succ]
    refine wpAnyH_take (i := 8) (oi := _) (v := ?m56_v) rfl (by kernel_rfl) (by kernel_rfl) (by kernel_rfl) (fun _ _ _ h => h) (Or.inl ⟨by kernel_rfl, ?m56_h⟩) hHeld ?m56_r
    case m56_h => (intro w hSw; (try dsimp only at hSw); go_simp; try with_reducible rfl)
    try simp only [Act.put, List.getElem_toArray, List.getElem_cons_succ, List.getElem_cons_zero, List.setIfInBounds_toArray, List.set_cons_zero, List.set_cons_succ]
    refine wpAnyH_take (i := 10) (oi := _) (v := ?m57_v) rfl (by kernel_rfl) (by kernel_rfl) (by kernel_rfl) (fun _ _ _ h => h) (Or.inl ⟨by kernel_rfl, ?m57_h⟩) hHeld ?m57_r
    case m57_h => (intro w hSw; (try dsimp only at hSw); go_simp; try with_reducible rfl)
    try simp only [Act.put, List.getElem_toArray, List.getElem_cons_succ, List.getElem_cons_zero, List.setIfInBounds_toArray, List.set_cons_zero, List.set_cons_succ]
    refine wpAnyH_ready (rs := [9]) (by kernel_rfl) (by simp) ?_
    refine (AllReadyH.cons (o := _) rfl (fun K hK => ?_) AllReadyH.nil)
    go_simp
    refine (hT.out.reads.loadC y1 _ rfl).mono ?_
    rintro _ W5 ⟨rfl, kn⟩
    replace hst := Lib.hid (hst.out.nil kn)
    replace hT := Lib.hid (hT.out.nil kn)
    replace hB1 := Lib.hid (hB1.out.nil kn)
    clear kn
    refine hK.out _ _ (hB1.out.cell 0 _ rfl) (fun hHeld => ?_)
    clear hK K
    try simp only [Act.put, List.getElem_toArray, List.getElem_cons_succ, List.getElem_cons_zero, List.setIfInBounds_toArray, List.set_cons_zero, List.set_cons_succ]
    refine wpAnyH_ready (rs := [11]) (by kernel_rfl) (by simp) ?_
    refine (AllReadyH.cons (o := _) rfl (fun K hK => ?_) AllReadyH.nil)
    go_simp
    have ih2 := @ih _ _ _ hT.out
    rw [← zy1.out] at ih2
    refine (ih2).mono ?_
    rintro _ W6 ⟨rfl, S1, hT2, kn⟩
    clear ih ih2
    replace hst := Lib.hid (hst.out.trans kn)
    replace hB1 := Lib.hid (hB1.out.steps kn)
    replace hT := Lib.hid hT2
    clear kn hT2
    refine hK.out _ _ (hB1.out.cell 0 _ rfl) (fun hHeld => ?_)
    clear hK K
    try simp only [Act.put, List.getElem_toArray, List.getElem_cons_succ, List.getElem_cons_zero, List.setIfInBounds_toArray, List.set_cons_zero, List.set_cons_succ]
    refine wpAnyH_ready (rs := [12]) (by kernel_rfl) (by simp) ?_
    refine (AllReadyH.cons (o := _) rfl (fun K hK => ?_) AllReadyH.nil)
    go_simp
    refine (hT.out.store y1 r _ _ rfl rfl).mono ?_
    rintro _ W7 ⟨rfl, S2, hT2, kn⟩
    replace hst := Lib.hid (hst.out.trans kn)
    replace hB1 := Lib.hid (hB1.out.steps kn)
    replace hT := Lib.hid hT2
    clear kn hT2
    refine hK.out _ _ (hB1.out.cell 0 _ rfl) (fun hHeld => ?_)
    clear hK K
    try simp only [Act.put, List.getElem_toArray, List.getElem_cons_succ, List.getElem_cons_zero, List.setIfInBounds_toArray, List.set_cons_zero, List.set_cons_succ]
    refine wpAnyH_done (by kernel_rfl) ?_ _
    clear hHeld
    have c_B1_0 := hB1.out.cell 0 _ rfl
    have f_B1_0 := hB1.out.frz 0
    have l_B1 := hB1.out.lt
    go_wp2_with fail
    go_ret
    clear c_B1_0 f_B1_0 l_B1
    have hT3 := hT.out
    rw [zy1.out] at hT3
    exact ⟨rfl, _, hT3, hst.out⟩
  | @right a b f' r h1 h2 h3 h4 ih =>
    intro w t S h
    have hT := Lib.hid h
    have H1 := Lib.hid h1
    have H2 := Lib.hid h2
    have H3 := Lib.hid h3
    clear h h1 h2 h3 h4
    have hst := Lib.hid (Step.refl S w)
    go_enter Tryz.func164, Tryz.ntmps164
    have d1 : (((a.toNat : Int) : Int) == (0 : Int)) = false := (unlike_u64 (a := a) (b := 0) (H1.out)).2
    have d2 : (((b.toNat : Int) : Int) == (0 : Int)) = false := (unlike_u64 (a := b) (b := 0) (H2.out)).2
    obtain ⟨W1, hW1⟩ : ∃ W, W = w.alloc (.cells #[.pointer (some ⟨t, 0, none⟩)] 153) := ⟨_, rfl⟩
    obtain ⟨B1, eB1⟩ : ∃ B, B = w.heap.size := ⟨_, rfl⟩
    replace hW1 := Lib.hid hW1
    replace eB1 := Lib.hid eB1
    go_wp2_with fail
    rw [← hW1.out]
    try rw [← eB1.out]
    have k1 : Keeps Nil w W1 := by rw [hW1.out]; exact alloc_keeps _ _
    have e0B1 : B1 = w.heap.size := by rw [eB1.out]
    have hB1 := Lib.hid (show Bx W1 S B1 #[.pointer (some ⟨t, 0, none⟩)] 153 by rw [hW1.out]; exact Bx.new hT.out.lt _ _ e0B1)
    have gB1 := Lib.hid (show w.heap.size ≤ B1 by rw [e0B1]; exact hst.out.keeps.size)
    replace hst := Lib.hid (hst.out.nil k1)
    replace hT := Lib.hid (hT.out.nil k1)
    clear k1 e0B1
    refine (wMix_any _ a _ rfl).mono ?_
    rintro _ _ ⟨rfl, rfl⟩
    obtain ⟨v1, zv1⟩ : ∃ v : UInt64, v = a * goldU := ⟨_, rfl⟩
    rw [← zv1]
    replace zv1 := Lib.hid zv1
    have c_B1_0 := hB1.out.cell 0 _ rfl
    have f_B1_0 := hB1.out.frz 0
    have l_B1 := hB1.out.lt
    go_wp2_with fail
    clear c_B1_0 f_B1_0 l_B1
    refine (wMix_any _ b _ rfl).mono ?_
    rintro _ _ ⟨rfl, rfl⟩
    obtain ⟨v2, zv2⟩ : ∃ v : UInt64, v = b * goldU := ⟨_, rfl⟩
    rw [← zv2]
    replace zv2 := Lib.hid zv2
    have d3 : decide (v2.toNat < v1.toNat) = false := decide_eq_false (by rw [zv1.out, zv2.out]; exact fun e => H3.out (UInt64.lt_iff_toNat_lt.2 e))
    have c_B1_0 := hB1.out.cell 0 _ rfl
    have f_B1_0 := hB1.out.frz 0
    have l_B1 := hB1.out.lt
    go_wp2_with fail
    clear c_B1_0 f_B1_0 l_B1
    obtain ⟨W4, hW4⟩ : ∃ W, W = W1.drew := ⟨_, rfl⟩
    replace hW4 := Lib.hid hW4
    have kn : Keeps Nil W1 W4 := by rw [hW4.out]; exact keeps_drew _
    replace hst := Lib.hid (hst.out.nil kn)
    replace hT := Lib.hid (hT.out.nil kn)
    replace hB1 := Lib.hid (hB1.out.nil kn)
    clear kn
    refine wp_region_held_drew (S := fun w' => w'.cell? ⟨B1, 0, none⟩ = some (.pointer (some ⟨t, 0, none⟩))) (by kernel_rfl) (by rw [← hW4.out]; exact hB1.out.cell 0 _ rfl) (fun hHeld => ?_)
    rw [← hW4.out] at hHeld ⊢
    refine wpAnyH_take (i := 0) (oi := _) (v := ?m58_v) rfl (by kernel_rfl) (by kernel_rfl) (by kernel_rfl) (fun _ _ _ h => h) (Or.inl ⟨by kernel_rfl, ?m58_h⟩) hHeld ?m58_r
    case m58_h => (intro w hSw; (try dsimp only at hSw); go_simp; try with_reducible rfl)
    try simp only [Act.put, List.getElem_toArray, List.getElem_cons_zero, List.setIfInBounds_toArray, List.set_cons_zero, List.set_cons_succ]
    refine wpAnyH_take (i := 1) (oi := _) (v := ?m59_v) rfl (by kernel_rfl) (by kernel_rfl) (by kernel_rfl) (fun _ _ _ h => h) (Or.inl ⟨by kernel_rfl, ?m59_h⟩) hHeld ?m59_r
    case m59_h => (intro w hSw; (try dsimp only at hSw); go_simp; try with_reducible rfl)
    try simp only [Act.put, List.getElem_toArray, List.getElem_cons_succ, List.getElem_cons_zero, List.setIfInBounds_toArray, List.set_cons_zero, List.set_cons_succ]
    refine wpAnyH_take (i := 2) (oi := _) (v := ?m60_v) rfl (by kernel_rfl) (by kernel_rfl) (by kernel_rfl) (fun _ _ _ h => h) (Or.inl ⟨by kernel_rfl, ?m60_h⟩) hHeld ?m60_r
    case m60_h => (intro w hSw; (try dsimp only at hSw); go_simp; try with_reducible rfl)
    try simp only [Act.put, List.getElem_toArray, List.getElem_cons_succ, List.getElem_cons_zero, List.setIfInBounds_toArray, List.set_cons_zero, List.set_cons_succ]
    obtain ⟨y1, zy1⟩ : ∃ y : UInt64, y = b + 8 := ⟨_, rfl⟩
    have q1 : IntKind.u64.wrap ((b.toNat : Int) + 8) = (y1.toNat : Int) := by rw [zy1]; exact u64_add b 8
    replace zy1 := Lib.hid zy1
    refine wpAnyH_take (i := 3) (oi := _) (v := ?m61_v) rfl (by kernel_rfl) (by kernel_rfl) (by kernel_rfl) (fun _ _ _ h => h) (Or.inl ⟨by kernel_rfl, ?m61_h⟩) hHeld ?m61_r
    case m61_h => (intro w hSw; (try dsimp only at hSw); go_simp; try with_reducible rfl)
    try simp only [Act.put, List.getElem_toArray, List.getElem_cons_succ, List.getElem_cons_zero, List.setIfInBounds_toArray, List.set_cons_zero, List.set_cons_succ]
    refine wpAnyH_take (i := 4) (oi := _) (v := ?m62_v) rfl (by kernel_rfl) (by kernel_rfl) (by kernel_rfl) (fun _ _ _ h => h) (Or.inl ⟨by kernel_rfl, ?m62_h⟩) hHeld ?m62_r
    case m62_h => (intro w hSw; (try dsimp only at hSw); go_simp; try with_reducible rfl)
    try simp only [Act.put, List.getElem_toArray, List.getElem_cons_succ, List.getElem_cons_zero, List.setIfInBounds_toArray, List.set_cons_zero, List.set_cons_succ]
    refine wpAnyH_take (i := 5) (oi := _) (v := ?m63_v) rfl (by kernel_rfl) (by kernel_rfl) (by kernel_rfl) (fun _ _ _ h => h) (Or.inl ⟨by kernel_rfl, ?m63_h⟩) hHeld ?m63_r
    case m63_h => (intro w hSw; (try dsimp only at hSw); go_simp; try with_reducible rfl)
    try simp only [Act.put, List.getElem_toArray, List.getElem_cons_succ, List.getElem_cons_zero, List.setIfInBounds_toArray, List.set_cons_zero, List.set_cons_succ]
    refine wpAnyH_take (i := 6) (oi := _) (v := ?m64_v) rfl (by kernel_rfl) (by kernel_rfl) (by kernel_rfl) (fun _ _ _ h => h) (Or.inl ⟨by kernel_rfl, ?m64_h⟩) hHeld ?m64_r
    case m64_h => (intro w hSw; (try dsimp only at hSw); go_simp; try with_reducible rfl)
    try simp only [Act.put, List.getElem_toArray, List.getElem_cons_succ, List.getElem_cons_zero, List.setIfInBounds_toArray, List.set_cons_zero, List.set_cons_succ]
    refine wpAnyH_take (i := 7) (oi := _) (v := ?m65_v) rfl (by kernel_rfl) (by kernel_rfl) (by kernel_rfl) (fun _ _ _ h => h) (Or.inl ⟨by kernel_rfl, ?m65_h⟩) hHeld ?m65_r
    case m65_h => (intro w hSw; (try dsimp only at hSw); go_simp; try with_reducible rfl)
    try simp only [Act.put, List.getElem_toArray, List.getElem_cons_succ, List.getElem_cons_zero, List.setIfInBounds_toArray, List.set_cons_zero, List.set_cons_succ]
    refine wpAnyH_take (i := 8) (oi := _) (v := ?m66_v) rfl (by kernel_rfl) (by kernel_rfl) (by kernel_rfl) (fun _ _ _ h => h) (Or.inl ⟨by kernel_rfl, ?m66_h⟩) hHeld ?m66_r
    case m66_h => (intro w hSw; (try dsimp only at hSw); go_simp; try with_reducible rfl)
    try simp only [Act.put, List.getElem_toArray, List.getElem_cons_succ, List.getElem_cons_zero, List.setIfInBounds_toArray, List.set_cons_zero, List.set_cons_succ]
    refine wpAnyH_take (i := 9) (oi := _) (v := ?m67_v) rfl (by kernel_rfl) (by kernel_rfl) (by kernel_rfl) (fun _ _ _ h => h) (Or.inl ⟨by kernel_rfl, ?m67_h⟩) hHeld ?m67_r
    case m67_h => (intro w hSw; (try dsimp only at hSw); go_simp; try with_reducible rfl)
    try simp only [Act.put, List.getElem_toArray, List.getElem_cons_succ, List.getElem_cons_zero, List.setIfInBounds_toArray, List.set_cons_zero, List.set_cons_succ]
    refine wpAnyH_ready (rs := [10]) (by kernel_rfl) (by simp) ?_
    refine (AllReadyH.cons (o := _) rfl (fun K hK => ?_) AllReadyH.nil)
    go_simp
    refine (hT.out.reads.loadC y1 _ rfl).mono ?_
    rintro _ W5 ⟨rfl, kn⟩
    replace hst := Lib.hid (hst.out.nil kn)
    replace hT := Lib.hid (hT.out.nil kn)
    replace hB1 := Lib.hid (hB1.out.nil kn)
    clear kn
    refine hK.out _ _ (hB1.out.cell 0 _ rfl) (fun hHeld => ?_)
    clear hK K
    try simp only [Act.put, List.getElem_toArray, List.getElem_cons_succ, List.getElem_cons_zero, List.setIfInBounds_toArray, List.set_cons_zero, List.set_cons_succ]
    refine wpAnyH_ready (rs := [11]) (by kernel_rfl) (by simp) ?_
    refine (AllReadyH.cons (o := _) rfl (fun K hK => ?_) AllReadyH.nil)
    go_simp
    have ih2 := @ih _ _ _ hT.out
    rw [← zy1.out] at ih2
    refine (ih2).mono ?_
    rintro _ W6 ⟨rfl, S1, hT2, kn⟩
    clear ih ih2
    replace hst := Lib.hid (hst.out.trans kn)
    replace hB1 := Lib.hid (hB1.out.steps kn)
    replace hT := Lib.hid hT2
    clear kn hT2
    refine hK.out _ _ (hB1.out.cell 0 _ rfl) (fun hHeld => ?_)
    clear hK K
    try simp only [Act.put, List.getElem_toArray, List.getElem_cons_succ, List.getElem_cons_zero, List.setIfInBounds_toArray, List.set_cons_zero, List.set_cons_succ]
    refine wpAnyH_ready (rs := [12]) (by kernel_rfl) (by simp) ?_
    refine (AllReadyH.cons (o := _) rfl (fun K hK => ?_) AllReadyH.nil)
    go_simp
    refine (hT.out.store y1 r _ _ rfl rfl).mono ?_
    rintro _ W7 ⟨rfl, S2, hT2, kn⟩
    replace hst := Lib.hid (hst.out.trans kn)
    replace hB1 := Lib.hid (hB1.out.steps kn)
    replace hT := Lib.hid hT2
    clear kn hT2
    refine hK.out _ _ (hB1.out.cell 0 _ rfl) (fun hHeld => ?_)
    clear hK K
    try simp only [Act.put, List.getElem_toArray, List.getElem_cons_succ, List.getElem_cons_zero, List.setIfInBounds_toArray, List.set_cons_zero, List.set_cons_succ]
    refine wpAnyH_done (by kernel_rfl) ?_ _
    clear hHeld
    have c_B1_0 := hB1.out.cell 0 _ rfl
    have f_B1_0 := hB1.out.frz 0
    have l_B1 := hB1.out.lt
    go_wp2_with fail
    go_ret
    clear c_B1_0 f_B1_0 l_B1
    have hT3 := hT.out
    rw [zy1.out] at hT3
    exact ⟨rfl, _, hT3, hst.out⟩
end Go.Proofs.YtefpbljekfkefaaGreat
