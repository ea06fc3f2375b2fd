/- TreeW: merged. -/
import Derived.Test.YtefpbljekfkefaaGreatM17
import Derived.Test.YtefpbljekfkefaaGreatM05
/- Package tree: compare, side, split, join, insert, remove. -/
namespace Go.Proofs.YtefpbljekfkefaaGreat
open Go.RowKit PT

/-- compare of two keys -/
def cmpK (a b c d : UInt64) : Int := or2 (cmp1 a c) (cmp1 b d)
theorem cmpK_lt (a b c d : UInt64) : decide (cmpK a b c d < 0) = ltK (a, b) (c, d) := by
  rw [Bool.eq_iff_iff, decide_eq_true_iff, ltK_iff]
  unfold cmpK or2 cmp1
  simp only
  by_cases h1 : a.toNat < c.toNat
  · rw [if_pos h1]; simp [h1]
  · rw [if_neg h1]
    by_cases h2 : c.toNat < a.toNat
    · rw [if_pos h2]; simp; omega
    · rw [if_neg h2, if_pos rfl]
      by_cases h3 : b.toNat < d.toNat
      · rw [if_pos h3]; simp; omega
      · rw [if_neg h3]
        by_cases h4 : d.toNat < b.toNat
        · rw [if_pos h4]; simp; omega
        · rw [if_neg h4]; simp; omega

set_option maxRecDepth 100000 in
set_option maxHeartbeats 4000000 in
theorem compare_any (w : World) (a b c d : UInt64) :
    Calls Tryz.prog 112 #[.agg #[.int .u64 (a.toNat : Int), .int .u64 (b.toNat : Int)], .agg #[.int .u64 (c.toNat : Int), .int .u64 (d.toNat : Int)]] w fun e w' => e = .returned (.int .i64 (cmpK a b c d)) ∧ Keeps Nil w w' := by
  obtain ⟨p, hp⟩ : ∃ p, p = cmp1 a c := ⟨_, rfl⟩
  obtain ⟨q, hq⟩ : ∃ q, q = cmp1 b d := ⟨_, rfl⟩
  have hr : cmpK a b c d = or2 p q := by unfold cmpK; rw [hp, hq]
  rw [hr]
  have HP := Lib.hid (And.intro hp hq)
  clear hp hq hr
  have hst := Lib.hid (Step.refl Nil w)
  go_enter Tryz.func112, Tryz.ntmps112
  obtain ⟨W1, hW1⟩ : ∃ W, W = w.alloc (.cells #[.int .u64 (a.toNat : Int), .int .u64 (b.toNat : Int)] 162) := ⟨_, rfl⟩
  obtain ⟨B1, eB1⟩ : ∃ B, B = w.heap.size := ⟨_, rfl⟩
  replace hW1 := Lib.hid hW1
  replace eB1 := Lib.hid eB1
  obtain ⟨W2, hW2⟩ : ∃ W, W = W1.alloc (.cells #[.int .u64 (c.toNat : Int), .int .u64 (d.toNat : Int)] 162) := ⟨_, rfl⟩
  obtain ⟨B2, eB2⟩ : ∃ B, B = w.heap.size + 1 := ⟨_, rfl⟩
  replace hW2 := Lib.hid hW2
  replace eB2 := Lib.hid eB2
  go_wp2_with fail
  rw [← hW1.out]
  rw [← hW2.out]
  try rw [← eB2.out]
  try rw [← eB1.out]
  have k1 : Keeps Nil w W1 := by rw [hW1.out]; exact alloc_keeps _ _
  have e0B1 : B1 = w.heap.size := by rw [eB1.out]
  have hB1 := Lib.hid (show Bx W1 Nil B1 #[.int .u64 (a.toNat : Int), .int .u64 (b.toNat : Int)] 162 by rw [hW1.out]; exact Bx.new Nil.lt _ _ e0B1)
  have gB1 := Lib.hid (show w.heap.size ≤ B1 by rw [e0B1]; exact hst.out.keeps.size)
  replace hst := Lib.hid (hst.out.nil k1)
  clear k1 e0B1
  have k2 : Keeps Nil W1 W2 := by rw [hW2.out]; exact alloc_keeps _ _
  have e0B2 : B2 = W1.heap.size := by rw [eB2.out, hW1.out]; simp []
  have hB2 := Lib.hid (show Bx W2 Nil B2 #[.int .u64 (c.toNat : Int), .int .u64 (d.toNat : Int)] 162 by rw [hW2.out]; exact Bx.new Nil.lt _ _ e0B2)
  have gB2 := Lib.hid (show w.heap.size ≤ B2 by rw [e0B2]; exact hst.out.keeps.size)
  have nB1B2 := Lib.hid (show B1 < B2 by rw [e0B2]; exact hB1.out.lt)
  replace hst := Lib.hid (hst.out.nil k2)
  replace hB1 := Lib.hid (hB1.out.nil k2)
  clear k2 e0B2
  obtain ⟨W3, hW3⟩ : ∃ W, W = W2.drew := ⟨_, rfl⟩
  replace hW3 := Lib.hid hW3
  have kn : Keeps Nil W2 W3 := by rw [hW3.out]; exact keeps_drew _
  replace hst := Lib.hid (hst.out.nil kn)
  replace hB1 := Lib.hid (hB1.out.nil kn)
  replace hB2 := Lib.hid (hB2.out.nil kn)
  clear kn
  refine wp_region_held_drew (S := fun w' => w'.cell? ⟨B1, 0, none⟩ = some (.int .u64 (a.toNat : Int)) ∧ w'.cell? ⟨B1, 1, none⟩ = some (.int .u64 (b.toNat : Int)) ∧ w'.cell? ⟨B2, 0, none⟩ = some (.int .u64 (c.toNat : Int)) ∧ w'.cell? ⟨B2, 1, none⟩ = some (.int .u64 (d.toNat : Int))) (by kernel_rfl) (by rw [← hW3.out]; exact ⟨hB1.out.cell 0 _ rfl, hB1.out.cell 1 _ rfl, hB2.out.cell 0 _ rfl, hB2.out.cell 1 _ rfl⟩) (fun hHeld => ?_)
  rw [← hW3.out] at hHeld ⊢
  refine wpAnyH_take (i := 0) (oi := _) (v := ?m1_v) rfl (by kernel_rfl) (by kernel_rfl) (by kernel_rfl) (fun _ _ _ h => h) (Or.inl ⟨by kernel_rfl, ?m1_h⟩) hHeld ?m1_r
  case m1_h => (intro w hSw; (try dsimp only at hSw); go_simp; try with_reducible rfl)
  try simp only [Act.put, List.getElem_toArray, List.getElem_cons_zero, List.setIfInBounds_toArray, List.set_cons_zero, List.set_cons_succ]
  refine wpAnyH_take (i := 1) (oi := _) (v := ?m2_v) rfl (by kernel_rfl) (by kernel_rfl) (by kernel_rfl) (fun _ _ _ h => h) (Or.inl ⟨by kernel_rfl, ?m2_h⟩) hHeld ?m2_r
  case m2_h => (intro w hSw; (try dsimp only at hSw); go_simp; try with_reducible rfl)
  try simp only [Act.put, List.getElem_toArray, List.getElem_cons_succ, List.getElem_cons_zero, List.setIfInBounds_toArray, List.set_cons_zero, List.set_cons_succ]
  refine wpAnyH_take (i := 2) (oi := _) (v := ?m3_v) rfl (by kernel_rfl) (by kernel_rfl) (by kernel_rfl) (fun _ _ _ h => h) (Or.inl ⟨by kernel_rfl, ?m3_h⟩) hHeld ?m3_r
  case m3_h => (intro w hSw; (try dsimp only at hSw); go_simp; try with_reducible rfl)
  try simp only [Act.put, List.getElem_toArray, List.getElem_cons_succ, List.getElem_cons_zero, List.setIfInBounds_toArray, List.set_cons_zero, List.set_cons_succ]
  refine wpAnyH_take (i := 3) (oi := _) (v := ?m4_v) rfl (by kernel_rfl) (by kernel_rfl) (by kernel_rfl) (fun _ _ _ h => h) (Or.inl ⟨by kernel_rfl, ?m4_h⟩) hHeld ?m4_r
  case m4_h => (intro w hSw; (try dsimp only at hSw); go_simp; try with_reducible rfl)
  try simp only [Act.put, List.getElem_toArray, List.getElem_cons_succ, List.getElem_cons_zero, List.setIfInBounds_toArray, List.set_cons_zero, List.set_cons_succ]
  refine wpAnyH_take (i := 5) (oi := _) (v := ?m5_v) rfl (by kernel_rfl) (by kernel_rfl) (by kernel_rfl) (fun _ _ _ h => h) (Or.inl ⟨by kernel_rfl, ?m5_h⟩) hHeld ?m5_r
  case m5_h => (intro w hSw; (try dsimp only at hSw); go_simp; try with_reducible rfl)
  try simp only [Act.put, List.getElem_toArray, List.getElem_cons_succ, List.getElem_cons_zero, List.setIfInBounds_toArray, List.set_cons_zero, List.set_cons_succ]
  refine wpAnyH_take (i := 6) (oi := _) (v := ?m6_v) rfl (by kernel_rfl) (by kernel_rfl) (by kernel_rfl) (fun _ _ _ h => h) (Or.inl ⟨by kernel_rfl, ?m6_h⟩) hHeld ?m6_r
  case m6_h => (intro w hSw; (try dsimp only at hSw); go_simp; try with_reducible rfl)
  try simp only [Act.put, List.getElem_toArray, List.getElem_cons_succ, List.getElem_cons_zero, List.setIfInBounds_toArray, List.set_cons_zero, List.set_cons_succ]
  refine wpAnyH_take (i := 7) (oi := _) (v := ?m7_v) rfl (by kernel_rfl) (by kernel_rfl) (by kernel_rfl) (fun _ _ _ h => h) (Or.inl ⟨by kernel_rfl, ?m7_h⟩) hHeld ?m7_r
  case m7_h => (intro w hSw; (try dsimp only at hSw); go_simp; try with_reducible rfl)
  try simp only [Act.put, List.getElem_toArray, List.getElem_cons_succ, List.getElem_cons_zero, List.setIfInBounds_toArray, List.set_cons_zero, List.set_cons_succ]
  refine wpAnyH_take (i := 8) (oi := _) (v := ?m8_v) rfl (by kernel_rfl) (by kernel_rfl) (by kernel_rfl) (fun _ _ _ h => h) (Or.inl ⟨by kernel_rfl, ?m8_h⟩) hHeld ?m8_r
  case m8_h => (intro w hSw; (try dsimp only at hSw); go_simp; try with_reducible rfl)
  try simp only [Act.put, List.getElem_toArray, List.getElem_cons_succ, List.getElem_cons_zero, List.setIfInBounds_toArray, List.set_cons_zero, List.set_cons_succ]
  refine wpAnyH_ready (rs := [4]) (by kernel_rfl) (by simp) ?_
  refine (AllReadyH.cons (o := _) rfl (fun K hK => ?_) AllReadyH.nil)
  go_simp
  refine (Compare_any _ a c).mono ?_
  rintro _ _ ⟨rfl, rfl⟩
  rw [← HP.out.1]
  refine hK.out _ _ (⟨hB1.out.cell 0 _ rfl, hB1.out.cell 1 _ rfl, hB2.out.cell 0 _ rfl, hB2.out.cell 1 _ rfl⟩) (fun hHeld => ?_)
  clear hK K
  try simp only [Act.put, List.getElem_toArray, List.getElem_cons_succ, List.getElem_cons_zero, List.setIfInBounds_toArray, List.set_cons_zero, List.set_cons_succ]
  refine wpAnyH_ready (rs := [9]) (by kernel_rfl) (by simp) ?_
  refine (AllReadyH.cons (o := _) rfl (fun K hK => ?_) AllReadyH.nil)
  go_simp
  refine (Compare_any _ b d).mono ?_
  rintro _ _ ⟨rfl, rfl⟩
  rw [← HP.out.2]
  refine hK.out _ _ (⟨hB1.out.cell 0 _ rfl, hB1.out.cell 1 _ rfl, hB2.out.cell 0 _ rfl, hB2.out.cell 1 _ rfl⟩) (fun hHeld => ?_)
  clear hK K
  try simp only [Act.put, List.getElem_toArray, List.getElem_cons_succ, List.getElem_cons_zero, List.setIfInBounds_toArray, List.set_cons_zero, List.set_cons_succ]
  refine wpAnyH_ready (rs := [10]) (by kernel_rfl) (by simp) ?_
  refine (AllReadyH.cons (o := _) rfl (fun K hK => ?_) AllReadyH.nil)
  have c_B1_0 := hB1.out.cell 0 _ rfl
  have f_B1_0 := hB1.out.frz 0
  have c_B1_1 := hB1.out.cell 1 _ rfl
  have f_B1_1 := hB1.out.frz 1
  have l_B1 := hB1.out.lt
  have c_B2_0 := hB2.out.cell 0 _ rfl
  have f_B2_0 := hB2.out.frz 0
  have c_B2_1 := hB2.out.cell 1 _ rfl
  have f_B2_1 := hB2.out.frz 1
  have l_B2 := hB2.out.lt
  obtain ⟨W6, hW6⟩ : ∃ W, W = W3.alloc (.cells #[.int .i64 p, .int .i64 q] 3) := ⟨_, rfl⟩
  obtain ⟨B3, eB3⟩ : ∃ B, B = W3.heap.size := ⟨_, rfl⟩
  replace hW6 := Lib.hid hW6
  replace eB3 := Lib.hid eB3
  go_simp
  clear c_B1_0 f_B1_0 c_B1_1 f_B1_1 l_B1 c_B2_0 f_B2_0 c_B2_1 f_B2_1 l_B2
  rw [← hW6.out]
  try rw [← eB3.out]
  have k3 : Keeps Nil W3 W6 := by rw [hW6.out]; exact alloc_keeps _ _
  have e0B3 : B3 = W3.heap.size := by rw [eB3.out]
  have hB3 := Lib.hid (show Bx W6 Nil B3 #[.int .i64 p, .int .i64 q] 3 by rw [hW6.out]; exact Bx.new Nil.lt _ _ e0B3)
  have gB3 := Lib.hid (show w.heap.size ≤ B3 by rw [e0B3]; exact hst.out.keeps.size)
  have nB1B3 := Lib.hid (show B1 < B3 by rw [e0B3]; exact hB1.out.lt)
  have nB2B3 := Lib.hid (show B2 < B3 by rw [e0B3]; exact hB2.out.lt)
  replace hst := Lib.hid (hst.out.nil k3)
  replace hB1 := Lib.hid (hB1.out.nil k3)
  replace hB2 := Lib.hid (hB2.out.nil k3)
  clear k3 e0B3
  refine hK.out _ _ (⟨hB1.out.cell 0 _ rfl, hB1.out.cell 1 _ rfl, hB2.out.cell 0 _ rfl, hB2.out.cell 1 _ rfl⟩) (fun hHeld => ?_)
  clear hK K
  try simp only [Act.put, List.getElem_toArray, List.getElem_cons_succ, List.getElem_cons_zero, List.setIfInBounds_toArray, List.set_cons_zero, List.set_cons_succ]
  refine wpAnyH_ready (rs := [11]) (by kernel_rfl) (by simp) ?_
  refine (AllReadyH.cons (o := _) rfl (fun K hK => ?_) AllReadyH.nil)
  go_simp
  refine (Or_any _ _ p q (hB3.out.cell 0 _ rfl) (hB3.out.cell 1 _ rfl)).mono ?_
  rintro _ _ ⟨rfl, rfl⟩
  refine hK.out _ _ (⟨hB1.out.cell 0 _ rfl, hB1.out.cell 1 _ rfl, hB2.out.cell 0 _ rfl, hB2.out.cell 1 _ rfl⟩) (fun hHeld => ?_)
  clear hK K
  try simp only [Act.put, List.getElem_toArray, List.getElem_cons_succ, List.getElem_cons_zero, List.setIfInBounds_toArray, List.set_cons_zero, List.set_cons_succ]
  refine wpAnyH_take (i := 12) (oi := _) (v := ?m9_v) rfl (by kernel_rfl) (by kernel_rfl) (by kernel_rfl) (fun _ _ _ h => h) (Or.inl ⟨by kernel_rfl, ?m9_h⟩) hHeld ?m9_r
  case m9_h => (intro w hSw; (try dsimp only at hSw); go_simp; try with_reducible rfl)
  try simp only [Act.put, List.getElem_toArray, List.getElem_cons_succ, List.getElem_cons_zero, List.setIfInBounds_toArray, List.set_cons_zero, List.set_cons_succ]
  refine wpAnyH_done (by kernel_rfl) ?_ _
  clear hHeld
  have c_B1_0 := hB1.out.cell 0 _ rfl
  have f_B1_0 := hB1.out.frz 0
  have c_B1_1 := hB1.out.cell 1 _ rfl
  have f_B1_1 := hB1.out.frz 1
  have l_B1 := hB1.out.lt
  have c_B2_0 := hB2.out.cell 0 _ rfl
  have f_B2_0 := hB2.out.frz 0
  have c_B2_1 := hB2.out.cell 1 _ rfl
  have f_B2_1 := hB2.out.frz 1
  have l_B2 := hB2.out.lt
  have c_B3_0 := hB3.out.cell 0 _ rfl
  have f_B3_0 := hB3.out.frz 0
  have c_B3_1 := hB3.out.cell 1 _ rfl
  have f_B3_1 := hB3.out.frz 1
  have l_B3 := hB3.out.lt
  go_wp2_with fail
  go_ret
  clear c_B1_0 f_B1_0 c_B1_1 f_B1_1 l_B1 c_B2_0 f_B2_0 c_B2_1 f_B2_1 l_B2 c_B3_0 f_B3_0 c_B3_1 f_B3_1 l_B3
  exact ⟨rfl, hst.out.keeps⟩
set_option maxRecDepth 100000 in
set_option maxHeartbeats 4000000 in
theorem side_any {a : Option Addr} {f : UInt64 → UInt64} {N : Nat} {w : World} (h : Reads (.pointer a) f N w) (at_ ks ko : UInt64) :
    Calls Tryz.prog 111 #[.agg #[.pointer a], .int .u64 (at_.toNat : Int), .agg #[.int .u64 (ks.toNat : Int), .int .u64 (ko.toNat : Int)]] w fun e w' => e = .returned (.int .u64 ((sideF (fun x => (unpackT x).size) f at_ (ks, ko)).toNat : Int)) ∧ Keeps Nil w w' := by
  have hT := Lib.hid h
  clear h
  unfold sideF
  cases hc : ltK (ks, ko) (keyF (fun x => (unpackT x).size) f at_) with
  | true =>
    have hd : decide (cmpK ks ko (sizeF f at_) at_ < 0) = true := by rw [cmpK_lt]; exact hc
    clear hc
    have hst := Lib.hid (Step.refl Nil w)
    go_enter Tryz.func111, Tryz.ntmps111
    obtain ⟨W1, hW1⟩ : ∃ W, W = w.alloc (.cells #[.pointer a] 153) := ⟨_, rfl⟩
    obtain ⟨B1, eB1⟩ : ∃ B, B = w.heap.size := ⟨_, rfl⟩
    replace hW1 := Lib.hid hW1
    replace eB1 := Lib.hid eB1
    obtain ⟨W2, hW2⟩ : ∃ W, W = W1.alloc (.cells #[.int .u64 (ks.toNat : Int), .int .u64 (ko.toNat : Int)] 162) := ⟨_, rfl⟩
    obtain ⟨B2, eB2⟩ : ∃ B, B = w.heap.size + 1 := ⟨_, rfl⟩
    replace hW2 := Lib.hid hW2
    replace eB2 := Lib.hid eB2
    go_wp2_with fail
    rw [← hW1.out]
    rw [← hW2.out]
    try rw [← eB2.out]
    try rw [← eB1.out]
    have k1 : Keeps Nil w W1 := by rw [hW1.out]; exact alloc_keeps _ _
    have e0B1 : B1 = w.heap.size := by rw [eB1.out]
    have hB1 := Lib.hid (show Bx W1 Nil B1 #[.pointer a] 153 by rw [hW1.out]; exact Bx.new Nil.lt _ _ e0B1)
    have gB1 := Lib.hid (show w.heap.size ≤ B1 by rw [e0B1]; exact hst.out.keeps.size)
    replace hst := Lib.hid (hst.out.nil k1)
    clear k1 e0B1
    have k2 : Keeps Nil W1 W2 := by rw [hW2.out]; exact alloc_keeps _ _
    have e0B2 : B2 = W1.heap.size := by rw [eB2.out, hW1.out]; simp []
    have hB2 := Lib.hid (show Bx W2 Nil B2 #[.int .u64 (ks.toNat : Int), .int .u64 (ko.toNat : Int)] 162 by rw [hW2.out]; exact Bx.new Nil.lt _ _ e0B2)
    have gB2 := Lib.hid (show w.heap.size ≤ B2 by rw [e0B2]; exact hst.out.keeps.size)
    have nB1B2 := Lib.hid (show B1 < B2 by rw [e0B2]; exact hB1.out.lt)
    replace hst := Lib.hid (hst.out.nil k2)
    replace hB1 := Lib.hid (hB1.out.nil k2)
    clear k2 e0B2
    obtain ⟨W3, hW3⟩ : ∃ W, W = W2.drew := ⟨_, rfl⟩
    replace hW3 := Lib.hid hW3
    have kn : Keeps Nil W2 W3 := by rw [hW3.out]; exact keeps_drew _
    replace hst := Lib.hid (hst.out.nil kn)
    replace hB1 := Lib.hid (hB1.out.nil kn)
    replace hB2 := Lib.hid (hB2.out.nil kn)
    clear kn
    refine wp_region_held_drew (S := fun w' => w'.cell? ⟨B1, 0, none⟩ = some (.pointer a) ∧ w'.cell? ⟨B2, 0, none⟩ = some (.int .u64 (ks.toNat : Int)) ∧ w'.cell? ⟨B2, 1, none⟩ = some (.int .u64 (ko.toNat : Int))) (by kernel_rfl) (by rw [← hW3.out]; exact ⟨hB1.out.cell 0 _ rfl, hB2.out.cell 0 _ rfl, hB2.out.cell 1 _ rfl⟩) (fun hHeld => ?_)
    rw [← hW3.out] at hHeld ⊢
    refine wpAnyH_take (i := 0) (oi := _) (v := ?m10_v) rfl (by kernel_rfl) (by kernel_rfl) (by kernel_rfl) (fun _ _ _ h => h) (Or.inl ⟨by kernel_rfl, ?m10_h⟩) hHeld ?m10_r
    case m10_h => (intro w hSw; (try dsimp only at hSw); go_simp; try with_reducible rfl)
    try simp only [Act.put, List.getElem_toArray, List.getElem_cons_zero, List.setIfInBounds_toArray, List.set_cons_zero, List.set_cons_succ]
    refine wpAnyH_take (i := 1) (oi := _) (v := ?m11_v) rfl (by kernel_rfl) (by kernel_rfl) (by kernel_rfl) (fun _ _ _ h => h) (Or.inl ⟨by kernel_rfl, ?m11_h⟩) hHeld ?m11_r
    case m11_h => (intro w hSw; (try dsimp only at hSw); go_simp; try with_reducible rfl)
    try simp only [Act.put, List.getElem_toArray, List.getElem_cons_succ, List.getElem_cons_zero, List.setIfInBounds_toArray, List.set_cons_zero, List.set_cons_succ]
    refine wpAnyH_take (i := 2) (oi := _) (v := ?m12_v) rfl (by kernel_rfl) (by kernel_rfl) (by kernel_rfl) (fun _ _ _ h => h) (Or.inl ⟨by kernel_rfl, ?m12_h⟩) hHeld ?m12_r
    case m12_h => (intro w hSw; (try dsimp only at hSw); go_simp; try with_reducible rfl)
    try simp only [Act.put, List.getElem_toArray, List.getElem_cons_succ, List.getElem_cons_zero, List.setIfInBounds_toArray, List.set_cons_zero, List.set_cons_succ]
    refine wpAnyH_ready (rs := [3]) (by kernel_rfl) (by simp) ?_
    refine (AllReadyH.cons (o := _) rfl (fun K hK => ?_) AllReadyH.nil)
    go_simp
    refine (key_any (hT.out.keeps hst.out.keeps) at_ _ rfl).mono ?_
    rintro _ W4 ⟨rfl, kn⟩
    replace hst := Lib.hid (hst.out.nil kn)
    replace hB1 := Lib.hid (hB1.out.nil kn)
    replace hB2 := Lib.hid (hB2.out.nil kn)
    clear kn
    refine hK.out _ _ (⟨hB1.out.cell 0 _ rfl, hB2.out.cell 0 _ rfl, hB2.out.cell 1 _ rfl⟩) (fun hHeld => ?_)
    clear hK K
    try simp only [Act.put, List.getElem_toArray, List.getElem_cons_succ, List.getElem_cons_zero, List.setIfInBounds_toArray, List.set_cons_zero, List.set_cons_succ]
    refine wpAnyH_ready (rs := [4]) (by kernel_rfl) (by simp) ?_
    refine (AllReadyH.cons (o := _) rfl (fun K hK => ?_) AllReadyH.nil)
    go_simp
    refine (compare_any W4 ks ko (sizeF f at_) at_).mono ?_
    rintro _ W5 ⟨rfl, kn⟩
    replace hst := Lib.hid (hst.out.nil kn)
    replace hB1 := Lib.hid (hB1.out.nil kn)
    replace hB2 := Lib.hid (hB2.out.nil kn)
    clear kn
    refine hK.out _ _ (⟨hB1.out.cell 0 _ rfl, hB2.out.cell 0 _ rfl, hB2.out.cell 1 _ rfl⟩) (fun hHeld => ?_)
    clear hK K
    try simp only [Act.put, List.getElem_toArray, List.getElem_cons_succ, List.getElem_cons_zero, List.setIfInBounds_toArray, List.set_cons_zero, List.set_cons_succ]
    refine wpAnyH_take (i := 5) (oi := _) (v := ?m13_v) rfl (by kernel_rfl) (by kernel_rfl) (by kernel_rfl) (fun _ _ _ h => h) (Or.inl ⟨by kernel_rfl, ?m13_h⟩) hHeld ?m13_r
    case m13_h => (intro w hSw; (try dsimp only at hSw); go_simp; try with_reducible rfl)
    try simp only [Act.put, List.getElem_toArray, List.getElem_cons_succ, List.getElem_cons_zero, List.setIfInBounds_toArray, List.set_cons_zero, List.set_cons_succ]
    refine wpAnyH_done (by kernel_rfl) ?_ _
    clear hHeld
    obtain ⟨y1, zy1⟩ : ∃ y : UInt64, y = at_ + 8 := ⟨_, rfl⟩
    have q1 : IntKind.u64.wrap ((at_.toNat : Int) + 8) = (y1.toNat : Int) := by rw [zy1]; exact u64_add at_ 8
    replace zy1 := Lib.hid zy1
    have c_B1_0 := hB1.out.cell 0 _ rfl
    have f_B1_0 := hB1.out.frz 0
    have l_B1 := hB1.out.lt
    have c_B2_0 := hB2.out.cell 0 _ rfl
    have f_B2_0 := hB2.out.frz 0
    have c_B2_1 := hB2.out.cell 1 _ rfl
    have f_B2_1 := hB2.out.frz 1
    have l_B2 := hB2.out.lt
    go_wp2_with fail
    go_ret
    clear c_B1_0 f_B1_0 l_B1 c_B2_0 f_B2_0 c_B2_1 f_B2_1 l_B2
    exact ⟨by rw [zy1.out]; rfl, hst.out.keeps⟩
  | false =>
    have hd : decide (cmpK ks ko (sizeF f at_) at_ < 0) = false := by rw [cmpK_lt]; exact hc
    clear hc
    have hst := Lib.hid (Step.refl Nil w)
    go_enter Tryz.func111, Tryz.ntmps111
    obtain ⟨W1, hW1⟩ : ∃ W, W = w.alloc (.cells #[.pointer a] 153) := ⟨_, rfl⟩
    obtain ⟨B1, eB1⟩ : ∃ B, B = w.heap.size := ⟨_, rfl⟩
    replace hW1 := Lib.hid hW1
    replace eB1 := Lib.hid eB1
    obtain ⟨W2, hW2⟩ : ∃ W, W = W1.alloc (.cells #[.int .u64 (ks.toNat : Int), .int .u64 (ko.toNat : Int)] 162) := ⟨_, rfl⟩
    obtain ⟨B2, eB2⟩ : ∃ B, B = w.heap.size + 1 := ⟨_, rfl⟩
    replace hW2 := Lib.hid hW2
    replace eB2 := Lib.hid eB2
    go_wp2_with fail
    rw [← hW1.out]
    rw [← hW2.out]
    try rw [← eB2.out]
    try rw [← eB1.out]
    have k1 : Keeps Nil w W1 := by rw [hW1.out]; exact alloc_keeps _ _
    have e0B1 : B1 = w.heap.size := by rw [eB1.out]
    have hB1 := Lib.hid (show Bx W1 Nil B1 #[.pointer a] 153 by rw [hW1.out]; exact Bx.new Nil.lt _ _ e0B1)
    have gB1 := Lib.hid (show w.heap.size ≤ B1 by rw [e0B1]; exact hst.out.keeps.size)
    replace hst := Lib.hid (hst.out.nil k1)
    clear k1 e0B1
    have k2 : Keeps Nil W1 W2 := by rw [hW2.out]; exact alloc_keeps _ _
    have e0B2 : B2 = W1.heap.size := by rw [eB2.out, hW1.out]; simp []
    have hB2 := Lib.hid (show Bx W2 Nil B2 #[.int .u64 (ks.toNat : Int), .int .u64 (ko.toNat : Int)] 162 by rw [hW2.out]; exact Bx.new Nil.lt _ _ e0B2)
    have gB2 := Lib.hid (show w.heap.size ≤ B2 by rw [e0B2]; exact hst.out.keeps.size)
    have nB1B2 := Lib.hid (show B1 < B2 by rw [e0B2]; exact hB1.out.lt)
    replace hst := Lib.hid (hst.out.nil k2)
    replace hB1 := Lib.hid (hB1.out.nil k2)
    clear k2 e0B2
    obtain ⟨W3, hW3⟩ : ∃ W, W = W2.drew := ⟨_, rfl⟩
    replace hW3 := Lib.hid hW3
    have kn : Keeps Nil W2 W3 := by rw [hW3.out]; exact keeps_drew _
    replace hst := Lib.hid (hst.out.nil kn)
    replace hB1 := Lib.hid (hB1.out.nil kn)
    replace hB2 := Lib.hid (hB2.out.nil kn)
    clear kn
    refine wp_region_held_drew (S := fun w' => w'.cell? ⟨B1, 0, none⟩ = some (.pointer a) ∧ w'.cell? ⟨B2, 0, none⟩ = some (.int .u64 (ks.toNat : Int)) ∧ w'.cell? ⟨B2, 1, none⟩ = some (.int .u64 (ko.toNat : Int))) (by kernel_rfl) (by rw [← hW3.out]; exact ⟨hB1.out.cell 0 _ rfl, hB2.out.cell 0 _ rfl, hB2.out.cell 1 _ rfl⟩) (fun hHeld => ?_)
    rw [← hW3.out] at hHeld ⊢
    refine wpAnyH_take (i := 0) (oi := _) (v := ?m14_v) rfl (by kernel_rfl) (by kernel_rfl) (by kernel_rfl) (fun _ _ _ h => h) (Or.inl ⟨by kernel_rfl, ?m14_h⟩) hHeld ?m14_r
    case m14_h => (intro w hSw; (try dsimp only at hSw); go_simp; try with_reducible rfl)
    try simp only [Act.put, List.getElem_toArray, List.getElem_cons_zero, List.setIfInBounds_toArray, List.set_cons_zero, List.set_cons_succ]
    refine wpAnyH_take (i := 1) (oi := _) (v := ?m15_v) rfl (by kernel_rfl) (by kernel_rfl) (by kernel_rfl) (fun _ _ _ h => h) (Or.inl ⟨by kernel_rfl, ?m15_h⟩) hHeld ?m15_r
    case m15_h => (intro w hSw; (try dsimp only at hSw); go_simp; try with_reducible rfl)
    try simp only [Act.put, List.getElem_toArray, List.getElem_cons_succ, List.getElem_cons_zero, List.setIfInBounds_toArray, List.set_cons_zero, List.set_cons_succ]
    refine wpAnyH_take (i := 2) (oi := _) (v := ?m16_v) rfl (by kernel_rfl) (by kernel_rfl) (by kernel_rfl) (fun _ _ _ h => h) (Or.inl ⟨by kernel_rfl, ?m16_h⟩) hHeld ?m16_r
    case m16_h => (intro w hSw; (try dsimp only at hSw); go_simp; try with_reducible rfl)
    try simp only [Act.put, List.getElem_toArray, List.getElem_cons_succ, List.getElem_cons_zero, List.setIfInBounds_toArray, List.set_cons_zero, List.set_cons_succ]
    refine wpAnyH_ready (rs := [3]) (by kernel_rfl) (by simp) ?_
    refine (AllReadyH.cons (o := _) rfl (fun K hK => ?_) AllReadyH.nil)
    go_simp
    refine (key_any (hT.out.keeps hst.out.keeps) at_ _ rfl).mono ?_
    rintro _ W4 ⟨rfl, kn⟩
    replace hst := Lib.hid (hst.out.nil kn)
    replace hB1 := Lib.hid (hB1.out.nil kn)
    replace hB2 := Lib.hid (hB2.out.nil kn)
    clear kn
    refine hK.out _ _ (⟨hB1.out.cell 0 _ rfl, hB2.out.cell 0 _ rfl, hB2.out.cell 1 _ rfl⟩) (fun hHeld => ?_)
    clear hK K
    try simp only [Act.put, List.getElem_toArray, List.getElem_cons_succ, List.getElem_cons_zero, List.setIfInBounds_toArray, List.set_cons_zero, List.set_cons_succ]
    refine wpAnyH_ready (rs := [4]) (by kernel_rfl) (by simp) ?_
    refine (AllReadyH.cons (o := _) rfl (fun K hK => ?_) AllReadyH.nil)
    go_simp
    refine (compare_any W4 ks ko (sizeF f at_) at_).mono ?_
    rintro _ W5 ⟨rfl, kn⟩
    replace hst := Lib.hid (hst.out.nil kn)
    replace hB1 := Lib.hid (hB1.out.nil kn)
    replace hB2 := Lib.hid (hB2.out.nil kn)
    clear kn
    refine hK.out _ _ (⟨hB1.out.cell 0 _ rfl, hB2.out.cell 0 _ rfl, hB2.out.cell 1 _ rfl⟩) (fun hHeld => ?_)
    clear hK K
    try simp only [Act.put, List.getElem_toArray, List.getElem_cons_succ, List.getElem_cons_zero, List.setIfInBounds_toArray, List.set_cons_zero, List.set_cons_succ]
    refine wpAnyH_take (i := 5) (oi := _) (v := ?m17_v) rfl (by kernel_rfl) (by kernel_rfl) (by kernel_rfl) (fun _ _ _ h => h) (Or.inl ⟨by kernel_rfl, ?m17_h⟩) hHeld ?m17_r
    case m17_h => (intro w hSw; (try dsimp only at hSw); go_simp; try with_reducible rfl)
    try simp only [Act.put, List.getElem_toArray, List.getElem_cons_succ, List.getElem_cons_zero, List.setIfInBounds_toArray, List.set_cons_zero, List.set_cons_succ]
    refine wpAnyH_done (by kernel_rfl) ?_ _
    clear hHeld
    obtain ⟨y1, zy1⟩ : ∃ y : UInt64, y = at_ + 16 := ⟨_, rfl⟩
    have q1 : IntKind.u64.wrap ((at_.toNat : Int) + 16) = (y1.toNat : Int) := by rw [zy1]; exact u64_add at_ 16
    replace zy1 := Lib.hid zy1
    have c_B1_0 := hB1.out.cell 0 _ rfl
    have f_B1_0 := hB1.out.frz 0
    have l_B1 := hB1.out.lt
    have c_B2_0 := hB2.out.cell 0 _ rfl
    have f_B2_0 := hB2.out.frz 0
    have c_B2_1 := hB2.out.cell 1 _ rfl
    have f_B2_1 := hB2.out.frz 1
    have l_B2 := hB2.out.lt
    go_wp2_with fail
    go_ret
    clear c_B1_0 f_B1_0 l_B1 c_B2_0 f_B2_0 c_B2_1 f_B2_1 l_B2
    exact ⟨by rw [zy1.out]; rfl, hst.out.keeps⟩
end Go.Proofs.YtefpbljekfkefaaGreat
