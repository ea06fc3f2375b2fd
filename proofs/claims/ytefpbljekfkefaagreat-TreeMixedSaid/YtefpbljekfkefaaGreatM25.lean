/- TreeAf, Formed07: merged. -/
import Derived.Test.YtefpbljekfkefaaGreatM19
import Derived.Test.YtefpbljekfkefaaGreatM05
import Derived.Test.YtefpbljekfkefaaGreatM08
/- Package tree: After. -/
namespace Go.Proofs.YtefpbljekfkefaaGreat
open Go.RowKit PT

/-- how many steps are left -/
theorem aft_same {f : UInt64 → UInt64} {k : UInt64 × UInt64} {a b r : UInt64} {d : Nat} (h : AftR szU f k a b r d) : ∀ {b' r' : UInt64} {d' : Nat}, AftR szU f k a b' r' d' → d = d' := by
  induction h with
  | nil => intro b' r' d' h'; cases h' with
    | nil => rfl
    | step h => exact absurd rfl h
  | step h0 _ ih => intro b' r' d' h'; cases h' with
    | nil => exact absurd rfl h0
    | step _ h1 => rw [ih h1]
open Classical in
noncomputable def aftM (f : UInt64 → UInt64) (k : UInt64 × UInt64) (a : UInt64) : Nat := if h : ∃ d b r, AftR szU f k a b r d then Classical.choose h else 0
theorem aftM_eq {f : UInt64 → UInt64} {k : UInt64 × UInt64} {a b r : UInt64} {d : Nat} (h : AftR szU f k a b r d) : aftM f k a = d := by
  have hx : ∃ d b r, AftR szU f k a b r d := ⟨d, b, r, h⟩
  unfold aftM
  rw [dif_pos hx]
  obtain ⟨b', r', h'⟩ := Classical.choose_spec hx
  exact (aft_same h h').symm
theorem aftM_less {f : UInt64 → UInt64} {k : UInt64 × UInt64} {a b r a' b' r' : UInt64} {d : Nat} (h : AftR szU f k a b r (d + 1)) (h' : AftR szU f k a' b' r' d) :
    aftM f k (UInt64.ofNat (intOf (.int .u64 (a'.toNat : Int))).toNat) < aftM f k (UInt64.ofNat (intOf (.int .u64 (a.toNat : Int))).toNat) := by
  have e : ∀ x : UInt64, UInt64.ofNat (intOf (.int .u64 (x.toNat : Int))).toNat = x := fun x => by simp [intOf]
  rw [e, e, aftM_eq h, aftM_eq h']
  exact Nat.lt_succ_self _
theorem neq0 (r : UInt64) : ((r.toNat : Int) != 0) = (r != 0) := by
  rw [Bool.eq_iff_iff, bne_iff_ne, bne_iff_ne]
  exact not_congr ⟨fun e => UInt64.toNat_inj.1 (by rw [UInt64.toNat_zero]; omega), fun e => by rw [e]; rfl⟩
theorem key_lt2 (f : UInt64 → UInt64) (at_ ks ko : UInt64) : decide (cmpK ks ko (sizeF f at_) at_ < 0) = ltK (ks, ko) (keyF szU f at_) := cmpK_lt _ _ _ _

set_option maxRecDepth 100000 in
set_option maxHeartbeats 4000000 in
theorem After_any {a : Option Addr} {f : UInt64 → UInt64} {N : Nat} {w : World} (h : Reads (.pointer a) f N w) (size off : UInt64) {r : UInt64} {d : Nat} (hA : AftR szU f (size, off) (f 32) 0 r d) :
    Calls Tryz.prog 55 #[.pointer a, .int .u64 (size.toNat : Int), .int .u64 (off.toNat : Int)] w fun e w' => e = .returned (.tuple #[.int .u64 (r.toNat : Int), .bool (r != 0)]) ∧ Keeps Nil w w' := by
  have hT := Lib.hid h
  have HA := Lib.hid hA
  clear h hA
  have hst := Lib.hid (Step.refl Nil w)
  go_enter Tryz.func55, Tryz.ntmps55
  obtain ⟨W1, hW1⟩ : ∃ W, W = w.alloc (.cells #[.pointer a] 153) := ⟨_, rfl⟩
  obtain ⟨B1, eB1⟩ : ∃ B, B = w.heap.size := ⟨_, rfl⟩
  replace hW1 := Lib.hid hW1
  replace eB1 := Lib.hid eB1
  obtain ⟨W2, hW2⟩ : ∃ W, W = W1.alloc (.cells #[.int .u64 (size.toNat : Int), .int .u64 (off.toNat : Int)] 162) := ⟨_, rfl⟩
  obtain ⟨B2, eB2⟩ : ∃ B, B = w.heap.size + 1 := ⟨_, rfl⟩
  replace hW2 := Lib.hid hW2
  replace eB2 := Lib.hid eB2
  go_wp2_with fail
  rw [← hW1.out]
  rw [← hW2.out]
  try rw [← eB2.out]
  try rw [← eB1.out]
  have k1 : Keeps Nil w W1 := by rw [hW1.out]; exact alloc_keeps _ _
  have e0B1 : B1 = w.heap.size := by rw [eB1.out]
  have hB1 := Lib.hid (show Bx W1 Nil B1 #[.pointer a] 153 by rw [hW1.out]; exact Bx.new Nil.lt _ _ e0B1)
  have gB1 := Lib.hid (show w.heap.size ≤ B1 by rw [e0B1]; exact hst.out.keeps.size)
  replace hst := Lib.hid (hst.out.nil k1)
  clear k1 e0B1
  have k2 : Keeps Nil W1 W2 := by rw [hW2.out]; exact alloc_keeps _ _
  have e0B2 : B2 = W1.heap.size := by rw [eB2.out, hW1.out]; simp []
  have hB2 := Lib.hid (show Bx W2 Nil B2 #[.int .u64 (size.toNat : Int), .int .u64 (off.toNat : Int)] 162 by rw [hW2.out]; exact Bx.new Nil.lt _ _ e0B2)
  have gB2 := Lib.hid (show w.heap.size ≤ B2 by rw [e0B2]; exact hst.out.keeps.size)
  have nB1B2 := Lib.hid (show B1 < B2 by rw [e0B2]; exact hB1.out.lt)
  replace hst := Lib.hid (hst.out.nil k2)
  replace hB1 := Lib.hid (hB1.out.nil k2)
  clear k2 e0B2
  refine (hRoot_any (hT.out.keeps hst.out.keeps)).mono ?_
  rintro _ W3 ⟨rfl, kn⟩
  replace hst := Lib.hid (hst.out.nil kn)
  replace hB1 := Lib.hid (hB1.out.nil kn)
  replace hB2 := Lib.hid (hB2.out.nil kn)
  clear kn
  have c_B1_0 := hB1.out.cell 0 _ rfl
  have f_B1_0 := hB1.out.frz 0
  have l_B1 := hB1.out.lt
  have c_B2_0 := hB2.out.cell 0 _ rfl
  have f_B2_0 := hB2.out.frz 0
  have c_B2_1 := hB2.out.cell 1 _ rfl
  have f_B2_1 := hB2.out.frz 1
  have l_B2 := hB2.out.lt
  go_wp2_with fail
  clear c_B1_0 f_B1_0 l_B1 c_B2_0 f_B2_0 c_B2_1 f_B2_1 l_B2
  go_loopw [10, 11] (fun best at_ wr => ((∃ (x b : UInt64) (m : Nat), best = .int .u64 (b.toNat : Int) ∧ at_ = .int .u64 (x.toNat : Int) ∧ Hid (AftR szU f (size, off) x b r m) ∧ Hid (Step Nil Nil w wr)) ∧ Hid (Bx wr Nil B1 #[.pointer a] 153)) ∧ Hid (Bx wr Nil B2 #[.int .u64 (size.toNat : Int), .int .u64 (off.toNat : Int)] 162)) (fun best at_ _ => aftM f (size, off) (UInt64.ofNat (intOf at_).toNat))
  case atStart => exact ⟨⟨⟨_, 0, d, rfl, rfl, HA, hst⟩, hB1⟩, hB2⟩
  case round =>
    clear hB2
    obtain ⟨hrel, hB2⟩ := hrel
    clear hB1
    obtain ⟨hrel, hB1⟩ := hrel
    clear hst HA
    obtain ⟨x, b, m, rfl, rfl, HA, hst⟩ := hrel
    by_cases hx : x ≠ 0
    · have HX := Lib.hid hx
      obtain ⟨m, rfl⟩ : ∃ k, m = k + 1 := by
          cases HA.out with
          | nil => exact absurd rfl hx
          | step _ _ => exact ⟨_, rfl⟩
      have hn := Lib.hid (show AftR szU f (size, off) (f (sideF szU f x (size, off))) (if ltK (size, off) (keyF szU f x) then x else b) r m by cases HA.out with | step _ h => exact h)
      clear hx
      obtain ⟨c, hc⟩ : ∃ c, cmpK size off (sizeF f x) x = c := ⟨_, rfl⟩
      have h9 := key_lt2 f x size off
      rw [hc] at h9
      cases hl : ltK (size, off) (keyF szU f x) with
      | true =>
        have hd : decide (c < 0) = true := by rw [h9, hl]
        rw [hl] at hn
        have HL := Lib.hid hl
        clear hl h9
        have d1 : (((x.toNat : Int) : Int) != (0 : Int)) = true := (unlike_u64 (a := x) (b := 0) (HX.out)).1
        have c_B1_0 := hB1.out.cell 0 _ rfl
        have f_B1_0 := hB1.out.frz 0
        have l_B1 := hB1.out.lt
        have c_B2_0 := hB2.out.cell 0 _ rfl
        have f_B2_0 := hB2.out.frz 0
        have c_B2_1 := hB2.out.cell 1 _ rfl
        have f_B2_1 := hB2.out.frz 1
        have l_B2 := hB2.out.lt
        go_wp2_with fail
        clear c_B1_0 f_B1_0 l_B1 c_B2_0 f_B2_0 c_B2_1 f_B2_1 l_B2
        obtain ⟨W4, hW4⟩ : ∃ W, W = wr.drew := ⟨_, rfl⟩
        replace hW4 := Lib.hid hW4
        have kn : Keeps Nil wr W4 := by rw [hW4.out]; exact keeps_drew _
        replace hst := Lib.hid (hst.out.nil kn)
        replace hB1 := Lib.hid (hB1.out.nil kn)
        replace hB2 := Lib.hid (hB2.out.nil kn)
        clear kn
        refine wp_region_held_drew (S := fun w' => w'.cell? ⟨B1, 0, none⟩ = some (.pointer a) ∧ w'.cell? ⟨B2, 0, none⟩ = some (.int .u64 (size.toNat : Int)) ∧ w'.cell? ⟨B2, 1, none⟩ = some (.int .u64 (off.toNat : Int))) (by kernel_rfl) (by rw [← hW4.out]; exact ⟨hB1.out.cell 0 _ rfl, hB2.out.cell 0 _ rfl, hB2.out.cell 1 _ rfl⟩) (fun hHeld => ?_)
        rw [← hW4.out] at hHeld ⊢
        refine wpAnyH_take (i := 0) (oi := _) (v := ?m1_v) rfl (by kernel_rfl) (by kernel_rfl) (by kernel_rfl) (fun _ _ _ h => h) (Or.inl ⟨by kernel_rfl, ?m1_h⟩) hHeld ?m1_r
        case m1_h => (intro w hSw; (try dsimp only at hSw); go_simp; try with_reducible rfl)
        try simp only [Act.put, List.getElem_toArray, List.getElem_cons_zero, List.setIfInBounds_toArray, List.set_cons_zero, List.set_cons_succ]
        refine wpAnyH_take (i := 1) (oi := _) (v := ?m2_v) rfl (by kernel_rfl) (by kernel_rfl) (by kernel_rfl) (fun _ _ _ h => h) (Or.inl ⟨by kernel_rfl, ?m2_h⟩) hHeld ?m2_r
        case m2_h => (intro w hSw; (try dsimp only at hSw); go_simp; try with_reducible rfl)
        try simp only [Act.put, List.getElem_toArray, List.getElem_cons_succ, List.getElem_cons_zero, List.setIfInBounds_toArray, List.set_cons_zero, List.set_cons_succ]
        refine wpAnyH_take (i := 2) (oi := _) (v := ?m3_v) rfl (by kernel_rfl) (by kernel_rfl) (by kernel_rfl) (fun _ _ _ h => h) (Or.inl ⟨by kernel_rfl, ?m3_h⟩) hHeld ?m3_r
        case m3_h => (intro w hSw; (try dsimp only at hSw); go_simp; try with_reducible rfl)
        try simp only [Act.put, List.getElem_toArray, List.getElem_cons_succ, List.getElem_cons_zero, List.setIfInBounds_toArray, List.set_cons_zero, List.set_cons_succ]
        refine wpAnyH_ready (rs := [3]) (by kernel_rfl) (by simp) ?_
        refine (AllReadyH.cons (o := _) rfl (fun K hK => ?_) AllReadyH.nil)
        go_simp
        refine (key_any (hT.out.keeps hst.out.keeps) x _ rfl).mono ?_
        rintro _ W5 ⟨rfl, kn⟩
        replace hst := Lib.hid (hst.out.nil kn)
        replace hB1 := Lib.hid (hB1.out.nil kn)
        replace hB2 := Lib.hid (hB2.out.nil kn)
        clear kn
        refine hK.out _ _ (⟨hB1.out.cell 0 _ rfl, hB2.out.cell 0 _ rfl, hB2.out.cell 1 _ rfl⟩) (fun hHeld => ?_)
        clear hK K
        try simp only [Act.put, List.getElem_toArray, List.getElem_cons_succ, List.getElem_cons_zero, List.setIfInBounds_toArray, List.set_cons_zero, List.set_cons_succ]
        refine wpAnyH_ready (rs := [4]) (by kernel_rfl) (by simp) ?_
        refine (AllReadyH.cons (o := _) rfl (fun K hK => ?_) AllReadyH.nil)
        go_simp
        refine (compare_any _ size off (sizeF f x) x).mono ?_
        rintro _ W6 ⟨rfl, kn⟩
        rw [hc]
        replace hst := Lib.hid (hst.out.nil kn)
        replace hB1 := Lib.hid (hB1.out.nil kn)
        replace hB2 := Lib.hid (hB2.out.nil kn)
        clear kn
        refine hK.out _ _ (⟨hB1.out.cell 0 _ rfl, hB2.out.cell 0 _ rfl, hB2.out.cell 1 _ rfl⟩) (fun hHeld => ?_)
        clear hK K
        try simp only [Act.put, List.getElem_toArray, List.getElem_cons_succ, List.getElem_cons_zero, List.setIfInBounds_toArray, List.set_cons_zero, List.set_cons_succ]
        refine wpAnyH_take (i := 5) (oi := _) (v := ?m4_v) rfl (by kernel_rfl) (by kernel_rfl) (by kernel_rfl) (fun _ _ _ h => h) (Or.inl ⟨by kernel_rfl, ?m4_h⟩) hHeld ?m4_r
        case m4_h => (intro w hSw; (try dsimp only at hSw); go_simp; try with_reducible rfl)
        try simp only [Act.put, List.getElem_toArray, List.getElem_cons_succ, List.getElem_cons_zero, List.setIfInBounds_toArray, List.set_cons_zero, List.set_cons_succ]
        refine wpAnyH_done (by kernel_rfl) ?_ _
        clear hHeld
        have c_B1_0 := hB1.out.cell 0 _ rfl
        have f_B1_0 := hB1.out.frz 0
        have l_B1 := hB1.out.lt
        have c_B2_0 := hB2.out.cell 0 _ rfl
        have f_B2_0 := hB2.out.frz 0
        have c_B2_1 := hB2.out.cell 1 _ rfl
        have f_B2_1 := hB2.out.frz 1
        have l_B2 := hB2.out.lt
        go_wp2_with fail
        clear c_B1_0 f_B1_0 l_B1 c_B2_0 f_B2_0 c_B2_1 f_B2_1 l_B2
        obtain ⟨W7, hW7⟩ : ∃ W, W = W6.drew := ⟨_, rfl⟩
        replace hW7 := Lib.hid hW7
        have kn : Keeps Nil W6 W7 := by rw [hW7.out]; exact keeps_drew _
        replace hst := Lib.hid (hst.out.nil kn)
        replace hB1 := Lib.hid (hB1.out.nil kn)
        replace hB2 := Lib.hid (hB2.out.nil kn)
        clear kn
        refine wp_region_held_drew (S := fun w' => w'.cell? ⟨B1, 0, none⟩ = some (.pointer a) ∧ w'.cell? ⟨B2, 0, none⟩ = some (.int .u64 (size.toNat : Int)) ∧ w'.cell? ⟨B2, 1, none⟩ = some (.int .u64 (off.toNat : Int))) (by kernel_rfl) (by rw [← hW7.out]; exact ⟨hB1.out.cell 0 _ rfl, hB2.out.cell 0 _ rfl, hB2.out.cell 1 _ rfl⟩) (fun hHeld => ?_)
        rw [← hW7.out] at hHeld ⊢
        refine wpAnyH_take (i := 0) (oi := _) (v := ?m5_v) rfl (by kernel_rfl) (by kernel_rfl) (by kernel_rfl) (fun _ _ _ h => h) (Or.inl ⟨by kernel_rfl, ?m5_h⟩) hHeld ?m5_r
        case m5_h => (intro w hSw; (try dsimp only at hSw); go_simp; try with_reducible rfl)
        try simp only [Act.put, List.getElem_toArray, List.getElem_cons_zero, List.setIfInBounds_toArray, List.set_cons_zero, List.set_cons_succ]
        refine wpAnyH_take (i := 1) (oi := _) (v := ?m6_v) rfl (by kernel_rfl) (by kernel_rfl) (by kernel_rfl) (fun _ _ _ h => h) (Or.inl ⟨by kernel_rfl, ?m6_h⟩) hHeld ?m6_r
        case m6_h => (intro w hSw; (try dsimp only at hSw); go_simp; try with_reducible rfl)
        try simp only [Act.put, List.getElem_toArray, List.getElem_cons_succ, List.getElem_cons_zero, List.setIfInBounds_toArray, List.set_cons_zero, List.set_cons_succ]
        refine wpAnyH_take (i := 2) (oi := _) (v := ?m7_v) rfl (by kernel_rfl) (by kernel_rfl) (by kernel_rfl) (fun _ _ _ h => h) (Or.inl ⟨by kernel_rfl, ?m7_h⟩) hHeld ?m7_r
        case m7_h => (intro w hSw; (try dsimp only at hSw); go_simp; try with_reducible rfl)
        try simp only [Act.put, List.getElem_toArray, List.getElem_cons_succ, List.getElem_cons_zero, List.setIfInBounds_toArray, List.set_cons_zero, List.set_cons_succ]
        refine wpAnyH_take (i := 3) (oi := _) (v := ?m8_v) rfl (by kernel_rfl) (by kernel_rfl) (by kernel_rfl) (fun _ _ _ h => h) (Or.inl ⟨by kernel_rfl, ?m8_h⟩) hHeld ?m8_r
        case m8_h => (intro w hSw; (try dsimp only at hSw); go_simp; try with_reducible rfl)
        try simp only [Act.put, List.getElem_toArray, List.getElem_cons_succ, List.getElem_cons_zero, List.setIfInBounds_toArray, List.set_cons_zero, List.set_cons_succ]
        refine wpAnyH_take (i := 4) (oi := _) (v := ?m9_v) rfl (by kernel_rfl) (by kernel_rfl) (by kernel_rfl) (fun _ _ _ h => h) (Or.inl ⟨by kernel_rfl, ?m9_h⟩) hHeld ?m9_r
        case m9_h => (intro w hSw; (try dsimp only at hSw); go_simp; try with_reducible rfl)
        try simp only [Act.put, List.getElem_toArray, List.getElem_cons_succ, List.getElem_cons_zero, List.setIfInBounds_toArray, List.set_cons_zero, List.set_cons_succ]
        refine wpAnyH_ready (rs := [5]) (by kernel_rfl) (by simp) ?_
        refine (AllReadyH.cons (o := _) rfl (fun K hK => ?_) AllReadyH.nil)
        go_simp
        refine (side_any (hT.out.keeps hst.out.keeps) x size off).mono ?_
        rintro _ W8 ⟨rfl, kn⟩
        obtain ⟨v1, zv1⟩ : ∃ v : UInt64, v = (sideF szU f x (size, off)) := ⟨_, rfl⟩
        rw [← zv1]
        replace zv1 := Lib.hid zv1
        replace hst := Lib.hid (hst.out.nil kn)
        replace hB1 := Lib.hid (hB1.out.nil kn)
        replace hB2 := Lib.hid (hB2.out.nil kn)
        clear kn
        refine hK.out _ _ (⟨hB1.out.cell 0 _ rfl, hB2.out.cell 0 _ rfl, hB2.out.cell 1 _ rfl⟩) (fun hHeld => ?_)
        clear hK K
        try simp only [Act.put, List.getElem_toArray, List.getElem_cons_succ, List.getElem_cons_zero, List.setIfInBounds_toArray, List.set_cons_zero, List.set_cons_succ]
        refine wpAnyH_ready (rs := [6]) (by kernel_rfl) (by simp) ?_
        refine (AllReadyH.cons (o := _) rfl (fun K hK => ?_) AllReadyH.nil)
        go_simp
        refine ((hT.out.keeps hst.out.keeps).loadC v1 _ rfl).mono ?_
        rintro _ W9 ⟨rfl, kn⟩
        replace hst := Lib.hid (hst.out.nil kn)
        replace hB1 := Lib.hid (hB1.out.nil kn)
        replace hB2 := Lib.hid (hB2.out.nil kn)
        clear kn
        refine hK.out _ _ (⟨hB1.out.cell 0 _ rfl, hB2.out.cell 0 _ rfl, hB2.out.cell 1 _ rfl⟩) (fun hHeld => ?_)
        clear hK K
        try simp only [Act.put, List.getElem_toArray, List.getElem_cons_succ, List.getElem_cons_zero, List.setIfInBounds_toArray, List.set_cons_zero, List.set_cons_succ]
        refine wpAnyH_take (i := 7) (oi := _) (v := ?m10_v) rfl (by kernel_rfl) (by kernel_rfl) (by kernel_rfl) (fun _ _ _ h => h) (Or.inl ⟨by kernel_rfl, ?m10_h⟩) hHeld ?m10_r
        case m10_h => (intro w hSw; (try dsimp only at hSw); go_simp; try with_reducible rfl)
        try simp only [Act.put, List.getElem_toArray, List.getElem_cons_succ, List.getElem_cons_zero, List.setIfInBounds_toArray, List.set_cons_zero, List.set_cons_succ]
        refine wpAnyH_done (by kernel_rfl) ?_ _
        clear hHeld
        have c_B1_0 := hB1.out.cell 0 _ rfl
        have f_B1_0 := hB1.out.frz 0
        have l_B1 := hB1.out.lt
        have c_B2_0 := hB2.out.cell 0 _ rfl
        have f_B2_0 := hB2.out.frz 0
        have c_B2_1 := hB2.out.cell 1 _ rfl
        have f_B2_1 := hB2.out.frz 1
        have l_B2 := hB2.out.lt
        go_wp2_with fail
        clear c_B1_0 f_B1_0 l_B1 c_B2_0 f_B2_0 c_B2_1 f_B2_1 l_B2
        go_roundw
        case rel => exact ⟨⟨⟨_, x, m, rfl, rfl, Lib.hid (by rw [zv1.out]; exact hn.out), hst⟩, hB1⟩, hB2⟩
        case measure => exact aftM_less HA.out (by rw [zv1.out]; exact hn.out)
      | false =>
        have hd : decide (c < 0) = false := by rw [h9, hl]
        rw [hl] at hn
        have HL := Lib.hid hl
        clear hl h9
        have d1 : (((x.toNat : Int) : Int) != (0 : Int)) = true := (unlike_u64 (a := x) (b := 0) (HX.out)).1
        have c_B1_0 := hB1.out.cell 0 _ rfl
        have f_B1_0 := hB1.out.frz 0
        have l_B1 := hB1.out.lt
        have c_B2_0 := hB2.out.cell 0 _ rfl
        have f_B2_0 := hB2.out.frz 0
        have c_B2_1 := hB2.out.cell 1 _ rfl
        have f_B2_1 := hB2.out.frz 1
        have l_B2 := hB2.out.lt
        go_wp2_with fail
        clear c_B1_0 f_B1_0 l_B1 c_B2_0 f_B2_0 c_B2_1 f_B2_1 l_B2
        obtain ⟨W4, hW4⟩ : ∃ W, W = wr.drew := ⟨_, rfl⟩
        replace hW4 := Lib.hid hW4
        have kn : Keeps Nil wr W4 := by rw [hW4.out]; exact keeps_drew _
        replace hst := Lib.hid (hst.out.nil kn)
        replace hB1 := Lib.hid (hB1.out.nil kn)
        replace hB2 := Lib.hid (hB2.out.nil kn)
        clear kn
        refine wp_region_held_drew (S := fun w' => w'.cell? ⟨B1, 0, none⟩ = some (.pointer a) ∧ w'.cell? ⟨B2, 0, none⟩ = some (.int .u64 (size.toNat : Int)) ∧ w'.cell? ⟨B2, 1, none⟩ = some (.int .u64 (off.toNat : Int))) (by kernel_rfl) (by rw [← hW4.out]; exact ⟨hB1.out.cell 0 _ rfl, hB2.out.cell 0 _ rfl, hB2.out.cell 1 _ rfl⟩) (fun hHeld => ?_)
        rw [← hW4.out] at hHeld ⊢
        refine wpAnyH_take (i := 0) (oi := _) (v := ?m11_v) rfl (by kernel_rfl) (by kernel_rfl) (by kernel_rfl) (fun _ _ _ h => h) (Or.inl ⟨by kernel_rfl, ?m11_h⟩) hHeld ?m11_r
        case m11_h => (intro w hSw; (try dsimp only at hSw); go_simp; try with_reducible rfl)
        try simp only [Act.put, List.getElem_toArray, List.getElem_cons_zero, List.setIfInBounds_toArray, List.set_cons_zero, List.set_cons_succ]
        refine wpAnyH_take (i := 1) (oi := _) (v := ?m12_v) rfl (by kernel_rfl) (by kernel_rfl) (by kernel_rfl) (fun _ _ _ h => h) (Or.inl ⟨by kernel_rfl, ?m12_h⟩) hHeld ?m12_r
        case m12_h => (intro w hSw; (try dsimp only at hSw); go_simp; try with_reducible rfl)
        try simp only [Act.put, List.getElem_toArray, List.getElem_cons_succ, List.getElem_cons_zero, List.setIfInBounds_toArray, List.set_cons_zero, List.set_cons_succ]
        refine wpAnyH_take (i := 2) (oi := _) (v := ?m13_v) rfl (by kernel_rfl) (by kernel_rfl) (by kernel_rfl) (fun _ _ _ h => h) (Or.inl ⟨by kernel_rfl, ?m13_h⟩) hHeld ?m13_r
        case m13_h => (intro w hSw; (try dsimp only at hSw); go_simp; try with_reducible rfl)
        try simp only [Act.put, List.getElem_toArray, List.getElem_cons_succ, List.getElem_cons_zero, List.setIfInBounds_toArray, List.set_cons_zero, List.set_cons_succ]
        refine wpAnyH_ready (rs := [3]) (by kernel_rfl) (by simp) ?_
        refine (AllReadyH.cons (o := _) rfl (fun K hK => ?_) AllReadyH.nil)
        go_simp
        refine (key_any (hT.out.keeps hst.out.keeps) x _ rfl).mono ?_
        rintro _ W5 ⟨rfl, kn⟩
        replace hst := Lib.hid (hst.out.nil kn)
        replace hB1 := Lib.hid (hB1.out.nil kn)
        replace hB2 := Lib.hid (hB2.out.nil kn)
        clear kn
        refine hK.out _ _ (⟨hB1.out.cell 0 _ rfl, hB2.out.cell 0 _ rfl, hB2.out.cell 1 _ rfl⟩) (fun hHeld => ?_)
        clear hK K
        try simp only [Act.put, List.getElem_toArray, List.getElem_cons_succ, List.getElem_cons_zero, List.setIfInBounds_toArray, List.set_cons_zero, List.set_cons_succ]
        refine wpAnyH_ready (rs := [4]) (by kernel_rfl) (by simp) ?_
        refine (AllReadyH.cons (o := _) rfl (fun K hK => ?_) AllReadyH.nil)
        go_simp
        refine (compare_any _ size off (sizeF f x) x).mono ?_
        rintro _ W6 ⟨rfl, kn⟩
        rw [hc]
        replace hst := Lib.hid (hst.out.nil kn)
        replace hB1 := Lib.hid (hB1.out.nil kn)
        replace hB2 := Lib.hid (hB2.out.nil kn)
        clear kn
        refine hK.out _ _ (⟨hB1.out.cell 0 _ rfl, hB2.out.cell 0 _ rfl, hB2.out.cell 1 _ rfl⟩) (fun hHeld => ?_)
        clear hK K
        try simp only [Act.put, List.getElem_toArray, List.getElem_cons_succ, List.getElem_cons_zero, List.setIfInBounds_toArray, List.set_cons_zero, List.set_cons_succ]
        refine wpAnyH_take (i := 5) (oi := _) (v := ?m14_v) rfl (by kernel_rfl) (by kernel_rfl) (by kernel_rfl) (fun _ _ _ h => h) (Or.inl ⟨by kernel_rfl, ?m14_h⟩) hHeld ?m14_r
        case m14_h => (intro w hSw; (try dsimp only at hSw); go_simp; try with_reducible rfl)
        try simp only [Act.put, List.getElem_toArray, List.getElem_cons_succ, List.getElem_cons_zero, List.setIfInBounds_toArray, List.set_cons_zero, List.set_cons_succ]
        refine wpAnyH_done (by kernel_rfl) ?_ _
        clear hHeld
        have c_B1_0 := hB1.out.cell 0 _ rfl
        have f_B1_0 := hB1.out.frz 0
        have l_B1 := hB1.out.lt
        have c_B2_0 := hB2.out.cell 0 _ rfl
        have f_B2_0 := hB2.out.frz 0
        have c_B2_1 := hB2.out.cell 1 _ rfl
        have f_B2_1 := hB2.out.frz 1
        have l_B2 := hB2.out.lt
        go_wp2_with fail
        clear c_B1_0 f_B1_0 l_B1 c_B2_0 f_B2_0 c_B2_1 f_B2_1 l_B2
        obtain ⟨W7, hW7⟩ : ∃ W, W = W6.drew := ⟨_, rfl⟩
        replace hW7 := Lib.hid hW7
        have kn : Keeps Nil W6 W7 := by rw [hW7.out]; exact keeps_drew _
        replace hst := Lib.hid (hst.out.nil kn)
        replace hB1 := Lib.hid (hB1.out.nil kn)
        replace hB2 := Lib.hid (hB2.out.nil kn)
        clear kn
        refine wp_region_held_drew (S := fun w' => w'.cell? ⟨B1, 0, none⟩ = some (.pointer a) ∧ w'.cell? ⟨B2, 0, none⟩ = some (.int .u64 (size.toNat : Int)) ∧ w'.cell? ⟨B2, 1, none⟩ = some (.int .u64 (off.toNat : Int))) (by kernel_rfl) (by rw [← hW7.out]; exact ⟨hB1.out.cell 0 _ rfl, hB2.out.cell 0 _ rfl, hB2.out.cell 1 _ rfl⟩) (fun hHeld => ?_)
        rw [← hW7.out] at hHeld ⊢
        refine wpAnyH_take (i := 0) (oi := _) (v := ?m15_v) rfl (by kernel_rfl) (by kernel_rfl) (by kernel_rfl) (fun _ _ _ h => h) (Or.inl ⟨by kernel_rfl, ?m15_h⟩) hHeld ?m15_r
        case m15_h => (intro w hSw; (try dsimp only at hSw); go_simp; try with_reducible rfl)
        try simp only [Act.put, List.getElem_toArray, List.getElem_cons_zero, List.setIfInBounds_toArray, List.set_cons_zero, List.set_cons_succ]
        refine wpAnyH_take (i := 1) (oi := _) (v := ?m16_v) rfl (by kernel_rfl) (by kernel_rfl) (by kernel_rfl) (fun _ _ _ h => h) (Or.inl ⟨by kernel_rfl, ?m16_h⟩) hHeld ?m16_r
        case m16_h => (intro w hSw; (try dsimp only at hSw); go_simp; try with_reducible rfl)
        try simp only [Act.put, List.getElem_toArray, List.getElem_cons_succ, List.getElem_cons_zero, List.setIfInBounds_toArray, List.set_cons_zero, List.set_cons_succ]
        refine wpAnyH_take (i := 2) (oi := _) (v := ?m17_v) rfl (by kernel_rfl) (by kernel_rfl) (by kernel_rfl) (fun _ _ _ h => h) (Or.inl ⟨by kernel_rfl, ?m17_h⟩) hHeld ?m17_r
        case m17_h => (intro w hSw; (try dsimp only at hSw); go_simp; try with_reducible rfl)
        try simp only [Act.put, List.getElem_toArray, List.getElem_cons_succ, List.getElem_cons_zero, List.setIfInBounds_toArray, List.set_cons_zero, List.set_cons_succ]
        refine wpAnyH_take (i := 3) (oi := _) (v := ?m18_v) rfl (by kernel_rfl) (by kernel_rfl) (by kernel_rfl) (fun _ _ _ h => h) (Or.inl ⟨by kernel_rfl, ?m18_h⟩) hHeld ?m18_r
        case m18_h => (intro w hSw; (try dsimp only at hSw); go_simp; try with_reducible rfl)
        try simp only [Act.put, List.getElem_toArray, List.getElem_cons_succ, List.getElem_cons_zero, List.setIfInBounds_toArray, List.set_cons_zero, List.set_cons_succ]
        refine wpAnyH_take (i := 4) (oi := _) (v := ?m19_v) rfl (by kernel_rfl) (by kernel_rfl) (by kernel_rfl) (fun _ _ _ h => h) (Or.inl ⟨by kernel_rfl, ?m19_h⟩) hHeld ?m19_r
        case m19_h => (intro w hSw; (try dsimp only at hSw); go_simp; try with_reducible rfl)
        try simp only [Act.put, List.getElem_toArray, List.getElem_cons_succ, List.getElem_cons_zero, List.setIfInBounds_toArray, List.set_cons_zero, List.set_cons_succ]
        refine wpAnyH_ready (rs := [5]) (by kernel_rfl) (by simp) ?_
        refine (AllReadyH.cons (o := _) rfl (fun K hK => ?_) AllReadyH.nil)
        go_simp
        refine (side_any (hT.out.keeps hst.out.keeps) x size off).mono ?_
        rintro _ W8 ⟨rfl, kn⟩
        obtain ⟨v1, zv1⟩ : ∃ v : UInt64, v = (sideF szU f x (size, off)) := ⟨_, rfl⟩
        rw [← zv1]
        replace zv1 := Lib.hid zv1
        replace hst := Lib.hid (hst.out.nil kn)
        replace hB1 := Lib.hid (hB1.out.nil kn)
        replace hB2 := Lib.hid (hB2.out.nil kn)
        clear kn
        refine hK.out _ _ (⟨hB1.out.cell 0 _ rfl, hB2.out.cell 0 _ rfl, hB2.out.cell 1 _ rfl⟩) (fun hHeld => ?_)
        clear hK K
        try simp only [Act.put, List.getElem_toArray, List.getElem_cons_succ, List.getElem_cons_zero, List.setIfInBounds_toArray, List.set_cons_zero, List.set_cons_succ]
        refine wpAnyH_ready (rs := [6]) (by kernel_rfl) (by simp) ?_
        refine (AllReadyH.cons (o := _) rfl (fun K hK => ?_) AllReadyH.nil)
        go_simp
        refine ((hT.out.keeps hst.out.keeps).loadC v1 _ rfl).mono ?_
        rintro _ W9 ⟨rfl, kn⟩
        replace hst := Lib.hid (hst.out.nil kn)
        replace hB1 := Lib.hid (hB1.out.nil kn)
        replace hB2 := Lib.hid (hB2.out.nil kn)
        clear kn
        refine hK.out _ _ (⟨hB1.out.cell 0 _ rfl, hB2.out.cell 0 _ rfl, hB2.out.cell 1 _ rfl⟩) (fun hHeld => ?_)
        clear hK K
        try simp only [Act.put, List.getElem_toArray, List.getElem_cons_succ, List.getElem_cons_zero, List.setIfInBounds_toArray, List.set_cons_zero, List.set_cons_succ]
        refine wpAnyH_take (i := 7) (oi := _) (v := ?m20_v) rfl (by kernel_rfl) (by kernel_rfl) (by kernel_rfl) (fun _ _ _ h => h) (Or.inl ⟨by kernel_rfl, ?m20_h⟩) hHeld ?m20_r
        case m20_h => (intro w hSw; (try dsimp only at hSw); go_simp; try with_reducible rfl)
        try simp only [Act.put, List.getElem_toArray, List.getElem_cons_succ, List.getElem_cons_zero, List.setIfInBounds_toArray, List.set_cons_zero, List.set_cons_succ]
        refine wpAnyH_done (by kernel_rfl) ?_ _
        clear hHeld
        have c_B1_0 := hB1.out.cell 0 _ rfl
        have f_B1_0 := hB1.out.frz 0
        have l_B1 := hB1.out.lt
        have c_B2_0 := hB2.out.cell 0 _ rfl
        have f_B2_0 := hB2.out.frz 0
        have c_B2_1 := hB2.out.cell 1 _ rfl
        have f_B2_1 := hB2.out.frz 1
        have l_B2 := hB2.out.lt
        go_wp2_with fail
        clear c_B1_0 f_B1_0 l_B1 c_B2_0 f_B2_0 c_B2_1 f_B2_1 l_B2
        go_roundw
        case rel => exact ⟨⟨⟨_, b, m, rfl, rfl, Lib.hid (by rw [zv1.out]; exact hn.out), hst⟩, hB1⟩, hB2⟩
        case measure => exact aftM_less HA.out (by rw [zv1.out]; exact hn.out)
    · have hx0 : x = 0 := Classical.byContradiction hx
      subst hx0
      clear hx
      have c_B1_0 := hB1.out.cell 0 _ rfl
      have f_B1_0 := hB1.out.frz 0
      have l_B1 := hB1.out.lt
      have c_B2_0 := hB2.out.cell 0 _ rfl
      have f_B2_0 := hB2.out.frz 0
      have c_B2_1 := hB2.out.cell 1 _ rfl
      have f_B2_1 := hB2.out.frz 1
      have l_B2 := hB2.out.lt
      go_wp2_with fail
      go_ret2
      clear c_B1_0 f_B1_0 l_B1 c_B2_0 f_B2_0 c_B2_1 f_B2_1 l_B2
      have hr : r = b := by cases HA.out with
        | nil => rfl
        | step h _ => exact absurd rfl h
      subst hr
      exact ⟨by rw [neq0]; rfl, hst.out.keeps⟩
end Go.Proofs.YtefpbljekfkefaaGreat

/- carracklaw07.formed: a formatted segment of 4800 bytes, and what is thought of over it, in the program's way and in the document's. -/
namespace Go.Proofs.YtefpbljekfkefaaGreat
open Go.RowKit

set_option maxRecDepth 100000 in
set_option maxHeartbeats 4000000 in
theorem formed07 {w : World} {vl : Value} {l : List Put} (size : UInt64) (h : Look kP w vl l) (x : Int) (hx : x = (size.toNat : Int)) :
    Calls Tryz.prog 100 #[.int .u64 x, vl] w fun e w' =>
      ∃ s t A B, e = .returned (.tuple #[.pointer (some ⟨t, 0, none⟩), .agg #[A, B]]) ∧ Live w w' s t (thP (formW size) (l.take 60)) (formW size) (fun w' S => TxV S w' A B (formW size) (thP (formW size) (l.take 60))) := by
  subst hx
  obtain ⟨a, lcap, rfl, hlm⟩ := h.val
  obtain ⟨ws, hws⟩ : ∃ ws, ws = formW size := ⟨_, rfl⟩
  have hwl : ws.length = 600 := by rw [hws]; exact formW_length size
  obtain ⟨n, hn⟩ : ∃ n, n = l.length := ⟨_, rfl⟩
  have hnm : n ≤ 9223372036854775807 := by unfold maxLen at hlm; omega
  rw [← hn, ← hws]
  obtain ⟨n0, hn0⟩ : ∃ n0, n0 = w.heap.size := ⟨_, rfl⟩
  obtain ⟨w1, hw1⟩ : ∃ w1, w1 = w.alloc (.cells #[.slice none 0 0, .slice none 0 0] 71) := ⟨_, rfl⟩
  have k1 : Keeps Nil w w1 := by rw [hw1]; exact (Keeps.refl Nil w).alloc _
  have b1 : w1.heap[n0]? = some (.cells #[.slice none 0 0, .slice none 0 0] 71 (0, 0)) := by rw [hw1, hn0]; exact heap_new w _
  have H := Lib.hid (And.intro h (And.intro hws (And.intro hwl hn)))
  have H1 := Lib.hid (And.intro k1 b1)
  have HW := Lib.hid hw1
  have HN0 := Lib.hid hn0
  clear h hws hwl hn hlm k1 b1 hw1 hn0
  go_enter Tryz.func100, Tryz.ntmps100
  go_wp2_with fail
  rw [← HW.out, ← HN0.out]
  refine (New_4800 w1).mono ?_
  rintro e w2 ⟨p, q, rfl, hs, k2, hp, hq⟩
  have H2 := Lib.hid (And.intro hs (And.intro k2 (And.intro hp hq)))
  clear hs k2 hp hq
  go_wp2_with fail
  refine (Format_form H2.out.1 size _ rfl).mono ?_
  rintro e w3 ⟨rfl, hs, k3⟩
  rw [← H.out.2.1] at hs
  have H3 := Lib.hid (And.intro hs (H2.out.2.1.trans k3 (fun i hi e => by have := H2.out.2.2.2; omega) : Keeps Nil w1 w3))
  clear hs k3
  go_wp2_with fail
  refine (rFormat_4800 w3 size _ rfl).mono ?_
  rintro e w4 ⟨A, rfl, ho, k4⟩
  rw [← H.out.2.1] at ho
  have hA : View kU (fun k => k = p ∨ k = q) w4 A ws := ho.view (fun g hg e => by have := H3.out.1.lt; omega)
  have H4 := Lib.hid (And.intro (H3.out.1.keeps k4 (fun e => e) (fun e => e)) (And.intro (H3.out.2.trans' k4) hA))
  clear ho k4 hA
  go_wp2_with fail
  have HV := Lib.hid (H4.out.1.liveR (w0 := w) (H1.out.1.trans' H4.out.2.1) (by have := H1.out.1.size; have := H2.out.2.2.1; omega) (by have := H1.out.1.size; have := H2.out.2.2.2; omega)
    (R := fun w' S => TxV S w' A (.slice none 0 0) ws [] ∧ Still n0 #[.slice none 0 0, .slice none 0 0] 71 w' S) ((Stable.txv _ _ _ _).and (Stable.still _ _ _))
    ⟨⟨by rw [H.out.2.2.1]; decide, by rw [H.out.2.2.1]; decide, H4.out.2.2, .inl ⟨rfl, rfl⟩⟩, H4.out.2.1.at H1.out.2 (fun e => e), fun e => by
      have h1 := getElem?_lt H1.out.2
      have h2 := H2.out.2.2.1
      have h3 := H2.out.2.2.2
      rcases e with e | e <;> omega⟩)
  refine HV.out.mono ?_
  rintro e w5 ⟨t, rfl, L⟩
  clear HV
  obtain ⟨ab, ao, ac, _, _, rfl, hA9⟩ := (show TxV Nil w4 A (.slice none 0 0) ws [] from ⟨by rw [H.out.2.2.1]; decide, by rw [H.out.2.2.1]; decide, H4.out.2.2.shut (fun _ _ e => e.elim), .inl ⟨rfl, rfl⟩⟩).val
  clear hA9
  rw [H.out.2.2.1] at L ⊢
  obtain ⟨m, hm⟩ : ∃ m, m = w5.heap.size := ⟨_, rfl⟩
  obtain ⟨w6, hw6⟩ : ∃ w6, w6 = w5.alloc (.cells #[.slice (some ⟨ab, ao, none⟩) 600 ac, .slice none 0 0] 71) := ⟨_, rfl⟩
  have L6 := L.box ((Stable.txv _ _ _ _).and (Stable.still _ _ _)) #[.slice (some ⟨ab, ao, none⟩) 600 ac, .slice none 0 0] 71
  rw [← hw6, ← hm] at L6
  have hmn : n0 < m := by
    obtain ⟨S, _, _, _, r⟩ := L
    have := getElem?_lt r.2.1
    omega
  have hmw : w.heap.size ≤ m := by have := HN0.out; omega
  have HM := Lib.hid (And.intro hm hw6)
  have H6 := Lib.hid L6
  have HMN := Lib.hid (And.intro hmn hmw)
  clear L L6 hm hw6 hmn hmw
  go_wp2_with fail
  rw [← HM.out.2, ← HM.out.1]
  go_loopw [11] (fun i wr => ∃ k : Nat, k ≤ n ∧ k ≤ 60 ∧ i = .int .i64 (k : Int) ∧ Hid (∃ B, Live w wr p t (thP ws (l.take k)) ws (fun w' S => (TxV S w' (.slice (some ⟨ab, ao, none⟩) 600 ac) B ws (thP ws (l.take k)) ∧ Still n0 #[.slice none 0 0, .slice none 0 0] 71 w' S) ∧ Still m #[.slice (some ⟨ab, ao, none⟩) 600 ac, B] 71 w' S))) (fun i _ => 80 - (intOf i).toNat)
  case atStart => exact ⟨0, by omega, by omega, rfl, _, H6.out⟩
  case round =>
    obtain ⟨j, hj, hj2, rfl, HH⟩ := hrel
    obtain ⟨B, L⟩ := HH.out
    have hT : ∃ S, TxV S wr (.slice (some ⟨ab, ao, none⟩) 600 ac) B ws (thP ws (l.take j)) ∧ wr.heap[n0]? = some (.cells #[.slice none 0 0, .slice none 0 0] 71 (0, 0)) ∧ wr.heap[m]? = some (.cells #[.slice (some ⟨ab, ao, none⟩) 600 ac, B] 71 (0, 0)) := by
      obtain ⟨S, _, _, _, r⟩ := L
      exact ⟨S, r.1.1, r.1.2.1, r.2.1⟩
    obtain ⟨S9, hT, hb0, hbm⟩ := hT
    obtain ⟨_, _, _, a2, c2, hA9, rfl⟩ := hT.val
    clear hA9
    have hst := ((Stable.txv (.slice (some ⟨ab, ao, none⟩) 600 ac) (.slice a2 (thP ws (l.take j)).length c2) ws (thP ws (l.take j))).and (Stable.still n0 #[.slice none 0 0, .slice none 0 0] 71)).and (Stable.still m #[.slice (some ⟨ab, ao, none⟩) 600 ac, .slice a2 (thP ws (l.take j)).length c2] 71)
    have hplen : (thP ws (l.take j)).length ≤ 60 := by have := thP_length ws (l.take j); have := List.length_take_le j l; omega
    by_cases hlt : j < n ∧ j < 60
    · obtain ⟨hl1, hl2⟩ := hlt
      have hll : j < l.length := by have := H.out.2.2.2; omega
      obtain ⟨y, hy⟩ : ∃ y, l[j]? = some y := ⟨l[j]'hll, by simp⟩
      obtain ⟨b2, o2, cap3, hvv, _, _, hbl, _, hcell⟩ := H.out.1.pos (by omega)
      simp only [Value.slice.injEq] at hvv
      obtain ⟨rfl, _, rfl⟩ := hvv
      obtain ⟨y1, y2⟩ := View.cellP hcell j y hy
      have y1' := (L.keeps.cell hbl (fun e => e) _).trans y1
      have y2' := (L.keeps.cell hbl (fun e => e) _).trans y2
      have HX := Lib.hid hy
      have HR := Lib.hid ((L.quiet hst (keeps_drew _)).store hst y.1 y.2 (by omega) _ _ rfl rfl)
      have HST := Lib.hid hst
      have HL := Lib.hid L
      clear hcell hy hll HH L hT hb0 hbm hst
      have Y := Lib.hid (And.intro y1 y2)
      clear y1 y2
      go_wp2_with fail
      go_still_tail 11, (by kernel_rfl)
      change wpList _ _ _ _ _ (World.drew _)
      go_wp2_with fail
      refine HR.out.mono ?_
      rintro e w7 ⟨rfl, L7⟩
      have hb7 : w7.heap[m]? = some (.cells #[.slice (some ⟨ab, ao, none⟩) 600 ac, .slice a2 (thP ws (l.take j)).length c2] 71 (0, 0)) := L7.still
      clear y1' y2'
      have y1' : w7.drew.cell? ⟨b2, o2 + j * 2, none⟩ = some (.int .u64 ↑y.1.toNat) := (L7.keeps.cell hbl (fun e => e) _).trans Y.out.1
      have y2' : w7.drew.cell? ⟨b2, o2 + j * 2 + 1, none⟩ = some (.int .u64 ↑y.2.toNat) := (L7.keeps.cell hbl (fun e => e) _).trans Y.out.2
      have c0 : w7.drew.cell? ⟨m, 0, none⟩ = some (.slice (some ⟨ab, ao, none⟩) 600 ac) := (row2 hb7).1
      have c1 : w7.drew.cell? ⟨m, 1, none⟩ = some (.slice a2 (thP ws (l.take j)).length c2) := (row2 hb7).2
      have L7d := L7.quiet HST.out (keeps_drew _)
      obtain ⟨S, g1, g2, g3, g4⟩ := L7d
      have HS := Lib.hid (g4.1.1.store (fun k hk => g1.lt hk) (by omega) y.1 y.2 _ _ rfl rfl)
      have H7 := Lib.hid (And.intro g1 (And.intro g2 (And.intro g3 g4)))
      clear L7 hb7 g1 g2 g3 g4
      go_wp2_with fail
      go_still_tail 11, (by kernel_rfl)
      change wpList _ _ _ _ _ (World.drew _)
      go_wp2_with fail
      refine HS.out.mono ?_
      rintro e w8 ⟨B', rfl, hT8, k8⟩
      obtain ⟨_, _, _, a3, c3, hA9, rfl⟩ := hT8.val
      clear hA9
      have hb8 := k8.at H7.out.2.2.2.2.1 (fun e => e)
      clear y1' y2' c0 c1
      have c0 := (row2 hb8).1
      have c1 := (row2 hb8).2
      have f0 := frz hb8 0
      have f1 := frz hb8 1
      have H8 := Lib.hid (And.intro hT8 (And.intro k8 hb8))
      clear hT8 k8 hb8
      go_wp2_with fail
      go_roundw
      case rel =>
        refine ⟨j + 1, by omega, by omega, by go_num, ?_⟩
        rw [thP_take HX.out]
        obtain ⟨g1, g2, g3, g4⟩ := H7.out
        obtain ⟨hT8, k8, hb8⟩ := H8.out
        have hset : Keeps (fun i => i = m) w8 _ := (keeps_setCell w8 ⟨m, 0, none⟩ (.slice (some ⟨ab, ao, none⟩) 600 ac)).trans' (keeps_setCell _ ⟨m, 1, none⟩ (.slice a3 (txStore ws (thP ws (l.take j)) y.1 y.2).length c3))
        have hSm : ¬ S m := g4.2.2
        have hno : ∀ g, S g → ¬ (g = m) := fun g hg e => hSm (by rw [← e]; exact hg)
        have hn0m : ¬ n0 = m := by have := HMN.out.1; omega
        exact ⟨_, S, (g1.keeps_nil k8).keeps hset hno, g2, (g3.trans' k8).trans hset (fun i hi e => by have := HMN.out.2; omega),
          ⟨⟨⟨hT8.1, hT8.2.1, hT8.2.2.1.box hb8 (noU _ _ _ _ _ _) hset, hT8.2.2.2.box hb8 (noP _ _ _ _ _ _) hset⟩, hset.at (k8.at g4.1.2.1 (fun e => e)) hn0m, g4.1.2.2⟩, setRow2 hb8, hSm⟩⟩
      case measure => simp [intOf]; omega
    · have hej : l.take j = l.take 60 := take_cap l j 60 (by have := H.out.2.2.2; omega) hj2 (by have := H.out.2.2.2; omega)
      have hcut : (¬ j < n ∧ 0 ≤ j) ∨ (j < n ∧ ¬ j < 60) := by omega
      have c0 := (row2 hbm).1
      have c1 := (row2 hbm).2
      have d0 := (row2 hb0).1
      have d1 := (row2 hb0).2
      have f0 := frz hb0 0
      have f1 := frz hb0 1
      have HL := Lib.hid (And.intro L (And.intro hb0 hej))
      clear hej HH L hT hb0 hbm hst hlt
      rcases hcut with ⟨hn1, hn2⟩ | ⟨hn1, hn2⟩
      all_goals
        go_wp2_with fail
        go_region
        all_goals go_wp2_with fail
        all_goals
          obtain ⟨⟨S, g1, g2, g3, g4⟩, hb0, hej⟩ := HL.out
          have hset : Keeps (fun i => i = n0) wr _ := (keeps_setCell wr ⟨n0, 0, none⟩ (.slice (some ⟨ab, ao, none⟩) 600 ac)).trans' (keeps_setCell _ ⟨n0, 1, none⟩ (.slice a2 (thP ws (l.take j)).length c2))
          have hno : ∀ g, S g → ¬ (g = n0) := fun g hg e => g4.1.2.2 (by rw [← e]; exact hg)
          have hdr : ∀ w' : World, Keeps Nil w' w'.drew := fun w' => keeps_drew w'
          refine bodyPost_ret (results_tmp_row rfl rfl (setRow2 hb0) Tryz.underlying71 rfl (by kernel_rfl)) rfl ?_
          rw [← hej]
          have L9 : Live w _ p t (thP ws (l.take j)) ws (fun w' S => TxV S w' (.slice (some ⟨ab, ao, none⟩) 600 ac) (.slice a2 (thP ws (l.take j)).length c2) ws (thP ws (l.take j))) :=
            ⟨S, g1.keeps hset hno, g2, g3.trans hset (fun i hi e => by have := HN0.out; omega), g4.1.1.1, g4.1.1.2.1, g4.1.1.2.2.1.box hb0 (noU none none 0 0 0 0) hset, g4.1.1.2.2.2.box hb0 (noP none none 0 0 0 0) hset⟩
          exact ⟨p, t, _, _, rfl, L9.quiet (Stable.txv _ _ _ _) ⟨rfl, rfl, rfl, Nat.le_refl _, fun _ _ _ => rfl⟩⟩

theorem formed07' {w : World} {vl : Value} {l : List Put} (size : UInt64) (h : Look kP w vl l) (x : Int) (hx : x = (size.toNat : Int)) :
    Calls Tryz.prog 100 #[.int .u64 x, vl] w fun e w' =>
      ∃ s t ab ao ac a2 n2 c2, e = .returned (.tuple #[.pointer (some ⟨t, 0, none⟩), .agg #[.slice (some ⟨ab, ao, none⟩) 600 ac, .slice a2 n2 c2]]) ∧
        Live w w' s t (thP (formW size) (l.take 60)) (formW size) (fun w' S => TxV S w' (.slice (some ⟨ab, ao, none⟩) 600 ac) (.slice a2 n2 c2) (formW size) (thP (formW size) (l.take 60))) := by
  refine (formed07 size h x hx).mono ?_
  rintro e w' ⟨s, t, A, B, rfl, L⟩
  obtain ⟨ab, ao, ac, a2, c2, rfl, rfl⟩ : ∃ b o c a2 c2, A = .slice (some ⟨b, o, none⟩) 600 c ∧ B = .slice a2 (thP (formW size) (l.take 60)).length c2 := by
    obtain ⟨S, _, _, _, r⟩ := L
    obtain ⟨b, o, c, a2, c2, h1, h2⟩ := r.val
    rw [formW_length] at h1
    exact ⟨b, o, c, a2, c2, h1, h2⟩
  exact ⟨s, t, ab, ao, ac, a2, _, c2, rfl, L⟩
end Go.Proofs.YtefpbljekfkefaaGreat
