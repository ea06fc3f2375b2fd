/- carrackref07.After. -/
import Derived.Test.YtefpbljekfkefaaGreatRef7SQ
namespace Go.Proofs.YtefpbljekfkefaaGreat
open Go.RowKit PT

theorem find_at {p : UInt64 → Bool} : ∀ {s : List UInt64} {k : Nat} {y : UInt64}, s[k]? = some y → p y = true → (∀ j z, j < k → s[j]? = some z → p z = false) → s.find? p = some y
  | [], k, y, h, _, _ => by simp at h
  | x :: s, 0, y, h, hp, _ => by simp at h; subst h; rw [List.find?_cons, hp]
  | x :: s, k + 1, y, h, hp, hn => by
    rw [List.find?_cons, hn 0 x (by omega) rfl]
    exact find_at (by simpa using h) hp (fun j z hj hz => hn (j + 1) z (by omega) (by simpa using hz))
theorem find_no {p : UInt64 → Bool} {s : List UInt64} (h : ∀ j z, j < s.length → s[j]? = some z → p z = false) : s.find? p = none := by
  rw [List.find?_eq_none]
  intro z hz
  obtain ⟨j, hj, e⟩ := List.getElem_of_mem hz
  have := h j z hj (by rw [← e]; exact List.getElem?_eq_getElem hj)
  simp [this]
theorem key_not {f : UInt64 → UInt64} {y size off : UInt64} (h : ltK (size, off) (keyF szU f y) = true) : ltK (keyF szU f y) (size, off) = false ∧ (sizeF f y = size → y ≠ off) := by
  have h1 := ltK_iff.1 h
  refine ⟨?_, fun e1 e2 => ?_⟩
  · cases h2 : ltK (keyF szU f y) (size, off) with
    | false => rfl
    | true => have := ltK_iff.1 h2; omega
  · have e3 : keyF szU f y = (size, off) := by subst e2; unfold keyF; exact Prod.ext e1 rfl
    rw [e3] at h1
    omega
theorem key_same {f : UInt64 → UInt64} {y size off : UInt64} (h : ltK (size, off) (keyF szU f y) = false) (h2 : ltK (keyF szU f y) (size, off) = false) : sizeF f y = size ∧ y = off := by
  have h1 : ¬ _ := fun e => by rw [ltK_iff.2 e] at h; cases h
  have h3 : ¬ _ := fun e => by rw [ltK_iff.2 e] at h2; cases h2
  have e : (sizeF f y).toNat = size.toNat ∧ y.toNat = off.toNat := by unfold keyF at h1 h3; dsimp only at h1 h3; exact ⟨by show (szU (f y)).toNat = _; omega, by omega⟩
  exact ⟨UInt64.toNat_inj.1 e.1, UInt64.toNat_inj.1 e.2⟩

set_option maxRecDepth 100000 in
set_option maxHeartbeats 4000000 in
theorem rAfter_any {A B : Value} {f : UInt64 → UInt64} {S : Nat → Prop} {w : World} {vl : Value} {l : List UInt64} (h : RReads (.agg #[A, B]) f w) (hv : View kU S w vl l) (hll : l.length ≤ 65535) (hn : l.Nodup) (size off : UInt64) :
    Calls Tryz.prog 56 #[.agg #[A, B], vl, .int .u64 (size.toNat : Int), .int .u64 (off.toNat : Int)] w fun e w' =>
      e = .returned (.tuple #[.int .u64 ((((sortF (cmpF f) l).find? (fun y => ltK (size, off) (keyF szU f y))).getD 0).toNat : Int), .bool ((sortF (cmpF f) l).find? (fun y => ltK (size, off) (keyF szU f y))).isSome]) ∧ Keeps Nil w w' := by
  obtain ⟨al, cl, rfl, _⟩ := hv.val
  obtain ⟨s, hs⟩ : ∃ s, s = sortF (cmpF f) l := ⟨_, rfl⟩
  obtain ⟨N, hN⟩ : ∃ N, N = s.length := ⟨_, rfl⟩
  have hN6 : N ≤ 65535 := by rw [hN, hs, sortF_length]; exact hll
  obtain ⟨R, hR⟩ : ∃ R, R = s.find? (fun y => ltK (size, off) (keyF szU f y)) := ⟨_, rfl⟩
  rw [← hs, ← hR]
  have HR := Lib.hid h
  have HV := Lib.hid (And.intro hv (And.intro hll hn))
  have HS := Lib.hid (And.intro hs (And.intro hN hR))
  clear h hv hn hll hs hN hR
  have hst := Lib.hid (Step.refl Nil w)
  go_enter Tryz.func56, Tryz.ntmps56
  obtain ⟨W1, hW1⟩ : ∃ W, W = w.alloc (.cells #[A, B] 71) := ⟨_, rfl⟩
  obtain ⟨B1, eB1⟩ : ∃ B, B = w.heap.size := ⟨_, rfl⟩
  replace hW1 := Lib.hid hW1
  replace eB1 := Lib.hid eB1
  go_wp2_with fail
  rw [← hW1.out]
  try rw [← eB1.out]
  have k1 : Keeps Nil w W1 := by rw [hW1.out]; exact alloc_keeps _ _
  have e0B1 : B1 = w.heap.size := by rw [eB1.out]
  have hB1 := Lib.hid (show Bx W1 Nil B1 #[A, B] 71 by rw [hW1.out]; exact Bx.new Nil.lt _ _ e0B1)
  have gB1 := Lib.hid (show w.heap.size ≤ B1 by rw [e0B1]; exact hst.out.keeps.size)
  replace hst := Lib.hid (hst.out.nil k1)
  clear k1 e0B1
  refine (rSorted_any (HR.out.keeps hst.out.keeps) (HV.out.1.keeps_nil hst.out.keeps) HV.out.2.1 HV.out.2.2).mono ?_
  rintro _ W2 ⟨v, rfl, ho, kn⟩
  replace ho := ho.shut (S' := Nil) (fun g hg e => e.elim)
  obtain ⟨as_, cs_, rfl, _⟩ := ho.val
  rw [← HS.out.1] at ho ⊢
  rw [← HS.out.2.1] at ho ⊢
  have hV := Lib.hid ho
  clear ho
  replace hst := Lib.hid (hst.out.nil kn)
  replace hB1 := Lib.hid (hB1.out.nil kn)
  clear kn
  have c_B1_0 := hB1.out.cell 0 _ rfl
  have f_B1_0 := hB1.out.frz 0
  have c_B1_1 := hB1.out.cell 1 _ rfl
  have f_B1_1 := hB1.out.frz 1
  have l_B1 := hB1.out.lt
  go_wp2_with fail
  clear c_B1_0 f_B1_0 c_B1_1 f_B1_1 l_B1
  have c_B1_0 := hB1.out.cell 0 _ rfl
  have f_B1_0 := hB1.out.frz 0
  have c_B1_1 := hB1.out.cell 1 _ rfl
  have f_B1_1 := hB1.out.frz 1
  have l_B1 := hB1.out.lt
  go_wp2_with fail
  clear c_B1_0 f_B1_0 c_B1_1 f_B1_1 l_B1
  go_loopw [11] (fun i wr => (∃ k : Nat, k ≤ N ∧ i = .int .i64 (k : Int) ∧ Hid (Keeps Nil w wr) ∧ Hid (View kU Nil wr (.slice as_ N cs_) s) ∧ Hid (∀ j z, j < k → s[j]? = some z → ltK (size, off) (keyF szU f z) = false)) ∧ Hid (Bx wr Nil B1 #[A, B] 71)) (fun i _ => N - (intOf i).toNat)
  case atStart => exact ⟨⟨0, Nat.zero_le _, rfl, Lib.hid hst.out.keeps, hV, Lib.hid (fun j z hj => by omega)⟩, hB1⟩
  case round =>
    clear hB1
    obtain ⟨hrel, hB1⟩ := hrel
    clear hV
    obtain ⟨k, hk, rfl, hK0, hV, HNO⟩ := hrel
    replace hst := Lib.hid (Step.of_nil (S := Nil) hK0.out)
    clear hK0
    by_cases hlt : k < N
    · obtain ⟨gs_, gso, cap, e1, hcp, _, _, _, _⟩ := hV.out.pos (by rw [← HS.out.2.1]; omega)
      simp only [Value.slice.injEq] at e1
      obtain ⟨rfl, hn1, rfl⟩ := e1
      clear hn1
      obtain ⟨y, hy⟩ : ∃ y, s[k]? = some y := ⟨s[k]'(by rw [← HS.out.2.1]; exact hlt), by simp⟩
      have HY := Lib.hid hy
      have HK := Lib.hid hlt
      clear hy hcp
      obtain ⟨z, hzz⟩ : ∃ z, z = sizeF f y := ⟨_, rfl⟩
      cases hb : ltK (size, off) (keyF szU f y) with
      | true =>
        have HB := Lib.hid hb
        have hkn := key_not hb
        have HLT := Lib.hid hkn.1
        have HNE := Lib.hid hkn.2
        clear hb hkn
        by_cases hz1 : z = size
        · have HSZ := Lib.hid hzz.symm
          have HZ := Lib.hid hz1
          have HYO := Lib.hid (HNE.out (by rw [HSZ.out]; exact hz1))
          clear hzz hz1
          have c_B1_0 := hB1.out.cell 0 _ rfl
          have f_B1_0 := hB1.out.frz 0
          have c_B1_1 := hB1.out.cell 1 _ rfl
          have f_B1_1 := hB1.out.frz 1
          have l_B1 := hB1.out.lt
          have e_y := View.cellX hV.out.at.2.2.2.2.2 k y HY.out
          have l_gs := hV.out.at.2.2.2.1
          go_wp2_with fail
          clear c_B1_0 f_B1_0 c_B1_1 f_B1_1 l_B1 e_y l_gs
          obtain ⟨W3, hW3⟩ : ∃ W, W = wr.drew := ⟨_, rfl⟩
          replace hW3 := Lib.hid hW3
          have kn : Keeps Nil wr W3 := by rw [hW3.out]; exact keeps_drew _
          replace hst := Lib.hid (hst.out.nil kn)
          replace hV := Lib.hid (hV.out.keeps_nil kn)
          replace hB1 := Lib.hid (hB1.out.nil kn)
          clear kn
          refine wp_region_held_drew (S := fun w' => w'.cell? ⟨B1, 0, none⟩ = some (A) ∧ w'.cell? ⟨B1, 1, none⟩ = some (B) ∧ w'.cell? ⟨gs_, gso + k, none⟩ = some (.int .u64 (y.toNat : Int))) (by kernel_rfl) (by rw [← hW3.out]; exact ⟨hB1.out.cell 0 _ rfl, hB1.out.cell 1 _ rfl, View.cellX hV.out.at.2.2.2.2.2 k y HY.out⟩) (fun hHeld => ?_)
          rw [← hW3.out] at hHeld ⊢
          refine wpAnyH_take (i := 0) (oi := _) (v := ?m1_v) rfl (by kernel_rfl) (by kernel_rfl) (by kernel_rfl) (fun _ _ _ h => h) (Or.inl ⟨by kernel_rfl, ?m1_h⟩) hHeld ?m1_r
          case m1_h => (intro w hSw; (try dsimp only at hSw); go_simp; try with_reducible rfl)
          try simp only [Act.put, List.getElem_toArray, List.getElem_cons_zero, List.setIfInBounds_toArray, List.set_cons_zero, List.set_cons_succ]
          refine wpAnyH_take (i := 1) (oi := _) (v := ?m2_v) rfl (by kernel_rfl) (by kernel_rfl) (by kernel_rfl) (fun _ _ _ h => h) (Or.inl ⟨by kernel_rfl, ?m2_h⟩) hHeld ?m2_r
          case m2_h => (intro w hSw; (try dsimp only at hSw); go_simp; try with_reducible rfl)
          try simp only [Act.put, List.getElem_toArray, List.getElem_cons_succ, List.getElem_cons_zero, List.setIfInBounds_toArray, List.set_cons_zero, List.set_cons_succ]
          refine wpAnyH_take (i := 2) (oi := _) (v := ?m3_v) rfl (by kernel_rfl) (by kernel_rfl) (by kernel_rfl) (fun _ _ _ h => h) (Or.inl ⟨by kernel_rfl, ?m3_h⟩) hHeld ?m3_r
          case m3_h => (intro w hSw; (try dsimp only at hSw); go_simp; try with_reducible rfl)
          try simp only [Act.put, List.getElem_toArray, List.getElem_cons_succ, List.getElem_cons_zero, List.setIfInBounds_toArray, List.set_cons_zero, List.set_cons_succ]
          refine wpAnyH_take (i := 3) (oi := _) (v := ?m4_v) rfl (by kernel_rfl) (by kernel_rfl) (by kernel_rfl) (fun _ _ _ h => h) (Or.inl ⟨by kernel_rfl, ?m4_h⟩) hHeld ?m4_r
          case m4_h => (intro w hSw; (try dsimp only at hSw); go_simp; try with_reducible rfl)
          try simp only [Act.put, List.getElem_toArray, List.getElem_cons_succ, List.getElem_cons_zero, List.setIfInBounds_toArray, List.set_cons_zero, List.set_cons_succ]
          refine wpAnyH_take (i := 4) (oi := _) (v := ?m5_v) rfl (by kernel_rfl) (by kernel_rfl) (by kernel_rfl) (fun _ _ _ h => h) (Or.inl ⟨by kernel_rfl, ?m5_h⟩) hHeld ?m5_r
          case m5_h => (intro w hSw; (try dsimp only at hSw); go_simp; try with_reducible rfl)
          try simp only [Act.put, List.getElem_toArray, List.getElem_cons_succ, List.getElem_cons_zero, List.setIfInBounds_toArray, List.set_cons_zero, List.set_cons_succ]
          refine wpAnyH_take (i := 5) (oi := _) (v := ?m6_v) rfl (by kernel_rfl) (by kernel_rfl) (by kernel_rfl) (fun _ _ _ h => h) (Or.inl ⟨by kernel_rfl, ?m6_h⟩) hHeld ?m6_r
          case m6_h => (intro w hSw; (try dsimp only at hSw); go_simp; try with_reducible rfl)
          try simp only [Act.put, List.getElem_toArray, List.getElem_cons_succ, List.getElem_cons_zero, List.setIfInBounds_toArray, List.set_cons_zero, List.set_cons_succ]
          refine wpAnyH_take (i := 6) (oi := _) (v := ?m7_v) rfl (by kernel_rfl) (by kernel_rfl) (by kernel_rfl) (fun _ _ _ h => h) (Or.inl ⟨by kernel_rfl, ?m7_h⟩) hHeld ?m7_r
          case m7_h => (intro w hSw; (try dsimp only at hSw); go_simp; try with_reducible rfl)
          try simp only [Act.put, List.getElem_toArray, List.getElem_cons_succ, List.getElem_cons_zero, List.setIfInBounds_toArray, List.set_cons_zero, List.set_cons_succ]
          refine wpAnyH_ready (rs := [7]) (by kernel_rfl) (by simp) ?_
          refine (AllReadyH.cons (o := _) rfl (fun K hK => ?_) AllReadyH.nil)
          go_simp
          refine (rLess_any (HR.out.keeps hst.out.keeps) y size off).mono ?_
          rintro _ W4 ⟨rfl, kn⟩
          rw [HLT.out]
          replace hst := Lib.hid (hst.out.nil kn)
          replace hV := Lib.hid (hV.out.keeps_nil kn)
          replace hB1 := Lib.hid (hB1.out.nil kn)
          clear kn
          refine hK.out _ _ (⟨hB1.out.cell 0 _ rfl, hB1.out.cell 1 _ rfl, View.cellX hV.out.at.2.2.2.2.2 k y HY.out⟩) (fun hHeld => ?_)
          clear hK K
          try simp only [Act.put, List.getElem_toArray, List.getElem_cons_succ, List.getElem_cons_zero, List.setIfInBounds_toArray, List.set_cons_zero, List.set_cons_succ]
          refine wpAnyH_take (i := 8) (oi := _) (v := ?m8_v) rfl (by kernel_rfl) (by kernel_rfl) (by kernel_rfl) (fun _ _ _ h => h) (Or.inl ⟨by kernel_rfl, ?m8_h⟩) hHeld ?m8_r
          case m8_h => (intro w hSw; (try dsimp only at hSw); go_simp; try with_reducible rfl)
          try simp only [Act.put, List.getElem_toArray, List.getElem_cons_succ, List.getElem_cons_zero, List.setIfInBounds_toArray, List.set_cons_zero, List.set_cons_succ]
          refine wpAnyH_take (i := 9) (oi := _) (v := ?m9_v) rfl (by kernel_rfl) (by kernel_rfl) (by kernel_rfl) (fun _ _ _ h => h) (Or.inl ⟨by kernel_rfl, ?m9_h⟩) hHeld ?m9_r
          case m9_h => (intro w hSw; (try dsimp only at hSw); go_simp; try with_reducible rfl)
          try simp only [Act.put, List.getElem_toArray, List.getElem_cons_succ, List.getElem_cons_zero, List.setIfInBounds_toArray, List.set_cons_zero, List.set_cons_succ]
          refine wpAnyH_take (i := 10) (oi := _) (v := ?m10_v) rfl (by kernel_rfl) (by kernel_rfl) (by kernel_rfl) (fun _ _ _ h => h) (Or.inl ⟨by kernel_rfl, ?m10_h⟩) hHeld ?m10_r
          case m10_h => (intro w hSw; (try dsimp only at hSw); go_simp; try with_reducible rfl)
          try simp only [Act.put, List.getElem_toArray, List.getElem_cons_succ, List.getElem_cons_zero, List.setIfInBounds_toArray, List.set_cons_zero, List.set_cons_succ]
          refine wpAnyH_take (i := 11) (oi := _) (v := ?m11_v) rfl (by kernel_rfl) (by kernel_rfl) (by kernel_rfl) (fun _ _ _ h => h) (Or.inl ⟨by kernel_rfl, ?m11_h⟩) hHeld ?m11_r
          case m11_h => (intro w hSw; (try dsimp only at hSw); go_simp; try with_reducible rfl)
          try simp only [Act.put, List.getElem_toArray, List.getElem_cons_succ, List.getElem_cons_zero, List.setIfInBounds_toArray, List.set_cons_zero, List.set_cons_succ]
          refine wpAnyH_take (i := 12) (oi := _) (v := ?m12_v) rfl (by kernel_rfl) (by kernel_rfl) (by kernel_rfl) (fun _ _ _ h => h) (Or.inl ⟨by kernel_rfl, ?m12_h⟩) hHeld ?m12_r
          case m12_h => (intro w hSw; (try dsimp only at hSw); go_simp; try with_reducible rfl)
          try simp only [Act.put, List.getElem_toArray, List.getElem_cons_succ, List.getElem_cons_zero, List.setIfInBounds_toArray, List.set_cons_zero, List.set_cons_succ]
          refine wpAnyH_take (i := 13) (oi := _) (v := ?m13_v) rfl (by kernel_rfl) (by kernel_rfl) (by kernel_rfl) (fun _ _ _ h => h) (Or.inl ⟨by kernel_rfl, ?m13_h⟩) hHeld ?m13_r
          case m13_h => (intro w hSw; (try dsimp only at hSw); go_simp; try with_reducible rfl)
          try simp only [Act.put, List.getElem_toArray, List.getElem_cons_succ, List.getElem_cons_zero, List.setIfInBounds_toArray, List.set_cons_zero, List.set_cons_succ]
          refine wpAnyH_take (i := 14) (oi := _) (v := ?m14_v) rfl (by kernel_rfl) (by kernel_rfl) (by kernel_rfl) (fun _ _ _ h => h) (Or.inl ⟨by kernel_rfl, ?m14_h⟩) hHeld ?m14_r
          case m14_h => (intro w hSw; (try dsimp only at hSw); go_simp; try with_reducible rfl)
          try simp only [Act.put, List.getElem_toArray, List.getElem_cons_succ, List.getElem_cons_zero, List.setIfInBounds_toArray, List.set_cons_zero, List.set_cons_succ]
          refine wpAnyH_take (i := 16) (oi := _) (v := ?m15_v) rfl (by kernel_rfl) (by kernel_rfl) (by kernel_rfl) (fun _ _ _ h => h) (Or.inl ⟨by kernel_rfl, ?m15_h⟩) hHeld ?m15_r
          case m15_h => (intro w hSw; (try dsimp only at hSw); go_simp; try with_reducible rfl)
          try simp only [Act.put, List.getElem_toArray, List.getElem_cons_succ, List.getElem_cons_zero, List.setIfInBounds_toArray, List.set_cons_zero, List.set_cons_succ]
          refine wpAnyH_ready (rs := [15]) (by kernel_rfl) (by simp) ?_
          refine (AllReadyH.cons (o := _) rfl (fun K hK => ?_) AllReadyH.nil)
          go_simp
          refine (rSize_any (HR.out.keeps hst.out.keeps) y _ rfl).mono ?_
          rintro _ W5 ⟨rfl, kn⟩
          rw [HSZ.out]
          replace hst := Lib.hid (hst.out.nil kn)
          replace hV := Lib.hid (hV.out.keeps_nil kn)
          replace hB1 := Lib.hid (hB1.out.nil kn)
          clear kn
          refine hK.out _ _ (⟨hB1.out.cell 0 _ rfl, hB1.out.cell 1 _ rfl, View.cellX hV.out.at.2.2.2.2.2 k y HY.out⟩) (fun hHeld => ?_)
          clear hK K
          try simp only [Act.put, List.getElem_toArray, List.getElem_cons_succ, List.getElem_cons_zero, List.setIfInBounds_toArray, List.set_cons_zero, List.set_cons_succ]
          have d1 : (((z.toNat : Int) : Int) != ((size.toNat : Int) : Int)) = false := (same_u64 (a := z) (b := size) (HZ.out)).1
          refine wpAnyH_take (i := 17) (oi := _) (v := ?m16_v) rfl (by kernel_rfl) (by kernel_rfl) (by kernel_rfl) (fun _ _ _ h => h) (Or.inl ⟨by kernel_rfl, ?m16_h⟩) hHeld ?m16_r
          case m16_h => (intro w hSw; (try dsimp only at hSw); go_simp; try with_reducible rfl)
          try simp only [Act.put, List.getElem_toArray, List.getElem_cons_succ, List.getElem_cons_zero, List.setIfInBounds_toArray, List.set_cons_zero, List.set_cons_succ]
          refine wpAnyH_take (i := 18) (oi := _) (v := ?m17_v) rfl (by kernel_rfl) (by kernel_rfl) (by kernel_rfl) (fun _ _ _ h => h) (Or.inl ⟨by kernel_rfl, ?m17_h⟩) hHeld ?m17_r
          case m17_h => (intro w hSw; (try dsimp only at hSw); go_simp; try with_reducible rfl)
          try simp only [Act.put, List.getElem_toArray, List.getElem_cons_succ, List.getElem_cons_zero, List.setIfInBounds_toArray, List.set_cons_zero, List.set_cons_succ]
          refine wpAnyH_take (i := 19) (oi := _) (v := ?m18_v) rfl (by kernel_rfl) (by kernel_rfl) (by kernel_rfl) (fun _ _ _ h => h) (Or.inl ⟨by kernel_rfl, ?m18_h⟩) hHeld ?m18_r
          case m18_h => (intro w hSw; (try dsimp only at hSw); go_simp; try with_reducible rfl)
          try simp only [Act.put, List.getElem_toArray, List.getElem_cons_succ, List.getElem_cons_zero, List.setIfInBounds_toArray, List.set_cons_zero, List.set_cons_succ]
          refine wpAnyH_take (i := 20) (oi := _) (v := ?m19_v) rfl (by kernel_rfl) (by kernel_rfl) (by kernel_rfl) (fun _ _ _ h => h) (Or.inl ⟨by kernel_rfl, ?m19_h⟩) hHeld ?m19_r
          case m19_h => (intro w hSw; (try dsimp only at hSw); go_simp; try with_reducible rfl)
          try simp only [Act.put, List.getElem_toArray, List.getElem_cons_succ, List.getElem_cons_zero, List.setIfInBounds_toArray, List.set_cons_zero, List.set_cons_succ]
          refine wpAnyH_take (i := 21) (oi := _) (v := ?m20_v) rfl (by kernel_rfl) (by kernel_rfl) (by kernel_rfl) (fun _ _ _ h => h) (Or.inl ⟨by kernel_rfl, ?m20_h⟩) hHeld ?m20_r
          case m20_h => (intro w hSw; (try dsimp only at hSw); go_simp; try with_reducible rfl)
          try simp only [Act.put, List.getElem_toArray, List.getElem_cons_succ, List.getElem_cons_zero, List.setIfInBounds_toArray, List.set_cons_zero, List.set_cons_succ]
          refine wpAnyH_take (i := 22) (oi := _) (v := ?m21_v) rfl (by kernel_rfl) (by kernel_rfl) (by kernel_rfl) (fun _ _ _ h => h) (Or.inl ⟨by kernel_rfl, ?m21_h⟩) hHeld ?m21_r
          case m21_h => (intro w hSw; (try dsimp only at hSw); go_simp; try with_reducible rfl)
          try simp only [Act.put, List.getElem_toArray, List.getElem_cons_succ, List.getElem_cons_zero, List.setIfInBounds_toArray, List.set_cons_zero, List.set_cons_succ]
          refine wpAnyH_take (i := 23) (oi := _) (v := ?m22_v) rfl (by kernel_rfl) (by kernel_rfl) (by kernel_rfl) (fun _ _ _ h => h) (Or.inl ⟨by kernel_rfl, ?m22_h⟩) hHeld ?m22_r
          case m22_h => (intro w hSw; (try dsimp only at hSw); go_simp; try with_reducible rfl)
          try simp only [Act.put, List.getElem_toArray, List.getElem_cons_succ, List.getElem_cons_zero, List.setIfInBounds_toArray, List.set_cons_zero, List.set_cons_succ]
          have d2 : (((y.toNat : Int) : Int) != ((off.toNat : Int) : Int)) = true := (unlike_u64 (a := y) (b := off) (HYO.out)).1
          refine wpAnyH_take (i := 24) (oi := _) (v := ?m23_v) rfl (by kernel_rfl) (by kernel_rfl) (by kernel_rfl) (fun _ _ _ h => h) (Or.inl ⟨by kernel_rfl, ?m23_h⟩) hHeld ?m23_r
          case m23_h => (intro w hSw; (try dsimp only at hSw); go_simp; try with_reducible rfl)
          try simp only [Act.put, List.getElem_toArray, List.getElem_cons_succ, List.getElem_cons_zero, List.setIfInBounds_toArray, List.set_cons_zero, List.set_cons_succ]
          refine wpAnyH_take (i := 25) (oi := _) (v := ?m24_v) rfl (by kernel_rfl) (by kernel_rfl) (by kernel_rfl) (fun _ _ _ h => h) (Or.inl ⟨by kernel_rfl, ?m24_h⟩) hHeld ?m24_r
          case m24_h => (intro w hSw; (try dsimp only at hSw); go_simp; try with_reducible rfl)
          try simp only [Act.put, List.getElem_toArray, List.getElem_cons_succ, List.getElem_cons_zero, List.setIfInBounds_toArray, List.set_cons_zero, List.set_cons_succ]
          refine wpAnyH_take (i := 26) (oi := _) (v := ?m25_v) rfl (by kernel_rfl) (by kernel_rfl) (by kernel_rfl) (fun _ _ _ h => h) (Or.inl ⟨by kernel_rfl, ?m25_h⟩) hHeld ?m25_r
          case m25_h => (intro w hSw; (try dsimp only at hSw); go_simp; try with_reducible rfl)
          try simp only [Act.put, List.getElem_toArray, List.getElem_cons_succ, List.getElem_cons_zero, List.setIfInBounds_toArray, List.set_cons_zero, List.set_cons_succ]
          refine wpAnyH_done (by kernel_rfl) ?_ _
          clear hHeld
          have c_B1_0 := hB1.out.cell 0 _ rfl
          have f_B1_0 := hB1.out.frz 0
          have c_B1_1 := hB1.out.cell 1 _ rfl
          have f_B1_1 := hB1.out.frz 1
          have l_B1 := hB1.out.lt
          have e_y := View.cellX hV.out.at.2.2.2.2.2 k y HY.out
          have l_gs := hV.out.at.2.2.2.1
          go_wp2_with fail
          go_ret2
          clear c_B1_0 f_B1_0 c_B1_1 f_B1_1 l_B1 e_y l_gs
          have hf : R = some y := by rw [HS.out.2.2]; exact find_at HY.out HB.out HNO.out
          exact ⟨by rw [hf]; rfl, hst.out.keeps⟩
        · have HSZ := Lib.hid hzz.symm
          have HZ := Lib.hid hz1
          clear hzz hz1
          have c_B1_0 := hB1.out.cell 0 _ rfl
          have f_B1_0 := hB1.out.frz 0
          have c_B1_1 := hB1.out.cell 1 _ rfl
          have f_B1_1 := hB1.out.frz 1
          have l_B1 := hB1.out.lt
          have e_y := View.cellX hV.out.at.2.2.2.2.2 k y HY.out
          have l_gs := hV.out.at.2.2.2.1
          go_wp2_with fail
          clear c_B1_0 f_B1_0 c_B1_1 f_B1_1 l_B1 e_y l_gs
          obtain ⟨W3, hW3⟩ : ∃ W, W = wr.drew := ⟨_, rfl⟩
          replace hW3 := Lib.hid hW3
          have kn : Keeps Nil wr W3 := by rw [hW3.out]; exact keeps_drew _
          replace hst := Lib.hid (hst.out.nil kn)
          replace hV := Lib.hid (hV.out.keeps_nil kn)
          replace hB1 := Lib.hid (hB1.out.nil kn)
          clear kn
          refine wp_region_held_drew (S := fun w' => w'.cell? ⟨B1, 0, none⟩ = some (A) ∧ w'.cell? ⟨B1, 1, none⟩ = some (B) ∧ w'.cell? ⟨gs_, gso + k, none⟩ = some (.int .u64 (y.toNat : Int))) (by kernel_rfl) (by rw [← hW3.out]; exact ⟨hB1.out.cell 0 _ rfl, hB1.out.cell 1 _ rfl, View.cellX hV.out.at.2.2.2.2.2 k y HY.out⟩) (fun hHeld => ?_)
          rw [← hW3.out] at hHeld ⊢
          refine wpAnyH_take (i := 0) (oi := _) (v := ?m26_v) rfl (by kernel_rfl) (by kernel_rfl) (by kernel_rfl) (fun _ _ _ h => h) (Or.inl ⟨by kernel_rfl, ?m26_h⟩) hHeld ?m26_r
          case m26_h => (intro w hSw; (try dsimp only at hSw); go_simp; try with_reducible rfl)
          try simp only [Act.put, List.getElem_toArray, List.getElem_cons_zero, List.setIfInBounds_toArray, List.set_cons_zero, List.set_cons_succ]
          refine wpAnyH_take (i := 1) (oi := _) (v := ?m27_v) rfl (by kernel_rfl) (by kernel_rfl) (by kernel_rfl) (fun _ _ _ h => h) (Or.inl ⟨by kernel_rfl, ?m27_h⟩) hHeld ?m27_r
          case m27_h => (intro w hSw; (try dsimp only at hSw); go_simp; try with_reducible rfl)
          try simp only [Act.put, List.getElem_toArray, List.getElem_cons_succ, List.getElem_cons_zero, List.setIfInBounds_toArray, List.set_cons_zero, List.set_cons_succ]
          refine wpAnyH_take (i := 2) (oi := _) (v := ?m28_v) rfl (by kernel_rfl) (by kernel_rfl) (by kernel_rfl) (fun _ _ _ h => h) (Or.inl ⟨by kernel_rfl, ?m28_h⟩) hHeld ?m28_r
          case m28_h => (intro w hSw; (try dsimp only at hSw); go_simp; try with_reducible rfl)
          try simp only [Act.put, List.getElem_toArray, List.getElem_cons_succ, List.getElem_cons_zero, List.setIfInBounds_toArray, List.set_cons_zero, List.set_cons_succ]
          refine wpAnyH_take (i := 3) (oi := _) (v := ?m29_v) rfl (by kernel_rfl) (by kernel_rfl) (by kernel_rfl) (fun _ _ _ h => h) (Or.inl ⟨by kernel_rfl, ?m29_h⟩) hHeld ?m29_r
          case m29_h => (intro w hSw; (try dsimp only at hSw); go_simp; try with_reducible rfl)
          try simp only [Act.put, List.getElem_toArray, List.getElem_cons_succ, List.getElem_cons_zero, List.setIfInBounds_toArray, List.set_cons_zero, List.set_cons_succ]
          refine wpAnyH_take (i := 4) (oi := _) (v := ?m30_v) rfl (by kernel_rfl) (by kernel_rfl) (by kernel_rfl) (fun _ _ _ h => h) (Or.inl ⟨by kernel_rfl, ?m30_h⟩) hHeld ?m30_r
          case m30_h => (intro w hSw; (try dsimp only at hSw); go_simp; try with_reducible rfl)
          try simp only [Act.put, List.getElem_toArray, List.getElem_cons_succ, List.getElem_cons_zero, List.setIfInBounds_toArray, List.set_cons_zero, List.set_cons_succ]
          refine wpAnyH_take (i := 5) (oi := _) (v := ?m31_v) rfl (by kernel_rfl) (by kernel_rfl) (by kernel_rfl) (fun _ _ _ h => h) (Or.inl ⟨by kernel_rfl, ?m31_h⟩) hHeld ?m31_r
          case m31_h => (intro w hSw; (try dsimp only at hSw); go_simp; try with_reducible rfl)
          try simp only [Act.put, List.getElem_toArray, List.getElem_cons_succ, List.getElem_cons_zero, List.setIfInBounds_toArray, List.set_cons_zero, List.set_cons_succ]
          refine wpAnyH_take (i := 6) (oi := _) (v := ?m32_v) rfl (by kernel_rfl) (by kernel_rfl) (by kernel_rfl) (fun _ _ _ h => h) (Or.inl ⟨by kernel_rfl, ?m32_h⟩) hHeld ?m32_r
          case m32_h => (intro w hSw; (try dsimp only at hSw); go_simp; try with_reducible rfl)
          try simp only [Act.put, List.getElem_toArray, List.getElem_cons_succ, List.getElem_cons_zero, List.setIfInBounds_toArray, List.set_cons_zero, List.set_cons_succ]
          refine wpAnyH_ready (rs := [7]) (by kernel_rfl) (by simp) ?_
          refine (AllReadyH.cons (o := _) rfl (fun K hK => ?_) AllReadyH.nil)
          go_simp
          refine (rLess_any (HR.out.keeps hst.out.keeps) y size off).mono ?_
          rintro _ W4 ⟨rfl, kn⟩
          rw [HLT.out]
          replace hst := Lib.hid (hst.out.nil kn)
          replace hV := Lib.hid (hV.out.keeps_nil kn)
          replace hB1 := Lib.hid (hB1.out.nil kn)
          clear kn
          refine hK.out _ _ (⟨hB1.out.cell 0 _ rfl, hB1.out.cell 1 _ rfl, View.cellX hV.out.at.2.2.2.2.2 k y HY.out⟩) (fun hHeld => ?_)
          clear hK K
          try simp only [Act.put, List.getElem_toArray, List.getElem_cons_succ, List.getElem_cons_zero, List.setIfInBounds_toArray, List.set_cons_zero, List.set_cons_succ]
          refine wpAnyH_take (i := 8) (oi := _) (v := ?m33_v) rfl (by kernel_rfl) (by kernel_rfl) (by kernel_rfl) (fun _ _ _ h => h) (Or.inl ⟨by kernel_rfl, ?m33_h⟩) hHeld ?m33_r
          case m33_h => (intro w hSw; (try dsimp only at hSw); go_simp; try with_reducible rfl)
          try simp only [Act.put, List.getElem_toArray, List.getElem_cons_succ, List.getElem_cons_zero, List.setIfInBounds_toArray, List.set_cons_zero, List.set_cons_succ]
          refine wpAnyH_take (i := 9) (oi := _) (v := ?m34_v) rfl (by kernel_rfl) (by kernel_rfl) (by kernel_rfl) (fun _ _ _ h => h) (Or.inl ⟨by kernel_rfl, ?m34_h⟩) hHeld ?m34_r
          case m34_h => (intro w hSw; (try dsimp only at hSw); go_simp; try with_reducible rfl)
          try simp only [Act.put, List.getElem_toArray, List.getElem_cons_succ, List.getElem_cons_zero, List.setIfInBounds_toArray, List.set_cons_zero, List.set_cons_succ]
          refine wpAnyH_take (i := 10) (oi := _) (v := ?m35_v) rfl (by kernel_rfl) (by kernel_rfl) (by kernel_rfl) (fun _ _ _ h => h) (Or.inl ⟨by kernel_rfl, ?m35_h⟩) hHeld ?m35_r
          case m35_h => (intro w hSw; (try dsimp only at hSw); go_simp; try with_reducible rfl)
          try simp only [Act.put, List.getElem_toArray, List.getElem_cons_succ, List.getElem_cons_zero, List.setIfInBounds_toArray, List.set_cons_zero, List.set_cons_succ]
          refine wpAnyH_take (i := 11) (oi := _) (v := ?m36_v) rfl (by kernel_rfl) (by kernel_rfl) (by kernel_rfl) (fun _ _ _ h => h) (Or.inl ⟨by kernel_rfl, ?m36_h⟩) hHeld ?m36_r
          case m36_h => (intro w hSw; (try dsimp only at hSw); go_simp; try with_reducible rfl)
          try simp only [Act.put, List.getElem_toArray, List.getElem_cons_succ, List.getElem_cons_zero, List.setIfInBounds_toArray, List.set_cons_zero, List.set_cons_succ]
          refine wpAnyH_take (i := 12) (oi := _) (v := ?m37_v) rfl (by kernel_rfl) (by kernel_rfl) (by kernel_rfl) (fun _ _ _ h => h) (Or.inl ⟨by kernel_rfl, ?m37_h⟩) hHeld ?m37_r
          case m37_h => (intro w hSw; (try dsimp only at hSw); go_simp; try with_reducible rfl)
          try simp only [Act.put, List.getElem_toArray, List.getElem_cons_succ, List.getElem_cons_zero, List.setIfInBounds_toArray, List.set_cons_zero, List.set_cons_succ]
          refine wpAnyH_take (i := 13) (oi := _) (v := ?m38_v) rfl (by kernel_rfl) (by kernel_rfl) (by kernel_rfl) (fun _ _ _ h => h) (Or.inl ⟨by kernel_rfl, ?m38_h⟩) hHeld ?m38_r
          case m38_h => (intro w hSw; (try dsimp only at hSw); go_simp; try with_reducible rfl)
          try simp only [Act.put, List.getElem_toArray, List.getElem_cons_succ, List.getElem_cons_zero, List.setIfInBounds_toArray, List.set_cons_zero, List.set_cons_succ]
          refine wpAnyH_take (i := 14) (oi := _) (v := ?m39_v) rfl (by kernel_rfl) (by kernel_rfl) (by kernel_rfl) (fun _ _ _ h => h) (Or.inl ⟨by kernel_rfl, ?m39_h⟩) hHeld ?m39_r
          case m39_h => (intro w hSw; (try dsimp only at hSw); go_simp; try with_reducible rfl)
          try simp only [Act.put, List.getElem_toArray, List.getElem_cons_succ, List.getElem_cons_zero, List.setIfInBounds_toArray, List.set_cons_zero, List.set_cons_succ]
          refine wpAnyH_take (i := 16) (oi := _) (v := ?m40_v) rfl (by kernel_rfl) (by kernel_rfl) (by kernel_rfl) (fun _ _ _ h => h) (Or.inl ⟨by kernel_rfl, ?m40_h⟩) hHeld ?m40_r
          case m40_h => (intro w hSw; (try dsimp only at hSw); go_simp; try with_reducible rfl)
          try simp only [Act.put, List.getElem_toArray, List.getElem_cons_succ, List.getElem_cons_zero, List.setIfInBounds_toArray, List.set_cons_zero, List.set_cons_succ]
          refine wpAnyH_ready (rs := [15]) (by kernel_rfl) (by simp) ?_
          refine (AllReadyH.cons (o := _) rfl (fun K hK => ?_) AllReadyH.nil)
          go_simp
          refine (rSize_any (HR.out.keeps hst.out.keeps) y _ rfl).mono ?_
          rintro _ W5 ⟨rfl, kn⟩
          rw [HSZ.out]
          replace hst := Lib.hid (hst.out.nil kn)
          replace hV := Lib.hid (hV.out.keeps_nil kn)
          replace hB1 := Lib.hid (hB1.out.nil kn)
          clear kn
          refine hK.out _ _ (⟨hB1.out.cell 0 _ rfl, hB1.out.cell 1 _ rfl, View.cellX hV.out.at.2.2.2.2.2 k y HY.out⟩) (fun hHeld => ?_)
          clear hK K
          try simp only [Act.put, List.getElem_toArray, List.getElem_cons_succ, List.getElem_cons_zero, List.setIfInBounds_toArray, List.set_cons_zero, List.set_cons_succ]
          have d1 : (((z.toNat : Int) : Int) != ((size.toNat : Int) : Int)) = true := (unlike_u64 (a := z) (b := size) (HZ.out)).1
          refine wpAnyH_take (i := 17) (oi := _) (v := ?m41_v) rfl (by kernel_rfl) (by kernel_rfl) (by kernel_rfl) (fun _ _ _ h => h) (Or.inl ⟨by kernel_rfl, ?m41_h⟩) hHeld ?m41_r
          case m41_h => (intro w hSw; (try dsimp only at hSw); go_simp; try with_reducible rfl)
          try simp only [Act.put, List.getElem_toArray, List.getElem_cons_succ, List.getElem_cons_zero, List.setIfInBounds_toArray, List.set_cons_zero, List.set_cons_succ]
          refine wpAnyH_take (i := 18) (oi := _) (v := ?m42_v) rfl (by kernel_rfl) (by kernel_rfl) (by kernel_rfl) (fun _ _ _ h => h) (Or.inl ⟨by kernel_rfl, ?m42_h⟩) hHeld ?m42_r
          case m42_h => (intro w hSw; (try dsimp only at hSw); go_simp; try with_reducible rfl)
          try simp only [Act.put, List.getElem_toArray, List.getElem_cons_succ, List.getElem_cons_zero, List.setIfInBounds_toArray, List.set_cons_zero, List.set_cons_succ]
          refine wpAnyH_take (i := 19) (oi := _) (v := undef) rfl (by kernel_rfl) (by kernel_rfl) (by kernel_rfl) (fun _ _ _ h => h) (Or.inr ⟨by kernel_rfl, rfl⟩) hHeld ?_
          try simp only [Act.put, List.getElem_toArray, List.getElem_cons_succ, List.getElem_cons_zero, List.setIfInBounds_toArray, List.set_cons_zero, List.set_cons_succ]
          refine wpAnyH_take (i := 20) (oi := _) (v := undef) rfl (by kernel_rfl) (by kernel_rfl) (by kernel_rfl) (fun _ _ _ h => h) (Or.inr ⟨by kernel_rfl, rfl⟩) hHeld ?_
          try simp only [Act.put, List.getElem_toArray, List.getElem_cons_succ, List.getElem_cons_zero, List.setIfInBounds_toArray, List.set_cons_zero, List.set_cons_succ]
          refine wpAnyH_take (i := 21) (oi := _) (v := undef) rfl (by kernel_rfl) (by kernel_rfl) (by kernel_rfl) (fun _ _ _ h => h) (Or.inr ⟨by kernel_rfl, rfl⟩) hHeld ?_
          try simp only [Act.put, List.getElem_toArray, List.getElem_cons_succ, List.getElem_cons_zero, List.setIfInBounds_toArray, List.set_cons_zero, List.set_cons_succ]
          refine wpAnyH_take (i := 22) (oi := _) (v := undef) rfl (by kernel_rfl) (by kernel_rfl) (by kernel_rfl) (fun _ _ _ h => h) (Or.inr ⟨by kernel_rfl, rfl⟩) hHeld ?_
          try simp only [Act.put, List.getElem_toArray, List.getElem_cons_succ, List.getElem_cons_zero, List.setIfInBounds_toArray, List.set_cons_zero, List.set_cons_succ]
          refine wpAnyH_take (i := 23) (oi := _) (v := undef) rfl (by kernel_rfl) (by kernel_rfl) (by kernel_rfl) (fun _ _ _ h => h) (Or.inr ⟨by kernel_rfl, rfl⟩) hHeld ?_
          try simp only [Act.put, List.getElem_toArray, List.getElem_cons_succ, List.getElem_cons_zero, List.setIfInBounds_toArray, List.set_cons_zero, List.set_cons_succ]
          refine wpAnyH_take (i := 24) (oi := _) (v := undef) rfl (by kernel_rfl) (by kernel_rfl) (by kernel_rfl) (fun _ _ _ h => h) (Or.inr ⟨by kernel_rfl, rfl⟩) hHeld ?_
          try simp only [Act.put, List.getElem_toArray, List.getElem_cons_succ, List.getElem_cons_zero, List.setIfInBounds_toArray, List.set_cons_zero, List.set_cons_succ]
          refine wpAnyH_take (i := 25) (oi := _) (v := ?m43_v) rfl (by kernel_rfl) (by kernel_rfl) (by kernel_rfl) (fun _ _ _ h => h) (Or.inl ⟨by kernel_rfl, ?m43_h⟩) hHeld ?m43_r
          case m43_h => (intro w hSw; (try dsimp only at hSw); go_simp; try with_reducible rfl)
          try simp only [Act.put, List.getElem_toArray, List.getElem_cons_succ, List.getElem_cons_zero, List.setIfInBounds_toArray, List.set_cons_zero, List.set_cons_succ]
          refine wpAnyH_take (i := 26) (oi := _) (v := ?m44_v) rfl (by kernel_rfl) (by kernel_rfl) (by kernel_rfl) (fun _ _ _ h => h) (Or.inl ⟨by kernel_rfl, ?m44_h⟩) hHeld ?m44_r
          case m44_h => (intro w hSw; (try dsimp only at hSw); go_simp; try with_reducible rfl)
          try simp only [Act.put, List.getElem_toArray, List.getElem_cons_succ, List.getElem_cons_zero, List.setIfInBounds_toArray, List.set_cons_zero, List.set_cons_succ]
          refine wpAnyH_done (by kernel_rfl) ?_ _
          clear hHeld
          have c_B1_0 := hB1.out.cell 0 _ rfl
          have f_B1_0 := hB1.out.frz 0
          have c_B1_1 := hB1.out.cell 1 _ rfl
          have f_B1_1 := hB1.out.frz 1
          have l_B1 := hB1.out.lt
          have e_y := View.cellX hV.out.at.2.2.2.2.2 k y HY.out
          have l_gs := hV.out.at.2.2.2.1
          go_wp2_with fail
          go_ret2
          clear c_B1_0 f_B1_0 c_B1_1 f_B1_1 l_B1 e_y l_gs
          have hf : R = some y := by rw [HS.out.2.2]; exact find_at HY.out HB.out HNO.out
          exact ⟨by rw [hf]; rfl, hst.out.keeps⟩
      | false =>
        have HB := Lib.hid hb
        cases hl : ltK (keyF szU f y) (size, off) with
        | true =>
          have HLT := Lib.hid hl
          clear hb hl hzz
          have c_B1_0 := hB1.out.cell 0 _ rfl
          have f_B1_0 := hB1.out.frz 0
          have c_B1_1 := hB1.out.cell 1 _ rfl
          have f_B1_1 := hB1.out.frz 1
          have l_B1 := hB1.out.lt
          have e_y := View.cellX hV.out.at.2.2.2.2.2 k y HY.out
          have l_gs := hV.out.at.2.2.2.1
          go_wp2_with fail
          clear c_B1_0 f_B1_0 c_B1_1 f_B1_1 l_B1 e_y l_gs
          obtain ⟨W3, hW3⟩ : ∃ W, W = wr.drew := ⟨_, rfl⟩
          replace hW3 := Lib.hid hW3
          have kn : Keeps Nil wr W3 := by rw [hW3.out]; exact keeps_drew _
          replace hst := Lib.hid (hst.out.nil kn)
          replace hV := Lib.hid (hV.out.keeps_nil kn)
          replace hB1 := Lib.hid (hB1.out.nil kn)
          clear kn
          refine wp_region_held_drew (S := fun w' => w'.cell? ⟨B1, 0, none⟩ = some (A) ∧ w'.cell? ⟨B1, 1, none⟩ = some (B) ∧ w'.cell? ⟨gs_, gso + k, none⟩ = some (.int .u64 (y.toNat : Int))) (by kernel_rfl) (by rw [← hW3.out]; exact ⟨hB1.out.cell 0 _ rfl, hB1.out.cell 1 _ rfl, View.cellX hV.out.at.2.2.2.2.2 k y HY.out⟩) (fun hHeld => ?_)
          rw [← hW3.out] at hHeld ⊢
          refine wpAnyH_take (i := 0) (oi := _) (v := ?m45_v) rfl (by kernel_rfl) (by kernel_rfl) (by kernel_rfl) (fun _ _ _ h => h) (Or.inl ⟨by kernel_rfl, ?m45_h⟩) hHeld ?m45_r
          case m45_h => (intro w hSw; (try dsimp only at hSw); go_simp; try with_reducible rfl)
          try simp only [Act.put, List.getElem_toArray, List.getElem_cons_zero, List.setIfInBounds_toArray, List.set_cons_zero, List.set_cons_succ]
          refine wpAnyH_take (i := 1) (oi := _) (v := ?m46_v) rfl (by kernel_rfl) (by kernel_rfl) (by kernel_rfl) (fun _ _ _ h => h) (Or.inl ⟨by kernel_rfl, ?m46_h⟩) hHeld ?m46_r
          case m46_h => (intro w hSw; (try dsimp only at hSw); go_simp; try with_reducible rfl)
          try simp only [Act.put, List.getElem_toArray, List.getElem_cons_succ, List.getElem_cons_zero, List.setIfInBounds_toArray, List.set_cons_zero, List.set_cons_succ]
          refine wpAnyH_take (i := 2) (oi := _) (v := ?m47_v) rfl (by kernel_rfl) (by kernel_rfl) (by kernel_rfl) (fun _ _ _ h => h) (Or.inl ⟨by kernel_rfl, ?m47_h⟩) hHeld ?m47_r
          case m47_h => (intro w hSw; (try dsimp only at hSw); go_simp; try with_reducible rfl)
          try simp only [Act.put, List.getElem_toArray, List.getElem_cons_succ, List.getElem_cons_zero, List.setIfInBounds_toArray, List.set_cons_zero, List.set_cons_succ]
          refine wpAnyH_take (i := 3) (oi := _) (v := ?m48_v) rfl (by kernel_rfl) (by kernel_rfl) (by kernel_rfl) (fun _ _ _ h => h) (Or.inl ⟨by kernel_rfl, ?m48_h⟩) hHeld ?m48_r
          case m48_h => (intro w hSw; (try dsimp only at hSw); go_simp; try with_reducible rfl)
          try simp only [Act.put, List.getElem_toArray, List.getElem_cons_succ, List.getElem_cons_zero, List.setIfInBounds_toArray, List.set_cons_zero, List.set_cons_succ]
          refine wpAnyH_take (i := 4) (oi := _) (v := ?m49_v) rfl (by kernel_rfl) (by kernel_rfl) (by kernel_rfl) (fun _ _ _ h => h) (Or.inl ⟨by kernel_rfl, ?m49_h⟩) hHeld ?m49_r
          case m49_h => (intro w hSw; (try dsimp only at hSw); go_simp; try with_reducible rfl)
          try simp only [Act.put, List.getElem_toArray, List.getElem_cons_succ, List.getElem_cons_zero, List.setIfInBounds_toArray, List.set_cons_zero, List.set_cons_succ]
          refine wpAnyH_take (i := 5) (oi := _) (v := ?m50_v) rfl (by kernel_rfl) (by kernel_rfl) (by kernel_rfl) (fun _ _ _ h => h) (Or.inl ⟨by kernel_rfl, ?m50_h⟩) hHeld ?m50_r
          case m50_h => (intro w hSw; (try dsimp only at hSw); go_simp; try with_reducible rfl)
          try simp only [Act.put, List.getElem_toArray, List.getElem_cons_succ, List.getElem_cons_zero, List.setIfInBounds_toArray, List.set_cons_zero, List.set_cons_succ]
          refine wpAnyH_take (i := 6) (oi := _) (v := ?m51_v) rfl (by kernel_rfl) (by kernel_rfl) (by kernel_rfl) (fun _ _ _ h => h) (Or.inl ⟨by kernel_rfl, ?m51_h⟩) hHeld ?m51_r
          case m51_h => (intro w hSw; (try dsimp only at hSw); go_simp; try with_reducible rfl)
          try simp only [Act.put, List.getElem_toArray, List.getElem_cons_succ, List.getElem_cons_zero, List.setIfInBounds_toArray, List.set_cons_zero, List.set_cons_succ]
          refine wpAnyH_ready (rs := [7]) (by kernel_rfl) (by simp) ?_
          refine (AllReadyH.cons (o := _) rfl (fun K hK => ?_) AllReadyH.nil)
          go_simp
          refine (rLess_any (HR.out.keeps hst.out.keeps) y size off).mono ?_
          rintro _ W4 ⟨rfl, kn⟩
          rw [HLT.out]
          replace hst := Lib.hid (hst.out.nil kn)
          replace hV := Lib.hid (hV.out.keeps_nil kn)
          replace hB1 := Lib.hid (hB1.out.nil kn)
          clear kn
          refine hK.out _ _ (⟨hB1.out.cell 0 _ rfl, hB1.out.cell 1 _ rfl, View.cellX hV.out.at.2.2.2.2.2 k y HY.out⟩) (fun hHeld => ?_)
          clear hK K
          try simp only [Act.put, List.getElem_toArray, List.getElem_cons_succ, List.getElem_cons_zero, List.setIfInBounds_toArray, List.set_cons_zero, List.set_cons_succ]
          refine wpAnyH_take (i := 8) (oi := _) (v := ?m52_v) rfl (by kernel_rfl) (by kernel_rfl) (by kernel_rfl) (fun _ _ _ h => h) (Or.inl ⟨by kernel_rfl, ?m52_h⟩) hHeld ?m52_r
          case m52_h => (intro w hSw; (try dsimp only at hSw); go_simp; try with_reducible rfl)
          try simp only [Act.put, List.getElem_toArray, List.getElem_cons_succ, List.getElem_cons_zero, List.setIfInBounds_toArray, List.set_cons_zero, List.set_cons_succ]
          refine wpAnyH_take (i := 9) (oi := _) (v := ?m53_v) rfl (by kernel_rfl) (by kernel_rfl) (by kernel_rfl) (fun _ _ _ h => h) (Or.inl ⟨by kernel_rfl, ?m53_h⟩) hHeld ?m53_r
          case m53_h => (intro w hSw; (try dsimp only at hSw); go_simp; try with_reducible rfl)
          try simp only [Act.put, List.getElem_toArray, List.getElem_cons_succ, List.getElem_cons_zero, List.setIfInBounds_toArray, List.set_cons_zero, List.set_cons_succ]
          refine wpAnyH_take (i := 10) (oi := _) (v := undef) rfl (by kernel_rfl) (by kernel_rfl) (by kernel_rfl) (fun _ _ _ h => h) (Or.inr ⟨by kernel_rfl, rfl⟩) hHeld ?_
          try simp only [Act.put, List.getElem_toArray, List.getElem_cons_succ, List.getElem_cons_zero, List.setIfInBounds_toArray, List.set_cons_zero, List.set_cons_succ]
          refine wpAnyH_take (i := 11) (oi := _) (v := undef) rfl (by kernel_rfl) (by kernel_rfl) (by kernel_rfl) (fun _ _ _ h => h) (Or.inr ⟨by kernel_rfl, rfl⟩) hHeld ?_
          try simp only [Act.put, List.getElem_toArray, List.getElem_cons_succ, List.getElem_cons_zero, List.setIfInBounds_toArray, List.set_cons_zero, List.set_cons_succ]
          refine wpAnyH_take (i := 12) (oi := _) (v := undef) rfl (by kernel_rfl) (by kernel_rfl) (by kernel_rfl) (fun _ _ _ h => h) (Or.inr ⟨by kernel_rfl, rfl⟩) hHeld ?_
          try simp only [Act.put, List.getElem_toArray, List.getElem_cons_succ, List.getElem_cons_zero, List.setIfInBounds_toArray, List.set_cons_zero, List.set_cons_succ]
          refine wpAnyH_take (i := 13) (oi := _) (v := undef) rfl (by kernel_rfl) (by kernel_rfl) (by kernel_rfl) (fun _ _ _ h => h) (Or.inr ⟨by kernel_rfl, rfl⟩) hHeld ?_
          try simp only [Act.put, List.getElem_toArray, List.getElem_cons_succ, List.getElem_cons_zero, List.setIfInBounds_toArray, List.set_cons_zero, List.set_cons_succ]
          refine wpAnyH_take (i := 14) (oi := _) (v := undef) rfl (by kernel_rfl) (by kernel_rfl) (by kernel_rfl) (fun _ _ _ h => h) (Or.inr ⟨by kernel_rfl, rfl⟩) hHeld ?_
          try simp only [Act.put, List.getElem_toArray, List.getElem_cons_succ, List.getElem_cons_zero, List.setIfInBounds_toArray, List.set_cons_zero, List.set_cons_succ]
          refine wpAnyH_take (i := 15) (oi := _) (v := undef) rfl (by kernel_rfl) (by kernel_rfl) (by kernel_rfl) (fun _ _ _ h => h) (Or.inr ⟨by kernel_rfl, rfl⟩) hHeld ?_
          try simp only [Act.put, List.getElem_toArray, List.getElem_cons_succ, List.getElem_cons_zero, List.setIfInBounds_toArray, List.set_cons_zero, List.set_cons_succ]
          refine wpAnyH_take (i := 16) (oi := _) (v := undef) rfl (by kernel_rfl) (by kernel_rfl) (by kernel_rfl) (fun _ _ _ h => h) (Or.inr ⟨by kernel_rfl, rfl⟩) hHeld ?_
          try simp only [Act.put, List.getElem_toArray, List.getElem_cons_succ, List.getElem_cons_zero, List.setIfInBounds_toArray, List.set_cons_zero, List.set_cons_succ]
          refine wpAnyH_take (i := 17) (oi := _) (v := undef) rfl (by kernel_rfl) (by kernel_rfl) (by kernel_rfl) (fun _ _ _ h => h) (Or.inr ⟨by kernel_rfl, rfl⟩) hHeld ?_
          try simp only [Act.put, List.getElem_toArray, List.getElem_cons_succ, List.getElem_cons_zero, List.setIfInBounds_toArray, List.set_cons_zero, List.set_cons_succ]
          refine wpAnyH_take (i := 18) (oi := _) (v := undef) rfl (by kernel_rfl) (by kernel_rfl) (by kernel_rfl) (fun _ _ _ h => h) (Or.inr ⟨by kernel_rfl, rfl⟩) hHeld ?_
          try simp only [Act.put, List.getElem_toArray, List.getElem_cons_succ, List.getElem_cons_zero, List.setIfInBounds_toArray, List.set_cons_zero, List.set_cons_succ]
          refine wpAnyH_take (i := 19) (oi := _) (v := undef) rfl (by kernel_rfl) (by kernel_rfl) (by kernel_rfl) (fun _ _ _ h => h) (Or.inr ⟨by kernel_rfl, rfl⟩) hHeld ?_
          try simp only [Act.put, List.getElem_toArray, List.getElem_cons_succ, List.getElem_cons_zero, List.setIfInBounds_toArray, List.set_cons_zero, List.set_cons_succ]
          refine wpAnyH_take (i := 20) (oi := _) (v := undef) rfl (by kernel_rfl) (by kernel_rfl) (by kernel_rfl) (fun _ _ _ h => h) (Or.inr ⟨by kernel_rfl, rfl⟩) hHeld ?_
          try simp only [Act.put, List.getElem_toArray, List.getElem_cons_succ, List.getElem_cons_zero, List.setIfInBounds_toArray, List.set_cons_zero, List.set_cons_succ]
          refine wpAnyH_take (i := 21) (oi := _) (v := undef) rfl (by kernel_rfl) (by kernel_rfl) (by kernel_rfl) (fun _ _ _ h => h) (Or.inr ⟨by kernel_rfl, rfl⟩) hHeld ?_
          try simp only [Act.put, List.getElem_toArray, List.getElem_cons_succ, List.getElem_cons_zero, List.setIfInBounds_toArray, List.set_cons_zero, List.set_cons_succ]
          refine wpAnyH_take (i := 22) (oi := _) (v := undef) rfl (by kernel_rfl) (by kernel_rfl) (by kernel_rfl) (fun _ _ _ h => h) (Or.inr ⟨by kernel_rfl, rfl⟩) hHeld ?_
          try simp only [Act.put, List.getElem_toArray, List.getElem_cons_succ, List.getElem_cons_zero, List.setIfInBounds_toArray, List.set_cons_zero, List.set_cons_succ]
          refine wpAnyH_take (i := 23) (oi := _) (v := undef) rfl (by kernel_rfl) (by kernel_rfl) (by kernel_rfl) (fun _ _ _ h => h) (Or.inr ⟨by kernel_rfl, rfl⟩) hHeld ?_
          try simp only [Act.put, List.getElem_toArray, List.getElem_cons_succ, List.getElem_cons_zero, List.setIfInBounds_toArray, List.set_cons_zero, List.set_cons_succ]
          refine wpAnyH_take (i := 24) (oi := _) (v := undef) rfl (by kernel_rfl) (by kernel_rfl) (by kernel_rfl) (fun _ _ _ h => h) (Or.inr ⟨by kernel_rfl, rfl⟩) hHeld ?_
          try simp only [Act.put, List.getElem_toArray, List.getElem_cons_succ, List.getElem_cons_zero, List.setIfInBounds_toArray, List.set_cons_zero, List.set_cons_succ]
          refine wpAnyH_take (i := 25) (oi := _) (v := undef) rfl (by kernel_rfl) (by kernel_rfl) (by kernel_rfl) (fun _ _ _ h => h) (Or.inr ⟨by kernel_rfl, rfl⟩) hHeld ?_
          try simp only [Act.put, List.getElem_toArray, List.getElem_cons_succ, List.getElem_cons_zero, List.setIfInBounds_toArray, List.set_cons_zero, List.set_cons_succ]
          refine wpAnyH_take (i := 26) (oi := _) (v := ?m54_v) rfl (by kernel_rfl) (by kernel_rfl) (by kernel_rfl) (fun _ _ _ h => h) (Or.inl ⟨by kernel_rfl, ?m54_h⟩) hHeld ?m54_r
          case m54_h => (intro w hSw; (try dsimp only at hSw); go_simp; try with_reducible rfl)
          try simp only [Act.put, List.getElem_toArray, List.getElem_cons_succ, List.getElem_cons_zero, List.setIfInBounds_toArray, List.set_cons_zero, List.set_cons_succ]
          refine wpAnyH_done (by kernel_rfl) ?_ _
          clear hHeld
          have c_B1_0 := hB1.out.cell 0 _ rfl
          have f_B1_0 := hB1.out.frz 0
          have c_B1_1 := hB1.out.cell 1 _ rfl
          have f_B1_1 := hB1.out.frz 1
          have l_B1 := hB1.out.lt
          have e_y := View.cellX hV.out.at.2.2.2.2.2 k y HY.out
          have l_gs := hV.out.at.2.2.2.1
          go_wp2_with fail
          clear c_B1_0 f_B1_0 c_B1_1 f_B1_1 l_B1 e_y l_gs
          go_roundw
          case rel => exact ⟨⟨k + 1, by have := HK.out; omega, by go_num, Lib.hid hst.out.keeps, hV, Lib.hid (fun j z' hj hz' => by
            by_cases e : j = k
            · subst e; rw [HY.out] at hz'; cases hz'; exact HB.out
            · exact HNO.out j z' (by omega) hz')⟩, hB1⟩
          case measure => simp [intOf]; have := HK.out; omega
        | false =>
          have HLT := Lib.hid hl
          have hks := key_same hb hl
          have HSZ := Lib.hid hzz.symm
          have HZ := Lib.hid (show z = size by rw [hzz]; exact hks.1)
          have HYO := Lib.hid hks.2
          clear hb hl hzz hks
          have c_B1_0 := hB1.out.cell 0 _ rfl
          have f_B1_0 := hB1.out.frz 0
          have c_B1_1 := hB1.out.cell 1 _ rfl
          have f_B1_1 := hB1.out.frz 1
          have l_B1 := hB1.out.lt
          have e_y := View.cellX hV.out.at.2.2.2.2.2 k y HY.out
          have l_gs := hV.out.at.2.2.2.1
          go_wp2_with fail
          clear c_B1_0 f_B1_0 c_B1_1 f_B1_1 l_B1 e_y l_gs
          obtain ⟨W3, hW3⟩ : ∃ W, W = wr.drew := ⟨_, rfl⟩
          replace hW3 := Lib.hid hW3
          have kn : Keeps Nil wr W3 := by rw [hW3.out]; exact keeps_drew _
          replace hst := Lib.hid (hst.out.nil kn)
          replace hV := Lib.hid (hV.out.keeps_nil kn)
          replace hB1 := Lib.hid (hB1.out.nil kn)
          clear kn
          refine wp_region_held_drew (S := fun w' => w'.cell? ⟨B1, 0, none⟩ = some (A) ∧ w'.cell? ⟨B1, 1, none⟩ = some (B) ∧ w'.cell? ⟨gs_, gso + k, none⟩ = some (.int .u64 (y.toNat : Int))) (by kernel_rfl) (by rw [← hW3.out]; exact ⟨hB1.out.cell 0 _ rfl, hB1.out.cell 1 _ rfl, View.cellX hV.out.at.2.2.2.2.2 k y HY.out⟩) (fun hHeld => ?_)
          rw [← hW3.out] at hHeld ⊢
          refine wpAnyH_take (i := 0) (oi := _) (v := ?m55_v) rfl (by kernel_rfl) (by kernel_rfl) (by kernel_rfl) (fun _ _ _ h => h) (Or.inl ⟨by kernel_rfl, ?m55_h⟩) hHeld ?m55_r
          case m55_h => (intro w hSw; (try dsimp only at hSw); go_simp; try with_reducible rfl)
          try simp only [Act.put, List.getElem_toArray, List.getElem_cons_zero, List.setIfInBounds_toArray, List.set_cons_zero, List.set_cons_succ]
          refine wpAnyH_take (i := 1) (oi := _) (v := ?m56_v) rfl (by kernel_rfl) (by kernel_rfl) (by kernel_rfl) (fun _ _ _ h => h) (Or.inl ⟨by kernel_rfl, ?m56_h⟩) hHeld ?m56_r
          case m56_h => (intro w hSw; (try dsimp only at hSw); go_simp; try with_reducible rfl)
          try simp only [Act.put, List.getElem_toArray, List.getElem_cons_succ, List.getElem_cons_zero, List.setIfInBounds_toArray, List.set_cons_zero, List.set_cons_succ]
          refine wpAnyH_take (i := 2) (oi := _) (v := ?m57_v) rfl (by kernel_rfl) (by kernel_rfl) (by kernel_rfl) (fun _ _ _ h => h) (Or.inl ⟨by kernel_rfl, ?m57_h⟩) hHeld ?m57_r
          case m57_h => (intro w hSw; (try dsimp only at hSw); go_simp; try with_reducible rfl)
          try simp only [Act.put, List.getElem_toArray, List.getElem_cons_succ, List.getElem_cons_zero, List.setIfInBounds_toArray, List.set_cons_zero, List.set_cons_succ]
          refine wpAnyH_take (i := 3) (oi := _) (v := ?m58_v) rfl (by kernel_rfl) (by kernel_rfl) (by kernel_rfl) (fun _ _ _ h => h) (Or.inl ⟨by kernel_rfl, ?m58_h⟩) hHeld ?m58_r
          case m58_h => (intro w hSw; (try dsimp only at hSw); go_simp; try with_reducible rfl)
          try simp only [Act.put, List.getElem_toArray, List.getElem_cons_succ, List.getElem_cons_zero, List.setIfInBounds_toArray, List.set_cons_zero, List.set_cons_succ]
          refine wpAnyH_take (i := 4) (oi := _) (v := ?m59_v) rfl (by kernel_rfl) (by kernel_rfl) (by kernel_rfl) (fun _ _ _ h => h) (Or.inl ⟨by kernel_rfl, ?m59_h⟩) hHeld ?m59_r
          case m59_h => (intro w hSw; (try dsimp only at hSw); go_simp; try with_reducible rfl)
          try simp only [Act.put, List.getElem_toArray, List.getElem_cons_succ, List.getElem_cons_zero, List.setIfInBounds_toArray, List.set_cons_zero, List.set_cons_succ]
          refine wpAnyH_take (i := 5) (oi := _) (v := ?m60_v) rfl (by kernel_rfl) (by kernel_rfl) (by kernel_rfl) (fun _ _ _ h => h) (Or.inl ⟨by kernel_rfl, ?m60_h⟩) hHeld ?m60_r
          case m60_h => (intro w hSw; (try dsimp only at hSw); go_simp; try with_reducible rfl)
          try simp only [Act.put, List.getElem_toArray, List.getElem_cons_succ, List.getElem_cons_zero, List.setIfInBounds_toArray, List.set_cons_zero, List.set_cons_succ]
          refine wpAnyH_take (i := 6) (oi := _) (v := ?m61_v) rfl (by kernel_rfl) (by kernel_rfl) (by kernel_rfl) (fun _ _ _ h => h) (Or.inl ⟨by kernel_rfl, ?m61_h⟩) hHeld ?m61_r
          case m61_h => (intro w hSw; (try dsimp only at hSw); go_simp; try with_reducible rfl)
          try simp only [Act.put, List.getElem_toArray, List.getElem_cons_succ, List.getElem_cons_zero, List.setIfInBounds_toArray, List.set_cons_zero, List.set_cons_succ]
          refine wpAnyH_ready (rs := [7]) (by kernel_rfl) (by simp) ?_
          refine (AllReadyH.cons (o := _) rfl (fun K hK => ?_) AllReadyH.nil)
          go_simp
          refine (rLess_any (HR.out.keeps hst.out.keeps) y size off).mono ?_
          rintro _ W4 ⟨rfl, kn⟩
          rw [HLT.out]
          replace hst := Lib.hid (hst.out.nil kn)
          replace hV := Lib.hid (hV.out.keeps_nil kn)
          replace hB1 := Lib.hid (hB1.out.nil kn)
          clear kn
          refine hK.out _ _ (⟨hB1.out.cell 0 _ rfl, hB1.out.cell 1 _ rfl, View.cellX hV.out.at.2.2.2.2.2 k y HY.out⟩) (fun hHeld => ?_)
          clear hK K
          try simp only [Act.put, List.getElem_toArray, List.getElem_cons_succ, List.getElem_cons_zero, List.setIfInBounds_toArray, List.set_cons_zero, List.set_cons_succ]
          refine wpAnyH_take (i := 8) (oi := _) (v := ?m62_v) rfl (by kernel_rfl) (by kernel_rfl) (by kernel_rfl) (fun _ _ _ h => h) (Or.inl ⟨by kernel_rfl, ?m62_h⟩) hHeld ?m62_r
          case m62_h => (intro w hSw; (try dsimp only at hSw); go_simp; try with_reducible rfl)
          try simp only [Act.put, List.getElem_toArray, List.getElem_cons_succ, List.getElem_cons_zero, List.setIfInBounds_toArray, List.set_cons_zero, List.set_cons_succ]
          refine wpAnyH_take (i := 9) (oi := _) (v := ?m63_v) rfl (by kernel_rfl) (by kernel_rfl) (by kernel_rfl) (fun _ _ _ h => h) (Or.inl ⟨by kernel_rfl, ?m63_h⟩) hHeld ?m63_r
          case m63_h => (intro w hSw; (try dsimp only at hSw); go_simp; try with_reducible rfl)
          try simp only [Act.put, List.getElem_toArray, List.getElem_cons_succ, List.getElem_cons_zero, List.setIfInBounds_toArray, List.set_cons_zero, List.set_cons_succ]
          refine wpAnyH_take (i := 10) (oi := _) (v := ?m64_v) rfl (by kernel_rfl) (by kernel_rfl) (by kernel_rfl) (fun _ _ _ h => h) (Or.inl ⟨by kernel_rfl, ?m64_h⟩) hHeld ?m64_r
          case m64_h => (intro w hSw; (try dsimp only at hSw); go_simp; try with_reducible rfl)
          try simp only [Act.put, List.getElem_toArray, List.getElem_cons_succ, List.getElem_cons_zero, List.setIfInBounds_toArray, List.set_cons_zero, List.set_cons_succ]
          refine wpAnyH_take (i := 11) (oi := _) (v := ?m65_v) rfl (by kernel_rfl) (by kernel_rfl) (by kernel_rfl) (fun _ _ _ h => h) (Or.inl ⟨by kernel_rfl, ?m65_h⟩) hHeld ?m65_r
          case m65_h => (intro w hSw; (try dsimp only at hSw); go_simp; try with_reducible rfl)
          try simp only [Act.put, List.getElem_toArray, List.getElem_cons_succ, List.getElem_cons_zero, List.setIfInBounds_toArray, List.set_cons_zero, List.set_cons_succ]
          refine wpAnyH_take (i := 12) (oi := _) (v := ?m66_v) rfl (by kernel_rfl) (by kernel_rfl) (by kernel_rfl) (fun _ _ _ h => h) (Or.inl ⟨by kernel_rfl, ?m66_h⟩) hHeld ?m66_r
          case m66_h => (intro w hSw; (try dsimp only at hSw); go_simp; try with_reducible rfl)
          try simp only [Act.put, List.getElem_toArray, List.getElem_cons_succ, List.getElem_cons_zero, List.setIfInBounds_toArray, List.set_cons_zero, List.set_cons_succ]
          refine wpAnyH_take (i := 13) (oi := _) (v := ?m67_v) rfl (by kernel_rfl) (by kernel_rfl) (by kernel_rfl) (fun _ _ _ h => h) (Or.inl ⟨by kernel_rfl, ?m67_h⟩) hHeld ?m67_r
          case m67_h => (intro w hSw; (try dsimp only at hSw); go_simp; try with_reducible rfl)
          try simp only [Act.put, List.getElem_toArray, List.getElem_cons_succ, List.getElem_cons_zero, List.setIfInBounds_toArray, List.set_cons_zero, List.set_cons_succ]
          refine wpAnyH_take (i := 14) (oi := _) (v := ?m68_v) rfl (by kernel_rfl) (by kernel_rfl) (by kernel_rfl) (fun _ _ _ h => h) (Or.inl ⟨by kernel_rfl, ?m68_h⟩) hHeld ?m68_r
          case m68_h => (intro w hSw; (try dsimp only at hSw); go_simp; try with_reducible rfl)
          try simp only [Act.put, List.getElem_toArray, List.getElem_cons_succ, List.getElem_cons_zero, List.setIfInBounds_toArray, List.set_cons_zero, List.set_cons_succ]
          refine wpAnyH_take (i := 16) (oi := _) (v := ?m69_v) rfl (by kernel_rfl) (by kernel_rfl) (by kernel_rfl) (fun _ _ _ h => h) (Or.inl ⟨by kernel_rfl, ?m69_h⟩) hHeld ?m69_r
          case m69_h => (intro w hSw; (try dsimp only at hSw); go_simp; try with_reducible rfl)
          try simp only [Act.put, List.getElem_toArray, List.getElem_cons_succ, List.getElem_cons_zero, List.setIfInBounds_toArray, List.set_cons_zero, List.set_cons_succ]
          refine wpAnyH_ready (rs := [15]) (by kernel_rfl) (by simp) ?_
          refine (AllReadyH.cons (o := _) rfl (fun K hK => ?_) AllReadyH.nil)
          go_simp
          refine (rSize_any (HR.out.keeps hst.out.keeps) y _ rfl).mono ?_
          rintro _ W5 ⟨rfl, kn⟩
          rw [HSZ.out]
          replace hst := Lib.hid (hst.out.nil kn)
          replace hV := Lib.hid (hV.out.keeps_nil kn)
          replace hB1 := Lib.hid (hB1.out.nil kn)
          clear kn
          refine hK.out _ _ (⟨hB1.out.cell 0 _ rfl, hB1.out.cell 1 _ rfl, View.cellX hV.out.at.2.2.2.2.2 k y HY.out⟩) (fun hHeld => ?_)
          clear hK K
          try simp only [Act.put, List.getElem_toArray, List.getElem_cons_succ, List.getElem_cons_zero, List.setIfInBounds_toArray, List.set_cons_zero, List.set_cons_succ]
          have d1 : (((z.toNat : Int) : Int) != ((size.toNat : Int) : Int)) = false := (same_u64 (a := z) (b := size) (HZ.out)).1
          refine wpAnyH_take (i := 17) (oi := _) (v := ?m70_v) rfl (by kernel_rfl) (by kernel_rfl) (by kernel_rfl) (fun _ _ _ h => h) (Or.inl ⟨by kernel_rfl, ?m70_h⟩) hHeld ?m70_r
          case m70_h => (intro w hSw; (try dsimp only at hSw); go_simp; try with_reducible rfl)
          try simp only [Act.put, List.getElem_toArray, List.getElem_cons_succ, List.getElem_cons_zero, List.setIfInBounds_toArray, List.set_cons_zero, List.set_cons_succ]
          refine wpAnyH_take (i := 18) (oi := _) (v := ?m71_v) rfl (by kernel_rfl) (by kernel_rfl) (by kernel_rfl) (fun _ _ _ h => h) (Or.inl ⟨by kernel_rfl, ?m71_h⟩) hHeld ?m71_r
          case m71_h => (intro w hSw; (try dsimp only at hSw); go_simp; try with_reducible rfl)
          try simp only [Act.put, List.getElem_toArray, List.getElem_cons_succ, List.getElem_cons_zero, List.setIfInBounds_toArray, List.set_cons_zero, List.set_cons_succ]
          refine wpAnyH_take (i := 19) (oi := _) (v := ?m72_v) rfl (by kernel_rfl) (by kernel_rfl) (by kernel_rfl) (fun _ _ _ h => h) (Or.inl ⟨by kernel_rfl, ?m72_h⟩) hHeld ?m72_r
          case m72_h => (intro w hSw; (try dsimp only at hSw); go_simp; try with_reducible rfl)
          try simp only [Act.put, List.getElem_toArray, List.getElem_cons_succ, List.getElem_cons_zero, List.setIfInBounds_toArray, List.set_cons_zero, List.set_cons_succ]
          refine wpAnyH_take (i := 20) (oi := _) (v := ?m73_v) rfl (by kernel_rfl) (by kernel_rfl) (by kernel_rfl) (fun _ _ _ h => h) (Or.inl ⟨by kernel_rfl, ?m73_h⟩) hHeld ?m73_r
          case m73_h => (intro w hSw; (try dsimp only at hSw); go_simp; try with_reducible rfl)
          try simp only [Act.put, List.getElem_toArray, List.getElem_cons_succ, List.getElem_cons_zero, List.setIfInBounds_toArray, List.set_cons_zero, List.set_cons_succ]
          refine wpAnyH_take (i := 21) (oi := _) (v := ?m74_v) rfl (by kernel_rfl) (by kernel_rfl) (by kernel_rfl) (fun _ _ _ h => h) (Or.inl ⟨by kernel_rfl, ?m74_h⟩) hHeld ?m74_r
          case m74_h => (intro w hSw; (try dsimp only at hSw); go_simp; try with_reducible rfl)
          try simp only [Act.put, List.getElem_toArray, List.getElem_cons_succ, List.getElem_cons_zero, List.setIfInBounds_toArray, List.set_cons_zero, List.set_cons_succ]
          refine wpAnyH_take (i := 22) (oi := _) (v := ?m75_v) rfl (by kernel_rfl) (by kernel_rfl) (by kernel_rfl) (fun _ _ _ h => h) (Or.inl ⟨by kernel_rfl, ?m75_h⟩) hHeld ?m75_r
          case m75_h => (intro w hSw; (try dsimp only at hSw); go_simp; try with_reducible rfl)
          try simp only [Act.put, List.getElem_toArray, List.getElem_cons_succ, List.getElem_cons_zero, List.setIfInBounds_toArray, List.set_cons_zero, List.set_cons_succ]
          refine wpAnyH_take (i := 23) (oi := _) (v := ?m76_v) rfl (by kernel_rfl) (by kernel_rfl) (by kernel_rfl) (fun _ _ _ h => h) (Or.inl ⟨by kernel_rfl, ?m76_h⟩) hHeld ?m76_r
          case m76_h => (intro w hSw; (try dsimp only at hSw); go_simp; try with_reducible rfl)
          try simp only [Act.put, List.getElem_toArray, List.getElem_cons_succ, List.getElem_cons_zero, List.setIfInBounds_toArray, List.set_cons_zero, List.set_cons_succ]
          have d2 : (((y.toNat : Int) : Int) != ((off.toNat : Int) : Int)) = false := (same_u64 (a := y) (b := off) (HYO.out)).1
          refine wpAnyH_take (i := 24) (oi := _) (v := ?m77_v) rfl (by kernel_rfl) (by kernel_rfl) (by kernel_rfl) (fun _ _ _ h => h) (Or.inl ⟨by kernel_rfl, ?m77_h⟩) hHeld ?m77_r
          case m77_h => (intro w hSw; (try dsimp only at hSw); go_simp; try with_reducible rfl)
          try simp only [Act.put, List.getElem_toArray, List.getElem_cons_succ, List.getElem_cons_zero, List.setIfInBounds_toArray, List.set_cons_zero, List.set_cons_succ]
          refine wpAnyH_take (i := 25) (oi := _) (v := ?m78_v) rfl (by kernel_rfl) (by kernel_rfl) (by kernel_rfl) (fun _ _ _ h => h) (Or.inl ⟨by kernel_rfl, ?m78_h⟩) hHeld ?m78_r
          case m78_h => (intro w hSw; (try dsimp only at hSw); go_simp; try with_reducible rfl)
          try simp only [Act.put, List.getElem_toArray, List.getElem_cons_succ, List.getElem_cons_zero, List.setIfInBounds_toArray, List.set_cons_zero, List.set_cons_succ]
          refine wpAnyH_take (i := 26) (oi := _) (v := ?m79_v) rfl (by kernel_rfl) (by kernel_rfl) (by kernel_rfl) (fun _ _ _ h => h) (Or.inl ⟨by kernel_rfl, ?m79_h⟩) hHeld ?m79_r
          case m79_h => (intro w hSw; (try dsimp only at hSw); go_simp; try with_reducible rfl)
          try simp only [Act.put, List.getElem_toArray, List.getElem_cons_succ, List.getElem_cons_zero, List.setIfInBounds_toArray, List.set_cons_zero, List.set_cons_succ]
          refine wpAnyH_done (by kernel_rfl) ?_ _
          clear hHeld
          have c_B1_0 := hB1.out.cell 0 _ rfl
          have f_B1_0 := hB1.out.frz 0
          have c_B1_1 := hB1.out.cell 1 _ rfl
          have f_B1_1 := hB1.out.frz 1
          have l_B1 := hB1.out.lt
          have e_y := View.cellX hV.out.at.2.2.2.2.2 k y HY.out
          have l_gs := hV.out.at.2.2.2.1
          go_wp2_with fail
          clear c_B1_0 f_B1_0 c_B1_1 f_B1_1 l_B1 e_y l_gs
          go_roundw
          case rel => exact ⟨⟨k + 1, by have := HK.out; omega, by go_num, Lib.hid hst.out.keeps, hV, Lib.hid (fun j z' hj hz' => by
            by_cases e : j = k
            · subst e; rw [HY.out] at hz'; cases hz'; exact HB.out
            · exact HNO.out j z' (by omega) hz')⟩, hB1⟩
          case measure => simp [intOf]; have := HK.out; omega
    · skip
      have c_B1_0 := hB1.out.cell 0 _ rfl
      have f_B1_0 := hB1.out.frz 0
      have c_B1_1 := hB1.out.cell 1 _ rfl
      have f_B1_1 := hB1.out.frz 1
      have l_B1 := hB1.out.lt
      go_wp2_with fail
      go_ret2
      clear c_B1_0 f_B1_0 c_B1_1 f_B1_1 l_B1
      have hf : R = none := by rw [HS.out.2.2]; exact find_no (fun j z hj hz => HNO.out j z (by rw [← HS.out.2.1] at hj; omega) hz)
      exact ⟨by rw [hf]; rfl, hst.out.keeps⟩
end Go.Proofs.YtefpbljekfkefaaGreat
