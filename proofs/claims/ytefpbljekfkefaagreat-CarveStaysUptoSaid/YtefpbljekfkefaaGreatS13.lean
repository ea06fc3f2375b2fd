/- TreeID, TreeL: written short. -/
import Derived.Test.YtefpbljekfkefaaGreatS12
import Derived.Test.YtefpbljekfkefaaGreatS05
import Derived.Test.YtefpbljekfkefaaGreatS01
import Derived.Test.YtefpbljekfkefaaGreatS10
set_option maxRecDepth 100000
set_option maxHeartbeats 8000000
namespace Go.Proofs.YtefpbljekfkefaaGreat
section
open Go.RowKit PT
theorem insert_any {n : Nat} {f f' : UInt64 → UInt64} {at_ off r : UInt64} (h : InsR szU mixU n f at_ off f' r) : ∀ {w : World} {t : Nat} {S : Nat → Prop}, TxF w t f n S →
   Calls Tryz.prog 103 #[.agg #[.pointer (some ⟨t, 0, none⟩)], .int .u64 (at_.toNat : Int), .int .u64 (off.toNat : Int)] w fun e w' =>
    e = .returned (.int .u64 (r.toNat : Int)) ∧ ∃ S', TxF w' t f' n S' ∧ Step S S' w w' := by
 induction h with
 | @top at_ off f' a b h1 h2 =>
   intro w t S h
   have hT := qH h
   have HS := qH h2
   clear h h2
   by_cases h0 : at_ = 0
   ·have H0 := qH h0
    clear h0 h1
    have hst := qH (Step.refl S w)
    go_enter Tryz.func103, Tryz.ntmps103
    obtain ⟨W1, hW1⟩ := nm (w.alloc (.cells #[.pointer (some ⟨t, 0, none⟩)] 153))
    obtain ⟨B1, eB1⟩ := nm (w.heap.size)
    go_wp2_with fail
    rw [← hW1.out]
    try rw [← eB1.out]
    have k1 := kA hW1
    have e0B1 := eB1.out
    have hB1 := zB hW1 (Bx.new hT.out.lt _ _ e0B1)
    have gB1 := gZ e0B1 hst
    replace hst := sN hst k1
    replace hT := qH (hT.out.nil k1)
    clear k1 e0B1
    refine (key_any hT.out.reads off _ rfl).mono ?_
    rintro _ W2 ⟨rfl, kn⟩
    replace hst := sN hst kn
    replace hT := qH (hT.out.nil kn)
    replace hB1 := bN hB1 kn
    clear kn
    have d1 : (((at_.toNat : Int) : Int) == (0 : Int)) = true := (same_u64 (a := at_) (b := 0) (H0.out)).2
    have c_B1_0 := cB hB1 0
    have f_B1_0 := hB1.out.frz 0
    have l_B1 := hB1.out.lt
    obtain ⟨W3, hW3⟩ := nm (W2.alloc (.cells #[.int .u64 ((sizeF f off).toNat : Int), .int .u64 (off.toNat : Int)] 162))
    obtain ⟨B2, eB2⟩ := nm (W2.heap.size)
    go_wp2_with fail
    clear c_B1_0 f_B1_0 l_B1
    rw [← hW3.out]
    try rw [← eB2.out]
    have k2 := kA hW3
    have e0B2 := eB2.out
    have hB2 := zB hW3 (Bx.new hT.out.lt _ _ e0B2)
    have gB2 := gZ e0B2 hst
    have nB1B2 := nZ e0B2 hB1
    replace hst := sN hst k2
    replace hT := qH (hT.out.nil k2)
    replace hB1 := bN hB1 k2
    clear k2 e0B2
    refine (split_any (k := (sizeF f off, off)) HS.out hT.out).mono ?_
    rintro _ W4 ⟨rfl, S1, hT2, kn⟩
    replace hst := sT hst kn
    replace hB1 := bS hB1 kn
    replace hB2 := bS hB2 kn
    replace hT := qH hT2
    clear kn hT2
    obtain ⟨y1, zy1⟩ : ∃ y : UInt64, y = off + 8 := ⟨_, rfl⟩
    have q1 : IntKind.u64.wrap ((off.toNat : Int) + 8) = (y1.toNat : Int) := by rw [zy1]; exact u64_add off 8
    replace zy1 := qH zy1
    have c_B1_0 := cB hB1 0
    have f_B1_0 := hB1.out.frz 0
    have l_B1 := hB1.out.lt
    have c_B2_0 := cB hB2 0
    have f_B2_0 := hB2.out.frz 0
    have c_B2_1 := cB hB2 1
    have f_B2_1 := hB2.out.frz 1
    have l_B2 := hB2.out.lt
    go_wp2_with fail
    clear c_B1_0 f_B1_0 l_B1 c_B2_0 f_B2_0 c_B2_1 f_B2_1 l_B2
    refine (hT.out.store y1 a _ _ rfl rfl).mono ?_
    rintro _ W5 ⟨rfl, S2, hT2, kn⟩
    replace hst := sT hst kn
    replace hB1 := bS hB1 kn
    replace hB2 := bS hB2 kn
    replace hT := qH hT2
    clear kn hT2
    obtain ⟨y2, zy2⟩ : ∃ y : UInt64, y = off + 16 := ⟨_, rfl⟩
    have q2 : IntKind.u64.wrap ((off.toNat : Int) + 16) = (y2.toNat : Int) := by rw [zy2]; exact u64_add off 16
    replace zy2 := qH zy2
    have c_B1_0 := cB hB1 0
    have f_B1_0 := hB1.out.frz 0
    have l_B1 := hB1.out.lt
    have c_B2_0 := cB hB2 0
    have f_B2_0 := hB2.out.frz 0
    have c_B2_1 := cB hB2 1
    have f_B2_1 := hB2.out.frz 1
    have l_B2 := hB2.out.lt
    go_wp2_with fail
    clear c_B1_0 f_B1_0 l_B1 c_B2_0 f_B2_0 c_B2_1 f_B2_1 l_B2
    refine (hT.out.store y2 b _ _ rfl rfl).mono ?_
    rintro _ W6 ⟨rfl, S3, hT2, kn⟩
    replace hst := sT hst kn
    replace hB1 := bS hB1 kn
    replace hB2 := bS hB2 kn
    replace hT := qH hT2
    clear kn hT2
    have c_B1_0 := cB hB1 0
    have f_B1_0 := hB1.out.frz 0
    have l_B1 := hB1.out.lt
    have c_B2_0 := cB hB2 0
    have f_B2_0 := hB2.out.frz 0
    have c_B2_1 := cB hB2 1
    have f_B2_1 := hB2.out.frz 1
    have l_B2 := hB2.out.lt
    go_wp2_with fail
    go_ret
    clear c_B1_0 f_B1_0 l_B1 c_B2_0 f_B2_0 c_B2_1 f_B2_1 l_B2
    have hT3 := hT.out
    rw [zy1.out, zy2.out] at hT3
    exact ⟨rfl, _, hT3, hst.out⟩
   ·have H0 := qH h0
    have H1 := qH (h1.resolve_left h0)
    clear h0 h1
    have hst := qH (Step.refl S w)
    go_enter Tryz.func103, Tryz.ntmps103
    obtain ⟨W1, hW1⟩ := nm (w.alloc (.cells #[.pointer (some ⟨t, 0, none⟩)] 153))
    obtain ⟨B1, eB1⟩ := nm (w.heap.size)
    go_wp2_with fail
    rw [← hW1.out]
    try rw [← eB1.out]
    have k1 := kA hW1
    have e0B1 := eB1.out
    have hB1 := zB hW1 (Bx.new hT.out.lt _ _ e0B1)
    have gB1 := gZ e0B1 hst
    replace hst := sN hst k1
    replace hT := qH (hT.out.nil k1)
    clear k1 e0B1
    refine (key_any hT.out.reads off _ rfl).mono ?_
    rintro _ W2 ⟨rfl, kn⟩
    replace hst := sN hst kn
    replace hT := qH (hT.out.nil kn)
    replace hB1 := bN hB1 kn
    clear kn
    have d1 : (((at_.toNat : Int) : Int) == (0 : Int)) = false := (unlike_u64 (a := at_) (b := 0) (H0.out)).2
    have c_B1_0 := cB hB1 0
    have f_B1_0 := hB1.out.frz 0
    have l_B1 := hB1.out.lt
    obtain ⟨W3, hW3⟩ := nm (W2.alloc (.cells #[.int .u64 ((sizeF f off).toNat : Int), .int .u64 (off.toNat : Int)] 162))
    obtain ⟨B2, eB2⟩ := nm (W2.heap.size)
    go_wp2_with fail
    clear c_B1_0 f_B1_0 l_B1
    rw [← hW3.out]
    try rw [← eB2.out]
    have k2 := kA hW3
    have e0B2 := eB2.out
    have hB2 := zB hW3 (Bx.new hT.out.lt _ _ e0B2)
    have gB2 := gZ e0B2 hst
    have nB1B2 := nZ e0B2 hB1
    replace hst := sN hst k2
    replace hT := qH (hT.out.nil k2)
    replace hB1 := bN hB1 k2
    clear k2 e0B2
    refine (wMix_any _ off _ rfl).mono ?_
    rintro _ _ ⟨rfl, rfl⟩
    obtain ⟨v1, zv1⟩ : ∃ v : UInt64, v = off * goldU := ⟨_, rfl⟩
    rw [← zv1]
    replace zv1 := qH zv1
    have c_B1_0 := cB hB1 0
    have f_B1_0 := hB1.out.frz 0
    have l_B1 := hB1.out.lt
    have c_B2_0 := cB hB2 0
    have f_B2_0 := hB2.out.frz 0
    have c_B2_1 := cB hB2 1
    have f_B2_1 := hB2.out.frz 1
    have l_B2 := hB2.out.lt
    go_wp2_with fail
    clear c_B1_0 f_B1_0 l_B1 c_B2_0 f_B2_0 c_B2_1 f_B2_1 l_B2
    refine (wMix_any _ at_ _ rfl).mono ?_
    rintro _ _ ⟨rfl, rfl⟩
    obtain ⟨v2, zv2⟩ : ∃ v : UInt64, v = at_ * goldU := ⟨_, rfl⟩
    rw [← zv2]
    replace zv2 := qH zv2
    have d2 : decide (v2.toNat < v1.toNat) = true := decide_eq_true (by rw [zv1.out, zv2.out]; exact UInt64.lt_iff_toNat_lt.1 H1.out)
    have c_B1_0 := cB hB1 0
    have f_B1_0 := hB1.out.frz 0
    have l_B1 := hB1.out.lt
    have c_B2_0 := cB hB2 0
    have f_B2_0 := hB2.out.frz 0
    have c_B2_1 := cB hB2 1
    have f_B2_1 := hB2.out.frz 1
    have l_B2 := hB2.out.lt
    go_wp2_with fail
    clear c_B1_0 f_B1_0 l_B1 c_B2_0 f_B2_0 c_B2_1 f_B2_1 l_B2
    refine (split_any (k := (sizeF f off, off)) HS.out hT.out).mono ?_
    rintro _ W6 ⟨rfl, S1, hT2, kn⟩
    replace hst := sT hst kn
    replace hB1 := bS hB1 kn
    replace hB2 := bS hB2 kn
    replace hT := qH hT2
    clear kn hT2
    obtain ⟨y1, zy1⟩ : ∃ y : UInt64, y = off + 8 := ⟨_, rfl⟩
    have q1 : IntKind.u64.wrap ((off.toNat : Int) + 8) = (y1.toNat : Int) := by rw [zy1]; exact u64_add off 8
    replace zy1 := qH zy1
    have c_B1_0 := cB hB1 0
    have f_B1_0 := hB1.out.frz 0
    have l_B1 := hB1.out.lt
    have c_B2_0 := cB hB2 0
    have f_B2_0 := hB2.out.frz 0
    have c_B2_1 := cB hB2 1
    have f_B2_1 := hB2.out.frz 1
    have l_B2 := hB2.out.lt
    go_wp2_with fail
    clear c_B1_0 f_B1_0 l_B1 c_B2_0 f_B2_0 c_B2_1 f_B2_1 l_B2
    refine (hT.out.store y1 a _ _ rfl rfl).mono ?_
    rintro _ W7 ⟨rfl, S2, hT2, kn⟩
    replace hst := sT hst kn
    replace hB1 := bS hB1 kn
    replace hB2 := bS hB2 kn
    replace hT := qH hT2
    clear kn hT2
    obtain ⟨y2, zy2⟩ : ∃ y : UInt64, y = off + 16 := ⟨_, rfl⟩
    have q2 : IntKind.u64.wrap ((off.toNat : Int) + 16) = (y2.toNat : Int) := by rw [zy2]; exact u64_add off 16
    replace zy2 := qH zy2
    have c_B1_0 := cB hB1 0
    have f_B1_0 := hB1.out.frz 0
    have l_B1 := hB1.out.lt
    have c_B2_0 := cB hB2 0
    have f_B2_0 := hB2.out.frz 0
    have c_B2_1 := cB hB2 1
    have f_B2_1 := hB2.out.frz 1
    have l_B2 := hB2.out.lt
    go_wp2_with fail
    clear c_B1_0 f_B1_0 l_B1 c_B2_0 f_B2_0 c_B2_1 f_B2_1 l_B2
    refine (hT.out.store y2 b _ _ rfl rfl).mono ?_
    rintro _ W8 ⟨rfl, S3, hT2, kn⟩
    replace hst := sT hst kn
    replace hB1 := bS hB1 kn
    replace hB2 := bS hB2 kn
    replace hT := qH hT2
    clear kn hT2
    have c_B1_0 := cB hB1 0
    have f_B1_0 := hB1.out.frz 0
    have l_B1 := hB1.out.lt
    have c_B2_0 := cB hB2 0
    have f_B2_0 := hB2.out.frz 0
    have c_B2_1 := cB hB2 1
    have f_B2_1 := hB2.out.frz 1
    have l_B2 := hB2.out.lt
    go_wp2_with fail
    go_ret
    clear c_B1_0 f_B1_0 l_B1 c_B2_0 f_B2_0 c_B2_1 f_B2_1 l_B2
    have hT3 := hT.out
    rw [zy1.out, zy2.out] at hT3
    exact ⟨rfl, _, hT3, hst.out⟩
 | @down at_ off f' r h1 h2 h3 ih =>
   intro w t S h
   have hT := qH h
   have H1 := qH h1
   have H2 := qH h2
   clear h h1 h2 h3
   have hst := qH (Step.refl S w)
   go_enter Tryz.func103, Tryz.ntmps103
   obtain ⟨W1, hW1⟩ := nm (w.alloc (.cells #[.pointer (some ⟨t, 0, none⟩)] 153))
   obtain ⟨B1, eB1⟩ := nm (w.heap.size)
   go_wp2_with fail
   rw [← hW1.out]
   try rw [← eB1.out]
   have k1 := kA hW1
   have e0B1 := eB1.out
   have hB1 := zB hW1 (Bx.new hT.out.lt _ _ e0B1)
   have gB1 := gZ e0B1 hst
   replace hst := sN hst k1
   replace hT := qH (hT.out.nil k1)
   clear k1 e0B1
   refine (key_any hT.out.reads off _ rfl).mono ?_
   rintro _ W2 ⟨rfl, kn⟩
   replace hst := sN hst kn
   replace hT := qH (hT.out.nil kn)
   replace hB1 := bN hB1 kn
   clear kn
   have d1 : (((at_.toNat : Int) : Int) == (0 : Int)) = false := (unlike_u64 (a := at_) (b := 0) (H1.out)).2
   have c_B1_0 := cB hB1 0
   have f_B1_0 := hB1.out.frz 0
   have l_B1 := hB1.out.lt
   obtain ⟨W3, hW3⟩ := nm (W2.alloc (.cells #[.int .u64 ((sizeF f off).toNat : Int), .int .u64 (off.toNat : Int)] 162))
   obtain ⟨B2, eB2⟩ := nm (W2.heap.size)
   go_wp2_with fail
   clear c_B1_0 f_B1_0 l_B1
   rw [← hW3.out]
   try rw [← eB2.out]
   have k2 := kA hW3
   have e0B2 := eB2.out
   have hB2 := zB hW3 (Bx.new hT.out.lt _ _ e0B2)
   have gB2 := gZ e0B2 hst
   have nB1B2 := nZ e0B2 hB1
   replace hst := sN hst k2
   replace hT := qH (hT.out.nil k2)
   replace hB1 := bN hB1 k2
   clear k2 e0B2
   refine (wMix_any _ off _ rfl).mono ?_
   rintro _ _ ⟨rfl, rfl⟩
   obtain ⟨v1, zv1⟩ : ∃ v : UInt64, v = off * goldU := ⟨_, rfl⟩
   rw [← zv1]
   replace zv1 := qH zv1
   have c_B1_0 := cB hB1 0
   have f_B1_0 := hB1.out.frz 0
   have l_B1 := hB1.out.lt
   have c_B2_0 := cB hB2 0
   have f_B2_0 := hB2.out.frz 0
   have c_B2_1 := cB hB2 1
   have f_B2_1 := hB2.out.frz 1
   have l_B2 := hB2.out.lt
   go_wp2_with fail
   clear c_B1_0 f_B1_0 l_B1 c_B2_0 f_B2_0 c_B2_1 f_B2_1 l_B2
   refine (wMix_any _ at_ _ rfl).mono ?_
   rintro _ _ ⟨rfl, rfl⟩
   obtain ⟨v2, zv2⟩ : ∃ v : UInt64, v = at_ * goldU := ⟨_, rfl⟩
   rw [← zv2]
   replace zv2 := qH zv2
   have d2 : decide (v2.toNat < v1.toNat) = false := decide_eq_false (by rw [zv1.out, zv2.out]; exact fun e => H2.out (UInt64.lt_iff_toNat_lt.2 e))
   have c_B1_0 := cB hB1 0
   have f_B1_0 := hB1.out.frz 0
   have l_B1 := hB1.out.lt
   have c_B2_0 := cB hB2 0
   have f_B2_0 := hB2.out.frz 0
   have c_B2_1 := cB hB2 1
   have f_B2_1 := hB2.out.frz 1
   have l_B2 := hB2.out.lt
   go_wp2_with fail
   clear c_B1_0 f_B1_0 l_B1 c_B2_0 f_B2_0 c_B2_1 f_B2_1 l_B2
   refine (side_any hT.out.reads at_ (sizeF f off) off).mono ?_
   rintro _ W6 ⟨rfl, kn⟩
   obtain ⟨v3, zv3⟩ : ∃ v : UInt64, v = sideF szU f at_ ((sizeF f off), off) := ⟨_, rfl⟩
   rw [← zv3]
   replace zv3 := qH zv3
   replace hst := sN hst kn
   replace hT := qH (hT.out.nil kn)
   replace hB1 := bN hB1 kn
   replace hB2 := bN hB2 kn
   clear kn
   have c_B1_0 := cB hB1 0
   have f_B1_0 := hB1.out.frz 0
   have l_B1 := hB1.out.lt
   have c_B2_0 := cB hB2 0
   have f_B2_0 := hB2.out.frz 0
   have c_B2_1 := cB hB2 1
   have f_B2_1 := hB2.out.frz 1
   have l_B2 := hB2.out.lt
   go_wp2_with fail
   clear c_B1_0 f_B1_0 l_B1 c_B2_0 f_B2_0 c_B2_1 f_B2_1 l_B2
   obtain ⟨W7, hW7⟩ := nm (W6.drew)
   have kn := kD hW7
   replace hst := sN hst kn
   replace hT := qH (hT.out.nil kn)
   replace hB1 := bN hB1 kn
   replace hB2 := bN hB2 kn
   clear kn
   refine wp_region_held_drew (S := fun w' => w'.cell? ⟨B1, 0, none⟩ = some (.pointer (some ⟨t, 0, none⟩)) ∧ w'.cell? ⟨B2, 0, none⟩ = some (.int .u64 ((sizeF f off).toNat : Int)) ∧ w'.cell? ⟨B2, 1, none⟩ = some (.int .u64 (off.toNat : Int))) (by kernel_rfl) (by rw [← hW7.out]; exact ⟨cB hB1 0, cB hB2 0, cB hB2 1⟩) (fun hHeld => ?_)
   rw [← hW7.out] at hHeld ⊢
   refine fT 0 rfl hHeld ?_
   try simp only [Act.put, List.getElem_toArray, List.getElem_cons_zero, List.setIfInBounds_toArray, List.set_cons_zero, List.set_cons_succ]
   refine fT 1 rfl hHeld ?_; try simp only [sP,sQ]
   refine fT 2 rfl hHeld ?_; try simp only [sP,sQ]
   refine fT 3 rfl hHeld ?_; try simp only [sP,sQ]
   refine fT 4 rfl hHeld ?_; try simp only [sP,sQ]
   refine fT 5 rfl hHeld ?_; try simp only [sP,sQ]
   refine fT 6 rfl hHeld ?_; try simp only [sP,sQ]
   refine fT 8 rfl hHeld ?_; try simp only [sP,sQ]
   refine wpAnyH_ready (rs := [7]) (by kernel_rfl) (by simp) ?_
   refine (AllReadyH.cons (o := _) rfl (fun K hK => ?_) AllReadyH.nil)
   go_simp
   refine (hT.out.reads.loadC v3 _ rfl).mono ?_
   rintro _ W8 ⟨rfl, kn⟩
   replace hst := sN hst kn
   replace hT := qH (hT.out.nil kn)
   replace hB1 := bN hB1 kn
   replace hB2 := bN hB2 kn
   clear kn
   refine hK.out _ _ (⟨cB hB1 0, cB hB2 0, cB hB2 1⟩) (fun hHeld => ?_)
   clear hK K
   try simp only [sP,sQ]
   refine wpAnyH_ready (rs := [9]) (by kernel_rfl) (by simp) ?_
   refine (AllReadyH.cons (o := _) rfl (fun K hK => ?_) AllReadyH.nil)
   go_simp
   have ih2 := @ih _ _ _ hT.out
   have e0 : sideF szU f at_ (keyF szU f off) = v3 := zv3.out.symm
   rw [e0] at ih2
   clear e0
   refine (ih2).mono ?_
   rintro _ W9 ⟨rfl, S1, hT2, kn⟩
   clear ih ih2
   replace hst := sT hst kn
   replace hB1 := bS hB1 kn
   replace hB2 := bS hB2 kn
   replace hT := qH hT2
   clear kn hT2
   refine hK.out _ _ (⟨cB hB1 0, cB hB2 0, cB hB2 1⟩) (fun hHeld => ?_)
   clear hK K
   try simp only [sP,sQ]
   refine wpAnyH_ready (rs := [10]) (by kernel_rfl) (by simp) ?_
   refine (AllReadyH.cons (o := _) rfl (fun K hK => ?_) AllReadyH.nil)
   go_simp
   refine (hT.out.store v3 r _ _ rfl rfl).mono ?_
   rintro _ W10 ⟨rfl, S2, hT2, kn⟩
   replace hst := sT hst kn
   replace hB1 := bS hB1 kn
   replace hB2 := bS hB2 kn
   replace hT := qH hT2
   clear kn hT2
   refine hK.out _ _ (⟨cB hB1 0, cB hB2 0, cB hB2 1⟩) (fun hHeld => ?_)
   clear hK K
   try simp only [sP,sQ]
   refine fD ?_
   clear hHeld
   have c_B1_0 := cB hB1 0
   have f_B1_0 := hB1.out.frz 0
   have l_B1 := hB1.out.lt
   have c_B2_0 := cB hB2 0
   have f_B2_0 := hB2.out.frz 0
   have c_B2_1 := cB hB2 1
   have f_B2_1 := hB2.out.frz 1
   have l_B2 := hB2.out.lt
   go_wp2_with fail
   go_ret
   clear c_B1_0 f_B1_0 l_B1 c_B2_0 f_B2_0 c_B2_1 f_B2_1 l_B2
   have hT3 := hT.out
   rw [zv3.out] at hT3
   exact ⟨rfl, _, hT3, hst.out⟩
theorem remove_any {n : Nat} {f f' : UInt64 → UInt64} {at_ off r : UInt64} {ok : Bool} (h : RemR szU mixU n f at_ off f' r ok) : ∀ {w : World} {t : Nat} {S : Nat → Prop}, TxF w t f n S →
   Calls Tryz.prog 110 #[.agg #[.pointer (some ⟨t, 0, none⟩)], .int .u64 (at_.toNat : Int), .int .u64 (off.toNat : Int)] w fun e w' =>
    e = .returned (.tuple #[.int .u64 (r.toNat : Int), .bool ok]) ∧ ∃ S', TxF w' t f' n S' ∧ Step S S' w w' := by
 induction h with
 | nil off =>
   intro w t S h
   have hT := qH h
   clear h
   have hst := qH (Step.refl S w)
   go_enter Tryz.func110, Tryz.ntmps110
   have d1 : ((((0 : UInt64).toNat : Int) : Int) == (0 : Int)) = true := (same_u64 (a := (0 : UInt64)) (b := 0) (rfl)).2
   obtain ⟨W1, hW1⟩ := nm (w.alloc (.cells #[.pointer (some ⟨t, 0, none⟩)] 153))
   obtain ⟨B1, eB1⟩ := nm (w.heap.size)
   go_wp2_with fail
   go_ret2
   rw [← hW1.out]
   try rw [← eB1.out]
   have k1 := kA hW1
   have e0B1 := eB1.out
   have hB1 := zB hW1 (Bx.new hT.out.lt _ _ e0B1)
   have gB1 := gZ e0B1 hst
   replace hst := sN hst k1
   replace hT := qH (hT.out.nil k1)
   clear k1 e0B1
   exact ⟨rfl, _, hT.out, hst.out⟩
 | @hit at_ f' r h1 h2 =>
   intro w t S h
   have hT := qH h
   have H1 := qH h1
   have HJ := qH h2
   clear h h1 h2
   have hst := qH (Step.refl S w)
   go_enter Tryz.func110, Tryz.ntmps110
   have d1 : (((at_.toNat : Int) : Int) == (0 : Int)) = false := (unlike_u64 (a := at_) (b := 0) (H1.out)).2
   have d2 : (((at_.toNat : Int) : Int) == ((at_.toNat : Int) : Int)) = true := (same_u64 (a := at_) (b := at_) (rfl)).2
   obtain ⟨W1, hW1⟩ := nm (w.alloc (.cells #[.pointer (some ⟨t, 0, none⟩)] 153))
   obtain ⟨B1, eB1⟩ := nm (w.heap.size)
   go_wp2_with fail
   rw [← hW1.out]
   try rw [← eB1.out]
   have k1 := kA hW1
   have e0B1 := eB1.out
   have hB1 := zB hW1 (Bx.new hT.out.lt _ _ e0B1)
   have gB1 := gZ e0B1 hst
   replace hst := sN hst k1
   replace hT := qH (hT.out.nil k1)
   clear k1 e0B1
   obtain ⟨W2, hW2⟩ := nm (W1.drew)
   have kn := kD hW2
   replace hst := sN hst kn
   replace hT := qH (hT.out.nil kn)
   replace hB1 := bN hB1 kn
   clear kn
   refine wp_region_held_drew (S := fun w' => w'.cell? ⟨B1, 0, none⟩ = some (.pointer (some ⟨t, 0, none⟩))) (by kernel_rfl) (by rw [← hW2.out]; exact cB hB1 0) (fun hHeld => ?_)
   rw [← hW2.out] at hHeld ⊢
   refine fT 0 rfl hHeld ?_
   try simp only [Act.put, List.getElem_toArray, List.getElem_cons_zero, List.setIfInBounds_toArray, List.set_cons_zero, List.set_cons_succ]
   refine fT 1 rfl hHeld ?_; try simp only [sP,sQ]
   refine fT 2 rfl hHeld ?_; try simp only [sP,sQ]
   refine fT 3 rfl hHeld ?_; try simp only [sP,sQ]
   obtain ⟨y1, zy1⟩ : ∃ y : UInt64, y = at_ + 8 := ⟨_, rfl⟩
   have q1 : IntKind.u64.wrap ((at_.toNat : Int) + 8) = (y1.toNat : Int) := by rw [zy1]; exact u64_add at_ 8
   replace zy1 := qH zy1
   refine fT 4 rfl hHeld ?_; try simp only [sP,sQ]
   refine fT 6 rfl hHeld ?_; try simp only [sP,sQ]
   refine fT 7 rfl hHeld ?_; try simp only [sP,sQ]
   refine fT 8 rfl hHeld ?_; try simp only [sP,sQ]
   obtain ⟨y2, zy2⟩ : ∃ y : UInt64, y = at_ + 16 := ⟨_, rfl⟩
   have q2 : IntKind.u64.wrap ((at_.toNat : Int) + 16) = (y2.toNat : Int) := by rw [zy2]; exact u64_add at_ 16
   replace zy2 := qH zy2
   refine fT 9 rfl hHeld ?_; try simp only [sP,sQ]
   refine wpAnyH_ready (rs := [5]) (by kernel_rfl) (by simp) ?_
   refine (AllReadyH.cons (o := _) rfl (fun K hK => ?_) AllReadyH.nil)
   go_simp
   refine (hT.out.reads.loadC y1 _ rfl).mono ?_
   rintro _ W3 ⟨rfl, kn⟩
   replace hst := sN hst kn
   replace hT := qH (hT.out.nil kn)
   replace hB1 := bN hB1 kn
   clear kn
   refine hK.out _ _ (cB hB1 0) (fun hHeld => ?_)
   clear hK K
   try simp only [sP,sQ]
   refine wpAnyH_ready (rs := [10]) (by kernel_rfl) (by simp) ?_
   refine (AllReadyH.cons (o := _) rfl (fun K hK => ?_) AllReadyH.nil)
   go_simp
   refine (hT.out.reads.loadC y2 _ rfl).mono ?_
   rintro _ W4 ⟨rfl, kn⟩
   replace hst := sN hst kn
   replace hT := qH (hT.out.nil kn)
   replace hB1 := bN hB1 kn
   clear kn
   refine hK.out _ _ (cB hB1 0) (fun hHeld => ?_)
   clear hK K
   try simp only [sP,sQ]
   refine wpAnyH_ready (rs := [11]) (by kernel_rfl) (by simp) ?_
   refine (AllReadyH.cons (o := _) rfl (fun K hK => ?_) AllReadyH.nil)
   go_simp
   have ih2 := join_any HJ.out hT.out
   rw [← zy1.out, ← zy2.out] at ih2
   refine (ih2).mono ?_
   rintro _ W5 ⟨rfl, S1, hT2, kn⟩
   clear ih2
   replace hst := sT hst kn
   replace hB1 := bS hB1 kn
   replace hT := qH hT2
   clear kn hT2
   refine hK.out _ _ (cB hB1 0) (fun hHeld => ?_)
   clear hK K
   try simp only [sP,sQ]
   refine fT 12 rfl hHeld ?_; try simp only [sP,sQ]
   refine fT 13 rfl hHeld ?_; try simp only [sP,sQ]
   refine fD ?_
   clear hHeld
   have c_B1_0 := cB hB1 0
   have f_B1_0 := hB1.out.frz 0
   have l_B1 := hB1.out.lt
   go_wp2_with fail
   go_ret2
   clear c_B1_0 f_B1_0 l_B1
   exact ⟨rfl, _, hT.out, hst.out⟩
 | @down at_ off f' r ok h1 h2 h3 ih =>
   intro w t S h
   have hT := qH h
   have H1 := qH h1
   have H2 := qH h2
   clear h h1 h2 h3
   have hst := qH (Step.refl S w)
   go_enter Tryz.func110, Tryz.ntmps110
   have d1 : (((at_.toNat : Int) : Int) == (0 : Int)) = false := (unlike_u64 (a := at_) (b := 0) (H1.out)).2
   have d2 : (((at_.toNat : Int) : Int) == ((off.toNat : Int) : Int)) = false := (unlike_u64 (a := at_) (b := off) (H2.out)).2
   obtain ⟨W1, hW1⟩ := nm (w.alloc (.cells #[.pointer (some ⟨t, 0, none⟩)] 153))
   obtain ⟨B1, eB1⟩ := nm (w.heap.size)
   go_wp2_with fail
   rw [← hW1.out]
   try rw [← eB1.out]
   have k1 := kA hW1
   have e0B1 := eB1.out
   have hB1 := zB hW1 (Bx.new hT.out.lt _ _ e0B1)
   have gB1 := gZ e0B1 hst
   replace hst := sN hst k1
   replace hT := qH (hT.out.nil k1)
   clear k1 e0B1
   obtain ⟨W2, hW2⟩ := nm (W1.drew)
   have kn := kD hW2
   replace hst := sN hst kn
   replace hT := qH (hT.out.nil kn)
   replace hB1 := bN hB1 kn
   clear kn
   refine wp_region_held_drew (S := fun w' => w'.cell? ⟨B1, 0, none⟩ = some (.pointer (some ⟨t, 0, none⟩))) (by kernel_rfl) (by rw [← hW2.out]; exact cB hB1 0) (fun hHeld => ?_)
   rw [← hW2.out] at hHeld ⊢
   refine fT 0 rfl hHeld ?_
   try simp only [Act.put, List.getElem_toArray, List.getElem_cons_zero, List.setIfInBounds_toArray, List.set_cons_zero, List.set_cons_succ]
   refine fT 1 rfl hHeld ?_; try simp only [sP,sQ]
   refine fT 2 rfl hHeld ?_; try simp only [sP,sQ]
   refine fT 3 rfl hHeld ?_; try simp only [sP,sQ]
   refine wpAnyH_ready (rs := [4]) (by kernel_rfl) (by simp) ?_
   refine (AllReadyH.cons (o := _) rfl (fun K hK => ?_) AllReadyH.nil)
   go_simp
   refine (key_any hT.out.reads off _ rfl).mono ?_
   rintro _ W3 ⟨rfl, kn⟩
   replace hst := sN hst kn
   replace hT := qH (hT.out.nil kn)
   replace hB1 := bN hB1 kn
   clear kn
   refine hK.out _ _ (cB hB1 0) (fun hHeld => ?_)
   clear hK K
   try simp only [sP,sQ]
   refine wpAnyH_ready (rs := [5]) (by kernel_rfl) (by simp) ?_
   refine (AllReadyH.cons (o := _) rfl (fun K hK => ?_) AllReadyH.nil)
   go_simp
   refine (side_any hT.out.reads at_ (sizeF f off) off).mono ?_
   rintro _ W4 ⟨rfl, kn⟩
   obtain ⟨v1, zv1⟩ : ∃ v : UInt64, v = sideF szU f at_ ((sizeF f off), off) := ⟨_, rfl⟩
   rw [← zv1]
   replace zv1 := qH zv1
   replace hst := sN hst kn
   replace hT := qH (hT.out.nil kn)
   replace hB1 := bN hB1 kn
   clear kn
   refine hK.out _ _ (cB hB1 0) (fun hHeld => ?_)
   clear hK K
   try simp only [sP,sQ]
   refine fT 6 rfl hHeld ?_; try simp only [sP,sQ]
   refine fD ?_
   clear hHeld
   have c_B1_0 := cB hB1 0
   have f_B1_0 := hB1.out.frz 0
   have l_B1 := hB1.out.lt
   go_wp2_with fail
   clear c_B1_0 f_B1_0 l_B1
   obtain ⟨W5, hW5⟩ := nm (W4.drew)
   have kn := kD hW5
   replace hst := sN hst kn
   replace hT := qH (hT.out.nil kn)
   replace hB1 := bN hB1 kn
   clear kn
   refine wp_region_held_drew (S := fun w' => w'.cell? ⟨B1, 0, none⟩ = some (.pointer (some ⟨t, 0, none⟩))) (by kernel_rfl) (by rw [← hW5.out]; exact cB hB1 0) (fun hHeld => ?_)
   rw [← hW5.out] at hHeld ⊢
   refine fT 0 rfl hHeld ?_
   try simp only [Act.put, List.getElem_toArray, List.getElem_cons_zero, List.setIfInBounds_toArray, List.set_cons_zero, List.set_cons_succ]
   refine fT 1 rfl hHeld ?_; try simp only [sP,sQ]
   refine fT 2 rfl hHeld ?_; try simp only [sP,sQ]
   refine fT 3 rfl hHeld ?_; try simp only [sP,sQ]
   refine fT 5 rfl hHeld ?_; try simp only [sP,sQ]
   refine wpAnyH_ready (rs := [4]) (by kernel_rfl) (by simp) ?_
   refine (AllReadyH.cons (o := _) rfl (fun K hK => ?_) AllReadyH.nil)
   go_simp
   refine (hT.out.reads.loadC v1 _ rfl).mono ?_
   rintro _ W6 ⟨rfl, kn⟩
   replace hst := sN hst kn
   replace hT := qH (hT.out.nil kn)
   replace hB1 := bN hB1 kn
   clear kn
   refine hK.out _ _ (cB hB1 0) (fun hHeld => ?_)
   clear hK K
   try simp only [sP,sQ]
   refine wpAnyH_ready (rs := [6]) (by kernel_rfl) (by simp) ?_
   refine (AllReadyH.cons (o := _) rfl (fun K hK => ?_) AllReadyH.nil)
   go_simp
   have ih2 := @ih _ _ _ hT.out
   have e0 : sideF szU f at_ (keyF szU f off) = v1 := zv1.out.symm
   rw [e0] at ih2
   clear e0
   refine (ih2).mono ?_
   rintro _ W7 ⟨rfl, S1, hT2, kn⟩
   clear ih ih2
   replace hst := sT hst kn
   replace hB1 := bS hB1 kn
   replace hT := qH hT2
   clear kn hT2
   refine hK.out _ _ (cB hB1 0) (fun hHeld => ?_)
   clear hK K
   try simp only [sP,sQ]
   refine fT 7 rfl hHeld ?_; try simp only [sP,sQ]
   refine fT 8 rfl hHeld ?_; try simp only [sP,sQ]
   refine fT 9 rfl hHeld ?_; try simp only [sP,sQ]
   refine fT 10 rfl hHeld ?_; try simp only [sP,sQ]
   refine fT 11 rfl hHeld ?_; try simp only [sP,sQ]
   refine fD ?_
   clear hHeld
   have c_B1_0 := cB hB1 0
   have f_B1_0 := hB1.out.frz 0
   have l_B1 := hB1.out.lt
   go_wp2_with fail
   clear c_B1_0 f_B1_0 l_B1
   refine (hT.out.store v1 r _ _ rfl rfl).mono ?_
   rintro _ W8 ⟨rfl, S2, hT2, kn⟩
   replace hst := sT hst kn
   replace hB1 := bS hB1 kn
   replace hT := qH hT2
   clear kn hT2
   have c_B1_0 := cB hB1 0
   have f_B1_0 := hB1.out.frz 0
   have l_B1 := hB1.out.lt
   go_wp2_with fail
   go_ret2
   clear c_B1_0 f_B1_0 l_B1
   have hT3 := hT.out
   rw [zv1.out] at hT3
   exact ⟨rfl, _, hT3, hst.out⟩
theorem plantF_any {n : Nat} {f : UInt64 → UInt64} {w : World} {t : Nat} {S : Nat → Prop} (h : TxF w t f n S) (off : UInt64) (x : Int) (hx : x = (off.toNat : Int)) :
  Calls Tryz.prog 45 #[.pointer (some ⟨t, 0, none⟩), .int .u64 x] w fun e w' => e = .returned (.tuple #[]) ∧ ∃ S', TxF w' t (stF n f 32 off) n S' ∧ Step S S' w w' := by
 subst hx
 have hT := qH h
 clear h
 have hst := qH (Step.refl S w)
 go_enter Tryz.func45, Tryz.ntmps45
 go_wp2_with fail
 refine (hT.out.store 32 off _ _ (by rfl) rfl).mono ?_
 rintro _ W1 ⟨rfl, S1, hT2, kn⟩
 replace hst := sT hst kn
 replace hT := qH hT2
 clear kn hT2
 go_wp2_with fail
 go_end0
 exact ⟨rfl, _, hT.out, hst.out⟩
theorem Insert_any {n : Nat} {f f' : UInt64 → UInt64} {off r : UInt64} (h : InsR szU mixU n f (f 32) off f' r) {w : World} {t : Nat} {S : Nat → Prop} (hT : TxF w t f n S) :
  Calls Tryz.prog 47 #[.pointer (some ⟨t, 0, none⟩), .int .u64 (off.toNat : Int)] w fun e w' =>
   e = .returned (.tuple #[]) ∧ ∃ S', TxF w' t (stF n f' 32 r) n S' ∧ Step S S' w w' := by
 have HI := qH h
 replace hT := qH hT
 clear h
 have hst := qH (Step.refl S w)
 go_enter Tryz.func47, Tryz.ntmps47
 go_wp2_with fail
 refine (hRoot_any hT.out.reads).mono ?_
 rintro _ W1 ⟨rfl, kn⟩
 replace hst := sN hst kn
 replace hT := qH (hT.out.nil kn)
 clear kn
 go_wp2_with fail
 refine (insert_any HI.out hT.out).mono ?_
 rintro _ W2 ⟨rfl, S1, hT2, kn⟩
 replace hst := sT hst kn
 replace hT := qH hT2
 clear kn hT2
 go_wp2_with fail
 refine (plantF_any hT.out r _ rfl).mono ?_
 rintro _ W3 ⟨rfl, S2, hT2, kn⟩
 replace hst := sT hst kn
 replace hT := qH hT2
 clear kn hT2
 go_wp2_with fail
 go_end0
 exact ⟨rfl, _, hT.out, hst.out⟩
theorem Delete_any {n : Nat} {f f' : UInt64 → UInt64} {off r : UInt64} {ok : Bool} (h : RemR szU mixU n f (f 32) off f' r ok) {w : World} {t : Nat} {S : Nat → Prop} (hT : TxF w t f n S) :
   Calls Tryz.prog 52 #[.pointer (some ⟨t, 0, none⟩), .int .u64 (off.toNat : Int)] w fun e w' =>
    e = .returned (.bool ok) ∧ ∃ S', TxF w' t (if ok then stF n f' 32 r else f') n S' ∧ Step S S' w w' := by
 have HI := qH h
 replace hT := qH hT
 clear h
 cases ok with
 | true =>
   have hst := qH (Step.refl S w)
   go_enter Tryz.func52, Tryz.ntmps52
   go_wp2_with fail
   refine (hRoot_any hT.out.reads).mono ?_
   rintro _ W1 ⟨rfl, kn⟩
   replace hst := sN hst kn
   replace hT := qH (hT.out.nil kn)
   clear kn
   go_wp2_with fail
   refine (remove_any HI.out hT.out).mono ?_
   rintro _ W2 ⟨rfl, S1, hT2, kn⟩
   replace hst := sT hst kn
   replace hT := qH hT2
   clear kn hT2
   go_wp2_with fail
   refine (plantF_any hT.out r _ rfl).mono ?_
   rintro _ W3 ⟨rfl, S2, hT2, kn⟩
   replace hst := sT hst kn
   replace hT := qH hT2
   clear kn hT2
   go_wp2_with fail
   go_ret
   exact ⟨rfl, _, hT.out, hst.out⟩
 | false =>
   have hst := qH (Step.refl S w)
   go_enter Tryz.func52, Tryz.ntmps52
   go_wp2_with fail
   refine (hRoot_any hT.out.reads).mono ?_
   rintro _ W1 ⟨rfl, kn⟩
   replace hst := sN hst kn
   replace hT := qH (hT.out.nil kn)
   clear kn
   go_wp2_with fail
   refine (remove_any HI.out hT.out).mono ?_
   rintro _ W2 ⟨rfl, S1, hT2, kn⟩
   replace hst := sT hst kn
   replace hT := qH hT2
   clear kn hT2
   go_wp2_with fail
   go_ret
   exact ⟨rfl, _, hT.out, hst.out⟩
theorem View.cellX {w : World} {b off : Nat} {l : List UInt64} (h : ∀ i j, j < kU.size → i < l.length → w.cell? ⟨b, off + (i * kU.size + j), none⟩ = (l[i]?).bind (fun x => (kU.enc x)[j]?)) (i : Nat) (x : UInt64) (hx : l[i]? = some x) : w.cell? ⟨b, off + i, none⟩ = some (.int .u64 (x.toNat : Int)) := by
 have hi : i < l.length := (List.getElem?_eq_some_iff.1 hx).1
 rw [View.cellU h i hi, hx]; rfl
theorem built1_any (w : World) (a b : UInt64) : Calls Tryz.prog 156 #[.int .u64 (a.toNat : Int), .int .u64 (b.toNat : Int)] w fun e w' => e = .returned (.int .i64 (cmp1 (mixU a) (mixU b))) ∧ Keeps Nil w w' := by
 have hst := qH (Step.refl Nil w)
 go_enter Tryz.func156, Tryz.ntmps156
 go_wp2_with fail
 refine (wMix_any _ a _ rfl).mono ?_
 rintro _ _ ⟨rfl, rfl⟩
 obtain ⟨v1, zv1⟩ : ∃ v : UInt64, v = a * goldU := ⟨_, rfl⟩
 rw [← zv1]
 replace zv1 := qH zv1
 go_wp2_with fail
 refine (wMix_any _ b _ rfl).mono ?_
 rintro _ _ ⟨rfl, rfl⟩
 obtain ⟨v2, zv2⟩ : ∃ v : UInt64, v = b * goldU := ⟨_, rfl⟩
 rw [← zv2]
 replace zv2 := qH zv2
 go_wp2_with fail
 refine (Compare_any _ v1 v2).mono ?_
 rintro _ _ ⟨rfl, rfl⟩
 go_wp2_with fail
 go_ret
 exact ⟨by rw [zv1.out, zv2.out]; rfl, hst.out.keeps⟩
theorem MaxFunc_any {S : Nat → Prop} {w : World} {v : Value} {l : List UInt64} (h : View kU S w v l) (hn : 0 < l.length) :
    Calls Tryz.prog 155 #[v, .func (.func 156) #[] #[]] w fun e w' => ∃ m : UInt64, e = .returned (.int .u64 (m.toNat : Int)) ∧ m ∈ l ∧ (∀ y ∈ l, mixU y ≤ mixU m) ∧ Keeps Nil w w' := by
  obtain ⟨gb, go, cap, rfl, hc, hm, hb, _, hcell⟩ := h.pos hn
  obtain ⟨N, hN⟩ : ∃ N, N = l.length := ⟨_, rfl⟩
  have hNm : N ≤ 9223372036854775807 := by unfold maxLen at hm; omega
  have hN1 : 1 ≤ N := by omega
  rw [← hN]
  have HC := qH hcell
  have HGB := qH hb
  have HL := qH hN
  clear hcell hc hm hn h hN hb
  obtain ⟨x0, hx0⟩ : ∃ x, l[0]? = some x := ⟨l[0]'(by have := HL.out; omega), by have := HL.out; simp⟩
  have HX0 := qH hx0
  clear hx0
  have hst := qH (Step.refl Nil w)
  go_enter Tryz.func155, Tryz.ntmps155
  have e_0 : w.cell? ⟨gb, go, none⟩ = some (.int .u64 (x0.toNat : Int)) := by simpa using eX hst HGB (View.cellX HC.out 0 _ HX0.out)
  go_wp2_with fail
  clear e_0
  go_wp2_with fail
  go_loopw [5, 6] (fun best i wr => ∃ (k : Nat) (m : UInt64), 1 ≤ k ∧ k ≤ N ∧ best = .int .u64 (m.toNat : Int) ∧ i = .int .i64 (k : Int) ∧ Hid (Keeps Nil w wr) ∧ Hid (m ∈ l ∧ ∀ j y, j < k → l[j]? = some y → mixU y ≤ mixU m)) (fun best i _ => N - (intOf i).toNat)
  case atStart => exact ⟨1, x0, by omega, hN1, rfl, rfl, qH hst.out.keeps, qH ⟨List.mem_of_getElem? HX0.out, fun j y hj hy => by
      obtain rfl : j = 0 := by omega
      rw [HX0.out] at hy; cases hy; exact UInt64.le_refl _⟩⟩
  case round =>
    obtain ⟨k, m, hk1, hk, rfl, rfl, hK0, HS⟩ := hrel
    replace hst := qH (Step.of_nil (S := Nil) hK0.out)
    clear hK0
    by_cases hlt : k < N
    · obtain ⟨x, hx⟩ : ∃ x, l[k]? = some x := ⟨l[k]'(by have := HL.out; omega), by have := HL.out; simp⟩
      have HX := qH hx
      clear hx
      obtain ⟨c, hcm⟩ : ∃ c, c = cmp1 (mixU x) (mixU m) := ⟨_, rfl⟩
      have HCM := qH hcm.symm
      by_cases hgt : (mixU m).toNat < (mixU x).toNat
      · have HGT := qH hgt
        have hd : decide (0 < c) = true := by rw [hcm]; unfold cmp1; rw [if_neg (by omega), if_pos hgt]; rfl
        clear hgt hcm
        have e_k := eX hst HGB (View.cellX HC.out k _ HX.out)
        go_wp2_with fail
        clear e_k
        refine (built1_any _ x m).mono ?_
        rintro _ W1 ⟨rfl, kn⟩
        rw [HCM.out]
        replace hst := sN hst kn
        clear kn
        have e_k := eX hst HGB (View.cellX HC.out k _ HX.out)
        go_wp2_with fail
        clear e_k
        go_roundw
        case rel => exact ⟨k + 1, x, by omega, by omega, rfl, by go_num, qH hst.out.keeps, qH ⟨List.mem_of_getElem? HX.out, fun j y hj hy => by
          by_cases e : j = k
          · subst e; rw [HX.out] at hy; cases hy; exact UInt64.le_refl _
          · exact UInt64.le_trans (HS.out.2 j y (by omega) hy) (UInt64.le_of_lt (UInt64.lt_iff_toNat_lt.2 HGT.out))⟩⟩
        case measure => simp [intOf]; omega
      · have HGT := qH hgt
        have hd : decide (0 < c) = false := by
              rw [hcm]; unfold cmp1
              by_cases h9 : (mixU x).toNat < (mixU m).toNat
              · rw [if_pos h9]; rfl
              · rw [if_neg h9, if_neg hgt]; rfl
        clear hgt hcm
        have e_k := eX hst HGB (View.cellX HC.out k _ HX.out)
        go_wp2_with fail
        clear e_k
        refine (built1_any _ x m).mono ?_
        rintro _ W1 ⟨rfl, kn⟩
        rw [HCM.out]
        replace hst := sN hst kn
        clear kn
        have e_k := eX hst HGB (View.cellX HC.out k _ HX.out)
        go_wp2_with fail
        clear e_k
        go_roundw
        case rel => exact ⟨k + 1, m, by omega, by omega, rfl, by go_num, qH hst.out.keeps, qH ⟨HS.out.1, fun j y hj hy => by
          by_cases e : j = k
          · subst e; rw [HX.out] at hy; cases hy; exact UInt64.le_iff_toNat_le.2 (Nat.not_lt.1 HGT.out)
          · exact HS.out.2 j y (by omega) hy⟩⟩
        case measure => simp [intOf]; omega
    · skip
      go_wp2_with fail
      go_ret
      refine ⟨m, rfl, HS.out.1, fun y hy => ?_, hst.out.keeps⟩
      obtain ⟨j, hj, e⟩ := List.getElem_of_mem hy
      exact HS.out.2 j y (by have := HL.out; omega) (by rw [← e]; exact List.getElem?_eq_getElem hj)
theorem IndexU_any {S : Nat → Prop} {w : World} {v : Value} {l A B : List UInt64} {x : UInt64} (h : View kU S w v l) (hl : l = A ++ x :: B) (hx : x ∉ A) :
  Calls Tryz.prog 158 #[v, .int .u64 (x.toNat : Int)] w fun e w' => e = .returned (.int .i64 (A.length : Int)) ∧ Keeps Nil w w' := by
 have hn : 0 < l.length := by rw [hl]; simp; omega
 have hxA : l[A.length]? = some x := by rw [hl]; simp
 have hAl : A.length < l.length := by rw [hl]; simp
 have hne : ∀ j y, j < A.length → l[j]? = some y → y ≠ x := fun j y hj hy e => by
  rw [hl, List.getElem?_append_left hj] at hy
  exact hx (by rw [← e]; exact List.mem_of_getElem? hy)
 obtain ⟨a, ha⟩ : ∃ a, a = A.length := ⟨_, rfl⟩
 rw [← ha] at hxA hAl hne ⊢
 have HXA := qH (And.intro hxA hne)
 clear hl hx hxA hne ha
 obtain ⟨gb, go, cap, rfl, hc, hm, hb, _, hcell⟩ := h.pos hn
 obtain ⟨N, hN⟩ : ∃ N, N = l.length := ⟨_, rfl⟩
 have hNm : N ≤ 9223372036854775807 := by unfold maxLen at hm; omega
 have hN1 : 1 ≤ N := by omega
 rw [← hN]
 have HC := qH hcell
 have HGB := qH hb
 have HL := qH hN
 clear hcell hc hm hn h hN hb
 have haN : a < N := by have := HL.out; omega
 clear hAl
 have hst := qH (Step.refl Nil w)
 go_enter Tryz.func158, Tryz.ntmps158
 go_wp2_with fail
 go_loopw [5, 8] (fun z i wr => ∃ k : Nat, k ≤ a ∧ i = .int .i64 (k : Int) ∧ Hid (Keeps Nil w wr)) (fun z i _ => N - (intOf i).toNat)
 case atStart => exact ⟨0, by omega, rfl, qH hst.out.keeps⟩
 case round =>
  obtain ⟨k, hk, rfl, hK0⟩ := hrel
  replace hst := qH (Step.of_nil (S := Nil) hK0.out)
  clear hK0
  obtain ⟨y, hy⟩ : ∃ y, l[k]? = some y := ⟨l[k]'(by have := HL.out; omega), by have := HL.out; simp⟩
  have HX := qH hy
  have hkN : k < N := by omega
  clear hy
  by_cases hka : k = a
  ·have HE := qH (show y = x by have h1 := HX.out; have h2 := HXA.out.1; rw [hka, h2] at h1; exact (Option.some.inj h1).symm)
   have HKA := qH hka
   clear hka
   have d1 : (((x.toNat : Int) : Int) == ((y.toNat : Int) : Int)) = true := (same_u64 (a := x) (b := y) (HE.out.symm)).2
   have e_k := eX hst HGB (View.cellX HC.out k _ HX.out)
   go_wp2_with fail
   go_ret
   clear e_k
   exact ⟨by rw [HKA.out]; rfl, hst.out.keeps⟩
  ·have hka2 : k < a := by omega
   have HE := qH (HXA.out.2 k y hka2 HX.out)
   clear hka
   have d1 : (((x.toNat : Int) : Int) == ((y.toNat : Int) : Int)) = false := (unlike_u64 (a := x) (b := y) (fun e => HE.out e.symm)).2
   have e_k := eX hst HGB (View.cellX HC.out k _ HX.out)
   go_wp2_with fail
   clear e_k
   go_roundw
   case rel => exact ⟨k + 1, by omega, by go_num, qH hst.out.keeps⟩
   case measure => simp [intOf]; omega
end
end Go.Proofs.YtefpbljekfkefaaGreat
