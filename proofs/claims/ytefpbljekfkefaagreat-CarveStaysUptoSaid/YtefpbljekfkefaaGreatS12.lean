/- TreeW, TreeSJ: written short. -/
import Derived.Test.YtefpbljekfkefaaGreatS11
import Derived.Test.YtefpbljekfkefaaGreatS04
import Derived.Test.YtefpbljekfkefaaGreatS01
import Derived.Test.YtefpbljekfkefaaGreatS10
set_option maxRecDepth 100000
set_option maxHeartbeats 8000000
namespace Go.Proofs.YtefpbljekfkefaaGreat
section
open Go.RowKit PT
def cmpK (a b c d : UInt64) : Int := or2 (cmp1 a c) (cmp1 b d)
theorem cmpK_lt (a b c d : UInt64) : decide (cmpK a b c d < 0) = ltK (a, b) (c, d) := by
  rw [Bool.eq_iff_iff, decide_eq_true_iff, ltK_iff]
  unfold cmpK or2 cmp1
  simp only
  by_cases h1 : a.toNat < c.toNat
  · rw [if_pos h1]; simp [h1]
  · rw [if_neg h1]
    by_cases h2 : c.toNat < a.toNat
    · rw [if_pos h2]; simp; omega
    · rw [if_neg h2, if_pos rfl]
      by_cases h3 : b.toNat < d.toNat
      · rw [if_pos h3]; simp; omega
      · rw [if_neg h3]
        by_cases h4 : d.toNat < b.toNat
        · rw [if_pos h4]; simp; omega
        · rw [if_neg h4]; simp; omega
theorem compare_any (w : World) (a b c d : UInt64) :
  Calls Tryz.prog 112 #[.agg #[.int .u64 (a.toNat : Int), .int .u64 (b.toNat : Int)], .agg #[.int .u64 (c.toNat : Int), .int .u64 (d.toNat : Int)]] w fun e w' => e = .returned (.int .i64 (cmpK a b c d)) ∧ Keeps Nil w w' := by
 obtain ⟨p, hp⟩ : ∃ p, p = cmp1 a c := ⟨_, rfl⟩
 obtain ⟨q, hq⟩ : ∃ q, q = cmp1 b d := ⟨_, rfl⟩
 have hr : cmpK a b c d = or2 p q := by unfold cmpK; rw [hp, hq]
 rw [hr]
 have HP := qH (And.intro hp hq)
 clear hp hq hr
 have hst := qH (Step.refl Nil w)
 go_enter Tryz.func112, Tryz.ntmps112
 obtain ⟨W1, hW1⟩ := nm (w.alloc (.cells #[.int .u64 (a.toNat : Int), .int .u64 (b.toNat : Int)] 162))
 obtain ⟨B1, eB1⟩ := nm (w.heap.size)
 obtain ⟨W2, hW2⟩ := nm (W1.alloc (.cells #[.int .u64 (c.toNat : Int), .int .u64 (d.toNat : Int)] 162))
 obtain ⟨B2, eB2⟩ := nm (w.heap.size + 1)
 go_wp2_with fail
 rw [← hW1.out]
 rw [← hW2.out]
 try rw [← eB2.out]
 try rw [← eB1.out]
 have k1 := kA hW1
 have e0B1 := eB1.out
 have hB1 := zB hW1 (Bx.new Nil.lt _ _ e0B1)
 have gB1 := gZ e0B1 hst
 replace hst := sN hst k1
 clear k1 e0B1
 have k2 := kA hW2
 have e0B2 : B2 = W1.heap.size := by rw [eB2.out, hW1.out]; simp []
 have hB2 := zB hW2 (Bx.new Nil.lt _ _ e0B2)
 have gB2 := gZ e0B2 hst
 have nB1B2 := nZ e0B2 hB1
 replace hst := sN hst k2
 replace hB1 := bN hB1 k2
 clear k2 e0B2
 obtain ⟨W3, hW3⟩ := nm (W2.drew)
 have kn := kD hW3
 replace hst := sN hst kn
 replace hB1 := bN hB1 kn
 replace hB2 := bN hB2 kn
 clear kn
 refine wp_region_held_drew (S := fun w' => w'.cell? ⟨B1, 0, none⟩ = some (.int .u64 (a.toNat : Int)) ∧ w'.cell? ⟨B1, 1, none⟩ = some (.int .u64 (b.toNat : Int)) ∧ w'.cell? ⟨B2, 0, none⟩ = some (.int .u64 (c.toNat : Int)) ∧ w'.cell? ⟨B2, 1, none⟩ = some (.int .u64 (d.toNat : Int))) (by kernel_rfl) (by rw [← hW3.out]; exact ⟨cB hB1 0, cB hB1 1, cB hB2 0, cB hB2 1⟩) (fun hHeld => ?_)
 rw [← hW3.out] at hHeld ⊢
 refine fT 0 rfl hHeld ?_
 try simp only [Act.put, List.getElem_toArray, List.getElem_cons_zero, List.setIfInBounds_toArray, List.set_cons_zero, List.set_cons_succ]
 refine fT 1 rfl hHeld ?_; try simp only [sP,sQ]
 refine fT 2 rfl hHeld ?_; try simp only [sP,sQ]
 refine fT 3 rfl hHeld ?_; try simp only [sP,sQ]
 refine fT 5 rfl hHeld ?_; try simp only [sP,sQ]
 refine fT 6 rfl hHeld ?_; try simp only [sP,sQ]
 refine fT 7 rfl hHeld ?_; try simp only [sP,sQ]
 refine fT 8 rfl hHeld ?_; try simp only [sP,sQ]
 refine wpAnyH_ready (rs := [4]) (by kernel_rfl) (by simp) ?_
 refine (AllReadyH.cons (o := _) rfl (fun K hK => ?_) AllReadyH.nil)
 go_simp
 refine (Compare_any _ a c).mono ?_
 rintro _ _ ⟨rfl, rfl⟩
 rw [← HP.out.1]
 refine hK.out _ _ (⟨cB hB1 0, cB hB1 1, cB hB2 0, cB hB2 1⟩) (fun hHeld => ?_)
 clear hK K
 try simp only [sP,sQ]
 refine wpAnyH_ready (rs := [9]) (by kernel_rfl) (by simp) ?_
 refine (AllReadyH.cons (o := _) rfl (fun K hK => ?_) AllReadyH.nil)
 go_simp
 refine (Compare_any _ b d).mono ?_
 rintro _ _ ⟨rfl, rfl⟩
 rw [← HP.out.2]
 refine hK.out _ _ (⟨cB hB1 0, cB hB1 1, cB hB2 0, cB hB2 1⟩) (fun hHeld => ?_)
 clear hK K
 try simp only [sP,sQ]
 refine wpAnyH_ready (rs := [10]) (by kernel_rfl) (by simp) ?_
 refine (AllReadyH.cons (o := _) rfl (fun K hK => ?_) AllReadyH.nil)
 have c_B1_0 := cB hB1 0
 have f_B1_0 := hB1.out.frz 0
 have c_B1_1 := cB hB1 1
 have f_B1_1 := hB1.out.frz 1
 have l_B1 := hB1.out.lt
 have c_B2_0 := cB hB2 0
 have f_B2_0 := hB2.out.frz 0
 have c_B2_1 := cB hB2 1
 have f_B2_1 := hB2.out.frz 1
 have l_B2 := hB2.out.lt
 obtain ⟨W6, hW6⟩ := nm (W3.alloc (.cells #[.int .i64 p, .int .i64 q] 3))
 obtain ⟨B3, eB3⟩ := nm (W3.heap.size)
 go_simp
 clear c_B1_0 f_B1_0 c_B1_1 f_B1_1 l_B1 c_B2_0 f_B2_0 c_B2_1 f_B2_1 l_B2
 rw [← hW6.out]
 try rw [← eB3.out]
 have k3 := kA hW6
 have e0B3 := eB3.out
 have hB3 := zB hW6 (Bx.new Nil.lt _ _ e0B3)
 have gB3 := gZ e0B3 hst
 have nB1B3 := nZ e0B3 hB1
 have nB2B3 := nZ e0B3 hB2
 replace hst := sN hst k3
 replace hB1 := bN hB1 k3
 replace hB2 := bN hB2 k3
 clear k3 e0B3
 refine hK.out _ _ (⟨cB hB1 0, cB hB1 1, cB hB2 0, cB hB2 1⟩) (fun hHeld => ?_)
 clear hK K
 try simp only [sP,sQ]
 refine wpAnyH_ready (rs := [11]) (by kernel_rfl) (by simp) ?_
 refine (AllReadyH.cons (o := _) rfl (fun K hK => ?_) AllReadyH.nil)
 go_simp
 refine (Or_any _ _ p q (cB hB3 0) (cB hB3 1)).mono ?_
 rintro _ _ ⟨rfl, rfl⟩
 refine hK.out _ _ (⟨cB hB1 0, cB hB1 1, cB hB2 0, cB hB2 1⟩) (fun hHeld => ?_)
 clear hK K
 try simp only [sP,sQ]
 refine fT 12 rfl hHeld ?_; try simp only [sP,sQ]
 refine fD ?_
 clear hHeld
 have c_B1_0 := cB hB1 0
 have f_B1_0 := hB1.out.frz 0
 have c_B1_1 := cB hB1 1
 have f_B1_1 := hB1.out.frz 1
 have l_B1 := hB1.out.lt
 have c_B2_0 := cB hB2 0
 have f_B2_0 := hB2.out.frz 0
 have c_B2_1 := cB hB2 1
 have f_B2_1 := hB2.out.frz 1
 have l_B2 := hB2.out.lt
 have c_B3_0 := cB hB3 0
 have f_B3_0 := hB3.out.frz 0
 have c_B3_1 := cB hB3 1
 have f_B3_1 := hB3.out.frz 1
 have l_B3 := hB3.out.lt
 go_wp2_with fail
 go_ret
 clear c_B1_0 f_B1_0 c_B1_1 f_B1_1 l_B1 c_B2_0 f_B2_0 c_B2_1 f_B2_1 l_B2 c_B3_0 f_B3_0 c_B3_1 f_B3_1 l_B3
 exact ⟨rfl, hst.out.keeps⟩
theorem side_any {a : Option Addr} {f : UInt64 → UInt64} {N : Nat} {w : World} (h : Reads (.pointer a) f N w) (at_ ks ko : UInt64) :
   Calls Tryz.prog 111 #[.agg #[.pointer a], .int .u64 (at_.toNat : Int), .agg #[.int .u64 (ks.toNat : Int), .int .u64 (ko.toNat : Int)]] w fun e w' => e = .returned (.int .u64 ((sideF (fun x => (unpackT x).size) f at_ (ks, ko)).toNat : Int)) ∧ Keeps Nil w w' := by
 have hT := qH h
 clear h
 unfold sideF
 cases hc : ltK (ks, ko) (keyF (fun x => (unpackT x).size) f at_) with
 | true =>
   have hd : decide (cmpK ks ko (sizeF f at_) at_ < 0) = true := by rw [cmpK_lt]; exact hc
   clear hc
   have hst := qH (Step.refl Nil w)
   go_enter Tryz.func111, Tryz.ntmps111
   obtain ⟨W1, hW1⟩ := nm (w.alloc (.cells #[.pointer a] 153))
   obtain ⟨B1, eB1⟩ := nm (w.heap.size)
   obtain ⟨W2, hW2⟩ := nm (W1.alloc (.cells #[.int .u64 (ks.toNat : Int), .int .u64 (ko.toNat : Int)] 162))
   obtain ⟨B2, eB2⟩ := nm (w.heap.size + 1)
   go_wp2_with fail
   rw [← hW1.out]
   rw [← hW2.out]
   try rw [← eB2.out]
   try rw [← eB1.out]
   have k1 := kA hW1
   have e0B1 := eB1.out
   have hB1 := zB hW1 (Bx.new Nil.lt _ _ e0B1)
   have gB1 := gZ e0B1 hst
   replace hst := sN hst k1
   clear k1 e0B1
   have k2 := kA hW2
   have e0B2 : B2 = W1.heap.size := by rw [eB2.out, hW1.out]; simp []
   have hB2 := zB hW2 (Bx.new Nil.lt _ _ e0B2)
   have gB2 := gZ e0B2 hst
   have nB1B2 := nZ e0B2 hB1
   replace hst := sN hst k2
   replace hB1 := bN hB1 k2
   clear k2 e0B2
   obtain ⟨W3, hW3⟩ := nm (W2.drew)
   have kn := kD hW3
   replace hst := sN hst kn
   replace hB1 := bN hB1 kn
   replace hB2 := bN hB2 kn
   clear kn
   refine wp_region_held_drew (S := fun w' => w'.cell? ⟨B1, 0, none⟩ = some (.pointer a) ∧ w'.cell? ⟨B2, 0, none⟩ = some (.int .u64 (ks.toNat : Int)) ∧ w'.cell? ⟨B2, 1, none⟩ = some (.int .u64 (ko.toNat : Int))) (by kernel_rfl) (by rw [← hW3.out]; exact ⟨cB hB1 0, cB hB2 0, cB hB2 1⟩) (fun hHeld => ?_)
   rw [← hW3.out] at hHeld ⊢
   refine fT 0 rfl hHeld ?_
   try simp only [Act.put, List.getElem_toArray, List.getElem_cons_zero, List.setIfInBounds_toArray, List.set_cons_zero, List.set_cons_succ]
   refine fT 1 rfl hHeld ?_; try simp only [sP,sQ]
   refine fT 2 rfl hHeld ?_; try simp only [sP,sQ]
   refine wpAnyH_ready (rs := [3]) (by kernel_rfl) (by simp) ?_
   refine (AllReadyH.cons (o := _) rfl (fun K hK => ?_) AllReadyH.nil)
   go_simp
   refine (key_any (hT.out.keeps hst.out.keeps) at_ _ rfl).mono ?_
   rintro _ W4 ⟨rfl, kn⟩
   replace hst := sN hst kn
   replace hB1 := bN hB1 kn
   replace hB2 := bN hB2 kn
   clear kn
   refine hK.out _ _ (⟨cB hB1 0, cB hB2 0, cB hB2 1⟩) (fun hHeld => ?_)
   clear hK K
   try simp only [sP,sQ]
   refine wpAnyH_ready (rs := [4]) (by kernel_rfl) (by simp) ?_
   refine (AllReadyH.cons (o := _) rfl (fun K hK => ?_) AllReadyH.nil)
   go_simp
   refine (compare_any W4 ks ko (sizeF f at_) at_).mono ?_
   rintro _ W5 ⟨rfl, kn⟩
   replace hst := sN hst kn
   replace hB1 := bN hB1 kn
   replace hB2 := bN hB2 kn
   clear kn
   refine hK.out _ _ (⟨cB hB1 0, cB hB2 0, cB hB2 1⟩) (fun hHeld => ?_)
   clear hK K
   try simp only [sP,sQ]
   refine fT 5 rfl hHeld ?_; try simp only [sP,sQ]
   refine fD ?_
   clear hHeld
   obtain ⟨y1, zy1⟩ : ∃ y : UInt64, y = at_ + 8 := ⟨_, rfl⟩
   have q1 : IntKind.u64.wrap ((at_.toNat : Int) + 8) = (y1.toNat : Int) := by rw [zy1]; exact u64_add at_ 8
   replace zy1 := qH zy1
   have c_B1_0 := cB hB1 0
   have f_B1_0 := hB1.out.frz 0
   have l_B1 := hB1.out.lt
   have c_B2_0 := cB hB2 0
   have f_B2_0 := hB2.out.frz 0
   have c_B2_1 := cB hB2 1
   have f_B2_1 := hB2.out.frz 1
   have l_B2 := hB2.out.lt
   go_wp2_with fail
   go_ret
   clear c_B1_0 f_B1_0 l_B1 c_B2_0 f_B2_0 c_B2_1 f_B2_1 l_B2
   exact ⟨by rw [zy1.out]; rfl, hst.out.keeps⟩
 | false =>
   have hd : decide (cmpK ks ko (sizeF f at_) at_ < 0) = false := by rw [cmpK_lt]; exact hc
   clear hc
   have hst := qH (Step.refl Nil w)
   go_enter Tryz.func111, Tryz.ntmps111
   obtain ⟨W1, hW1⟩ := nm (w.alloc (.cells #[.pointer a] 153))
   obtain ⟨B1, eB1⟩ := nm (w.heap.size)
   obtain ⟨W2, hW2⟩ := nm (W1.alloc (.cells #[.int .u64 (ks.toNat : Int), .int .u64 (ko.toNat : Int)] 162))
   obtain ⟨B2, eB2⟩ := nm (w.heap.size + 1)
   go_wp2_with fail
   rw [← hW1.out]
   rw [← hW2.out]
   try rw [← eB2.out]
   try rw [← eB1.out]
   have k1 := kA hW1
   have e0B1 := eB1.out
   have hB1 := zB hW1 (Bx.new Nil.lt _ _ e0B1)
   have gB1 := gZ e0B1 hst
   replace hst := sN hst k1
   clear k1 e0B1
   have k2 := kA hW2
   have e0B2 : B2 = W1.heap.size := by rw [eB2.out, hW1.out]; simp []
   have hB2 := zB hW2 (Bx.new Nil.lt _ _ e0B2)
   have gB2 := gZ e0B2 hst
   have nB1B2 := nZ e0B2 hB1
   replace hst := sN hst k2
   replace hB1 := bN hB1 k2
   clear k2 e0B2
   obtain ⟨W3, hW3⟩ := nm (W2.drew)
   have kn := kD hW3
   replace hst := sN hst kn
   replace hB1 := bN hB1 kn
   replace hB2 := bN hB2 kn
   clear kn
   refine wp_region_held_drew (S := fun w' => w'.cell? ⟨B1, 0, none⟩ = some (.pointer a) ∧ w'.cell? ⟨B2, 0, none⟩ = some (.int .u64 (ks.toNat : Int)) ∧ w'.cell? ⟨B2, 1, none⟩ = some (.int .u64 (ko.toNat : Int))) (by kernel_rfl) (by rw [← hW3.out]; exact ⟨cB hB1 0, cB hB2 0, cB hB2 1⟩) (fun hHeld => ?_)
   rw [← hW3.out] at hHeld ⊢
   refine fT 0 rfl hHeld ?_
   try simp only [Act.put, List.getElem_toArray, List.getElem_cons_zero, List.setIfInBounds_toArray, List.set_cons_zero, List.set_cons_succ]
   refine fT 1 rfl hHeld ?_; try simp only [sP,sQ]
   refine fT 2 rfl hHeld ?_; try simp only [sP,sQ]
   refine wpAnyH_ready (rs := [3]) (by kernel_rfl) (by simp) ?_
   refine (AllReadyH.cons (o := _) rfl (fun K hK => ?_) AllReadyH.nil)
   go_simp
   refine (key_any (hT.out.keeps hst.out.keeps) at_ _ rfl).mono ?_
   rintro _ W4 ⟨rfl, kn⟩
   replace hst := sN hst kn
   replace hB1 := bN hB1 kn
   replace hB2 := bN hB2 kn
   clear kn
   refine hK.out _ _ (⟨cB hB1 0, cB hB2 0, cB hB2 1⟩) (fun hHeld => ?_)
   clear hK K
   try simp only [sP,sQ]
   refine wpAnyH_ready (rs := [4]) (by kernel_rfl) (by simp) ?_
   refine (AllReadyH.cons (o := _) rfl (fun K hK => ?_) AllReadyH.nil)
   go_simp
   refine (compare_any W4 ks ko (sizeF f at_) at_).mono ?_
   rintro _ W5 ⟨rfl, kn⟩
   replace hst := sN hst kn
   replace hB1 := bN hB1 kn
   replace hB2 := bN hB2 kn
   clear kn
   refine hK.out _ _ (⟨cB hB1 0, cB hB2 0, cB hB2 1⟩) (fun hHeld => ?_)
   clear hK K
   try simp only [sP,sQ]
   refine fT 5 rfl hHeld ?_; try simp only [sP,sQ]
   refine fD ?_
   clear hHeld
   obtain ⟨y1, zy1⟩ : ∃ y : UInt64, y = at_ + 16 := ⟨_, rfl⟩
   have q1 : IntKind.u64.wrap ((at_.toNat : Int) + 16) = (y1.toNat : Int) := by rw [zy1]; exact u64_add at_ 16
   replace zy1 := qH zy1
   have c_B1_0 := cB hB1 0
   have f_B1_0 := hB1.out.frz 0
   have l_B1 := hB1.out.lt
   have c_B2_0 := cB hB2 0
   have f_B2_0 := hB2.out.frz 0
   have c_B2_1 := cB hB2 1
   have f_B2_1 := hB2.out.frz 1
   have l_B2 := hB2.out.lt
   go_wp2_with fail
   go_ret
   clear c_B1_0 f_B1_0 l_B1 c_B2_0 f_B2_0 c_B2_1 f_B2_1 l_B2
   exact ⟨by rw [zy1.out]; rfl, hst.out.keeps⟩
abbrev szU : UInt64 → UInt64 := fun x => (unpackT x).size
abbrev mixU : UInt64 → UInt64 := fun x => x * goldU
theorem key_lt (f : UInt64 → UInt64) (at_ ks ko : UInt64) : decide (cmpK (sizeF f at_) at_ ks ko < 0) = ltK (keyF szU f at_) (ks, ko) := cmpK_lt _ _ _ _
theorem split_any {n : Nat} {f f' : UInt64 → UInt64} {at_ a b : UInt64} {k : UInt64 × UInt64} (h : SplR szU n f at_ k f' a b) : ∀ {w : World} {t : Nat} {S : Nat → Prop}, TxF w t f n S →
   Calls Tryz.prog 154 #[.agg #[.pointer (some ⟨t, 0, none⟩)], .int .u64 (at_.toNat : Int), .agg #[.int .u64 (k.1.toNat : Int), .int .u64 (k.2.toNat : Int)]] w fun e w' =>
    e = .returned (.tuple #[.int .u64 (a.toNat : Int), .int .u64 (b.toNat : Int)]) ∧ ∃ S', TxF w' t f' n S' ∧ Step S S' w w' := by
 induction h with
 | nil k =>
   intro w t S h
   obtain ⟨ks, ko⟩ := k
   have hT := qH h
   clear h
   have hst := qH (Step.refl S w)
   go_enter Tryz.func154, Tryz.ntmps154
   have d1 : ((((0 : UInt64).toNat : Int) : Int) == (0 : Int)) = true := (same_u64 (a := (0 : UInt64)) (b := 0) (rfl)).2
   obtain ⟨W1, hW1⟩ := nm (w.alloc (.cells #[.pointer (some ⟨t, 0, none⟩)] 153))
   obtain ⟨B1, eB1⟩ := nm (w.heap.size)
   obtain ⟨W2, hW2⟩ := nm (W1.alloc (.cells #[.int .u64 (ks.toNat : Int), .int .u64 (ko.toNat : Int)] 162))
   obtain ⟨B2, eB2⟩ := nm (w.heap.size + 1)
   go_wp2_with fail
   go_ret2
   rw [← hW1.out]
   rw [← hW2.out]
   try rw [← eB2.out]
   try rw [← eB1.out]
   have k1 := kA hW1
   have e0B1 := eB1.out
   have hB1 := zB hW1 (Bx.new hT.out.lt _ _ e0B1)
   have gB1 := gZ e0B1 hst
   replace hst := sN hst k1
   replace hT := qH (hT.out.nil k1)
   clear k1 e0B1
   have k2 := kA hW2
   have e0B2 : B2 = W1.heap.size := by rw [eB2.out, hW1.out]; simp []
   have hB2 := zB hW2 (Bx.new hT.out.lt _ _ e0B2)
   have gB2 := gZ e0B2 hst
   have nB1B2 := nZ e0B2 hB1
   replace hst := sN hst k2
   replace hT := qH (hT.out.nil k2)
   replace hB1 := bN hB1 k2
   clear k2 e0B2
   exact ⟨rfl, _, hT.out, hst.out⟩
 | @right at_ k f' a b h1 h2 h3 ih =>
   intro w t S h
   obtain ⟨ks, ko⟩ := k
   have hd : decide (cmpK (sizeF f at_) at_ ks ko < 0) = true := by rw [key_lt]; exact h2
   have hT := qH h
   have H1 := qH h1
   clear h h1 h2 h3
   have hst := qH (Step.refl S w)
   go_enter Tryz.func154, Tryz.ntmps154
   have d1 : (((at_.toNat : Int) : Int) == (0 : Int)) = false := (unlike_u64 (a := at_) (b := 0) (H1.out)).2
   obtain ⟨W1, hW1⟩ := nm (w.alloc (.cells #[.pointer (some ⟨t, 0, none⟩)] 153))
   obtain ⟨B1, eB1⟩ := nm (w.heap.size)
   obtain ⟨W2, hW2⟩ := nm (W1.alloc (.cells #[.int .u64 (ks.toNat : Int), .int .u64 (ko.toNat : Int)] 162))
   obtain ⟨B2, eB2⟩ := nm (w.heap.size + 1)
   go_wp2_with fail
   rw [← hW1.out]
   rw [← hW2.out]
   try rw [← eB2.out]
   try rw [← eB1.out]
   have k1 := kA hW1
   have e0B1 := eB1.out
   have hB1 := zB hW1 (Bx.new hT.out.lt _ _ e0B1)
   have gB1 := gZ e0B1 hst
   replace hst := sN hst k1
   replace hT := qH (hT.out.nil k1)
   clear k1 e0B1
   have k2 := kA hW2
   have e0B2 : B2 = W1.heap.size := by rw [eB2.out, hW1.out]; simp []
   have hB2 := zB hW2 (Bx.new hT.out.lt _ _ e0B2)
   have gB2 := gZ e0B2 hst
   have nB1B2 := nZ e0B2 hB1
   replace hst := sN hst k2
   replace hT := qH (hT.out.nil k2)
   replace hB1 := bN hB1 k2
   clear k2 e0B2
   obtain ⟨W3, hW3⟩ := nm (W2.drew)
   have kn := kD hW3
   replace hst := sN hst kn
   replace hT := qH (hT.out.nil kn)
   replace hB1 := bN hB1 kn
   replace hB2 := bN hB2 kn
   clear kn
   refine wp_region_held_drew (S := fun w' => w'.cell? ⟨B1, 0, none⟩ = some (.pointer (some ⟨t, 0, none⟩)) ∧ w'.cell? ⟨B2, 0, none⟩ = some (.int .u64 (ks.toNat : Int)) ∧ w'.cell? ⟨B2, 1, none⟩ = some (.int .u64 (ko.toNat : Int))) (by kernel_rfl) (by rw [← hW3.out]; exact ⟨cB hB1 0, cB hB2 0, cB hB2 1⟩) (fun hHeld => ?_)
   rw [← hW3.out] at hHeld ⊢
   refine fT 0 rfl hHeld ?_
   try simp only [Act.put, List.getElem_toArray, List.getElem_cons_zero, List.setIfInBounds_toArray, List.set_cons_zero, List.set_cons_succ]
   refine fT 1 rfl hHeld ?_; try simp only [sP,sQ]
   refine fT 3 rfl hHeld ?_; try simp only [sP,sQ]
   refine wpAnyH_ready (rs := [2]) (by kernel_rfl) (by simp) ?_
   refine (AllReadyH.cons (o := _) rfl (fun K hK => ?_) AllReadyH.nil)
   go_simp
   refine (key_any hT.out.reads at_ _ rfl).mono ?_
   rintro _ W4 ⟨rfl, kn⟩
   replace hst := sN hst kn
   replace hT := qH (hT.out.nil kn)
   replace hB1 := bN hB1 kn
   replace hB2 := bN hB2 kn
   clear kn
   refine hK.out _ _ (⟨cB hB1 0, cB hB2 0, cB hB2 1⟩) (fun hHeld => ?_)
   clear hK K
   try simp only [sP,sQ]
   refine wpAnyH_ready (rs := [4]) (by kernel_rfl) (by simp) ?_
   refine (AllReadyH.cons (o := _) rfl (fun K hK => ?_) AllReadyH.nil)
   go_simp
   refine (compare_any W4 (sizeF f at_) at_ ks ko).mono ?_
   rintro _ W5 ⟨rfl, kn⟩
   replace hst := sN hst kn
   replace hT := qH (hT.out.nil kn)
   replace hB1 := bN hB1 kn
   replace hB2 := bN hB2 kn
   clear kn
   refine hK.out _ _ (⟨cB hB1 0, cB hB2 0, cB hB2 1⟩) (fun hHeld => ?_)
   clear hK K
   try simp only [sP,sQ]
   refine fT 5 rfl hHeld ?_; try simp only [sP,sQ]
   refine fD ?_
   clear hHeld
   have c_B1_0 := cB hB1 0
   have f_B1_0 := hB1.out.frz 0
   have l_B1 := hB1.out.lt
   have c_B2_0 := cB hB2 0
   have f_B2_0 := hB2.out.frz 0
   have c_B2_1 := cB hB2 1
   have f_B2_1 := hB2.out.frz 1
   have l_B2 := hB2.out.lt
   go_wp2_with fail
   clear c_B1_0 f_B1_0 l_B1 c_B2_0 f_B2_0 c_B2_1 f_B2_1 l_B2
   obtain ⟨W6, hW6⟩ := nm (W5.drew)
   have kn := kD hW6
   replace hst := sN hst kn
   replace hT := qH (hT.out.nil kn)
   replace hB1 := bN hB1 kn
   replace hB2 := bN hB2 kn
   clear kn
   refine wp_region_held_drew (S := fun w' => w'.cell? ⟨B1, 0, none⟩ = some (.pointer (some ⟨t, 0, none⟩)) ∧ w'.cell? ⟨B2, 0, none⟩ = some (.int .u64 (ks.toNat : Int)) ∧ w'.cell? ⟨B2, 1, none⟩ = some (.int .u64 (ko.toNat : Int))) (by kernel_rfl) (by rw [← hW6.out]; exact ⟨cB hB1 0, cB hB2 0, cB hB2 1⟩) (fun hHeld => ?_)
   rw [← hW6.out] at hHeld ⊢
   refine fT 0 rfl hHeld ?_
   try simp only [Act.put, List.getElem_toArray, List.getElem_cons_zero, List.setIfInBounds_toArray, List.set_cons_zero, List.set_cons_succ]
   refine fT 1 rfl hHeld ?_; try simp only [sP,sQ]
   refine fT 2 rfl hHeld ?_; try simp only [sP,sQ]
   refine fT 3 rfl hHeld ?_; try simp only [sP,sQ]
   obtain ⟨y1, zy1⟩ : ∃ y : UInt64, y = at_ + 16 := ⟨_, rfl⟩
   have q1 : IntKind.u64.wrap ((at_.toNat : Int) + 16) = (y1.toNat : Int) := by rw [zy1]; exact u64_add at_ 16
   replace zy1 := qH zy1
   refine fT 4 rfl hHeld ?_; try simp only [sP,sQ]
   refine fT 6 rfl hHeld ?_; try simp only [sP,sQ]
   refine wpAnyH_ready (rs := [5]) (by kernel_rfl) (by simp) ?_
   refine (AllReadyH.cons (o := _) rfl (fun K hK => ?_) AllReadyH.nil)
   go_simp
   refine (hT.out.reads.loadC y1 _ rfl).mono ?_
   rintro _ W7 ⟨rfl, kn⟩
   replace hst := sN hst kn
   replace hT := qH (hT.out.nil kn)
   replace hB1 := bN hB1 kn
   replace hB2 := bN hB2 kn
   clear kn
   refine hK.out _ _ (⟨cB hB1 0, cB hB2 0, cB hB2 1⟩) (fun hHeld => ?_)
   clear hK K
   try simp only [sP,sQ]
   refine wpAnyH_ready (rs := [7]) (by kernel_rfl) (by simp) ?_
   refine (AllReadyH.cons (o := _) rfl (fun K hK => ?_) AllReadyH.nil)
   go_simp
   have ih2 := @ih _ _ _ hT.out
   rw [← zy1.out] at ih2
   refine (ih2).mono ?_
   rintro _ W8 ⟨rfl, S1, hT2, kn⟩
   clear ih ih2
   replace hst := sT hst kn
   replace hB1 := bS hB1 kn
   replace hB2 := bS hB2 kn
   replace hT := qH hT2
   clear kn hT2
   refine hK.out _ _ (⟨cB hB1 0, cB hB2 0, cB hB2 1⟩) (fun hHeld => ?_)
   clear hK K
   try simp only [sP,sQ]
   refine fT 8 rfl hHeld ?_; try simp only [sP,sQ]
   refine fT 9 rfl hHeld ?_; try simp only [sP,sQ]
   refine fT 10 rfl hHeld ?_; try simp only [sP,sQ]
   refine fT 11 rfl hHeld ?_; try simp only [sP,sQ]
   refine fT 12 rfl hHeld ?_; try simp only [sP,sQ]
   refine fD ?_
   clear hHeld
   have c_B1_0 := cB hB1 0
   have f_B1_0 := hB1.out.frz 0
   have l_B1 := hB1.out.lt
   have c_B2_0 := cB hB2 0
   have f_B2_0 := hB2.out.frz 0
   have c_B2_1 := cB hB2 1
   have f_B2_1 := hB2.out.frz 1
   have l_B2 := hB2.out.lt
   go_wp2_with fail
   clear c_B1_0 f_B1_0 l_B1 c_B2_0 f_B2_0 c_B2_1 f_B2_1 l_B2
   refine (hT.out.store y1 a _ _ rfl rfl).mono ?_
   rintro _ W9 ⟨rfl, S2, hT2, kn⟩
   replace hst := sT hst kn
   replace hB1 := bS hB1 kn
   replace hB2 := bS hB2 kn
   replace hT := qH hT2
   clear kn hT2
   have c_B1_0 := cB hB1 0
   have f_B1_0 := hB1.out.frz 0
   have l_B1 := hB1.out.lt
   have c_B2_0 := cB hB2 0
   have f_B2_0 := hB2.out.frz 0
   have c_B2_1 := cB hB2 1
   have f_B2_1 := hB2.out.frz 1
   have l_B2 := hB2.out.lt
   go_wp2_with fail
   go_ret2
   clear c_B1_0 f_B1_0 l_B1 c_B2_0 f_B2_0 c_B2_1 f_B2_1 l_B2
   have hT3 := hT.out
   rw [zy1.out] at hT3
   exact ⟨rfl, _, hT3, hst.out⟩
 | @left at_ k f' a b h1 h2 h3 ih =>
   intro w t S h
   obtain ⟨ks, ko⟩ := k
   have hd : decide (cmpK (sizeF f at_) at_ ks ko < 0) = false := by rw [key_lt]; exact h2
   have hT := qH h
   have H1 := qH h1
   clear h h1 h2 h3
   have hst := qH (Step.refl S w)
   go_enter Tryz.func154, Tryz.ntmps154
   have d1 : (((at_.toNat : Int) : Int) == (0 : Int)) = false := (unlike_u64 (a := at_) (b := 0) (H1.out)).2
   obtain ⟨W1, hW1⟩ := nm (w.alloc (.cells #[.pointer (some ⟨t, 0, none⟩)] 153))
   obtain ⟨B1, eB1⟩ := nm (w.heap.size)
   obtain ⟨W2, hW2⟩ := nm (W1.alloc (.cells #[.int .u64 (ks.toNat : Int), .int .u64 (ko.toNat : Int)] 162))
   obtain ⟨B2, eB2⟩ := nm (w.heap.size + 1)
   go_wp2_with fail
   rw [← hW1.out]
   rw [← hW2.out]
   try rw [← eB2.out]
   try rw [← eB1.out]
   have k1 := kA hW1
   have e0B1 := eB1.out
   have hB1 := zB hW1 (Bx.new hT.out.lt _ _ e0B1)
   have gB1 := gZ e0B1 hst
   replace hst := sN hst k1
   replace hT := qH (hT.out.nil k1)
   clear k1 e0B1
   have k2 := kA hW2
   have e0B2 : B2 = W1.heap.size := by rw [eB2.out, hW1.out]; simp []
   have hB2 := zB hW2 (Bx.new hT.out.lt _ _ e0B2)
   have gB2 := gZ e0B2 hst
   have nB1B2 := nZ e0B2 hB1
   replace hst := sN hst k2
   replace hT := qH (hT.out.nil k2)
   replace hB1 := bN hB1 k2
   clear k2 e0B2
   obtain ⟨W3, hW3⟩ := nm (W2.drew)
   have kn := kD hW3
   replace hst := sN hst kn
   replace hT := qH (hT.out.nil kn)
   replace hB1 := bN hB1 kn
   replace hB2 := bN hB2 kn
   clear kn
   refine wp_region_held_drew (S := fun w' => w'.cell? ⟨B1, 0, none⟩ = some (.pointer (some ⟨t, 0, none⟩)) ∧ w'.cell? ⟨B2, 0, none⟩ = some (.int .u64 (ks.toNat : Int)) ∧ w'.cell? ⟨B2, 1, none⟩ = some (.int .u64 (ko.toNat : Int))) (by kernel_rfl) (by rw [← hW3.out]; exact ⟨cB hB1 0, cB hB2 0, cB hB2 1⟩) (fun hHeld => ?_)
   rw [← hW3.out] at hHeld ⊢
   refine fT 0 rfl hHeld ?_
   try simp only [Act.put, List.getElem_toArray, List.getElem_cons_zero, List.setIfInBounds_toArray, List.set_cons_zero, List.set_cons_succ]
   refine fT 1 rfl hHeld ?_; try simp only [sP,sQ]
   refine fT 3 rfl hHeld ?_; try simp only [sP,sQ]
   refine wpAnyH_ready (rs := [2]) (by kernel_rfl) (by simp) ?_
   refine (AllReadyH.cons (o := _) rfl (fun K hK => ?_) AllReadyH.nil)
   go_simp
   refine (key_any hT.out.reads at_ _ rfl).mono ?_
   rintro _ W4 ⟨rfl, kn⟩
   replace hst := sN hst kn
   replace hT := qH (hT.out.nil kn)
   replace hB1 := bN hB1 kn
   replace hB2 := bN hB2 kn
   clear kn
   refine hK.out _ _ (⟨cB hB1 0, cB hB2 0, cB hB2 1⟩) (fun hHeld => ?_)
   clear hK K
   try simp only [sP,sQ]
   refine wpAnyH_ready (rs := [4]) (by kernel_rfl) (by simp) ?_
   refine (AllReadyH.cons (o := _) rfl (fun K hK => ?_) AllReadyH.nil)
   go_simp
   refine (compare_any W4 (sizeF f at_) at_ ks ko).mono ?_
   rintro _ W5 ⟨rfl, kn⟩
   replace hst := sN hst kn
   replace hT := qH (hT.out.nil kn)
   replace hB1 := bN hB1 kn
   replace hB2 := bN hB2 kn
   clear kn
   refine hK.out _ _ (⟨cB hB1 0, cB hB2 0, cB hB2 1⟩) (fun hHeld => ?_)
   clear hK K
   try simp only [sP,sQ]
   refine fT 5 rfl hHeld ?_; try simp only [sP,sQ]
   refine fD ?_
   clear hHeld
   have c_B1_0 := cB hB1 0
   have f_B1_0 := hB1.out.frz 0
   have l_B1 := hB1.out.lt
   have c_B2_0 := cB hB2 0
   have f_B2_0 := hB2.out.frz 0
   have c_B2_1 := cB hB2 1
   have f_B2_1 := hB2.out.frz 1
   have l_B2 := hB2.out.lt
   go_wp2_with fail
   clear c_B1_0 f_B1_0 l_B1 c_B2_0 f_B2_0 c_B2_1 f_B2_1 l_B2
   obtain ⟨W6, hW6⟩ := nm (W5.drew)
   have kn := kD hW6
   replace hst := sN hst kn
   replace hT := qH (hT.out.nil kn)
   replace hB1 := bN hB1 kn
   replace hB2 := bN hB2 kn
   clear kn
   refine wp_region_held_drew (S := fun w' => w'.cell? ⟨B1, 0, none⟩ = some (.pointer (some ⟨t, 0, none⟩)) ∧ w'.cell? ⟨B2, 0, none⟩ = some (.int .u64 (ks.toNat : Int)) ∧ w'.cell? ⟨B2, 1, none⟩ = some (.int .u64 (ko.toNat : Int))) (by kernel_rfl) (by rw [← hW6.out]; exact ⟨cB hB1 0, cB hB2 0, cB hB2 1⟩) (fun hHeld => ?_)
   rw [← hW6.out] at hHeld ⊢
   refine fT 0 rfl hHeld ?_
   try simp only [Act.put, List.getElem_toArray, List.getElem_cons_zero, List.setIfInBounds_toArray, List.set_cons_zero, List.set_cons_succ]
   refine fT 1 rfl hHeld ?_; try simp only [sP,sQ]
   refine fT 2 rfl hHeld ?_; try simp only [sP,sQ]
   refine fT 3 rfl hHeld ?_; try simp only [sP,sQ]
   obtain ⟨y1, zy1⟩ : ∃ y : UInt64, y = at_ + 8 := ⟨_, rfl⟩
   have q1 : IntKind.u64.wrap ((at_.toNat : Int) + 8) = (y1.toNat : Int) := by rw [zy1]; exact u64_add at_ 8
   replace zy1 := qH zy1
   refine fT 4 rfl hHeld ?_; try simp only [sP,sQ]
   refine fT 6 rfl hHeld ?_; try simp only [sP,sQ]
   refine wpAnyH_ready (rs := [5]) (by kernel_rfl) (by simp) ?_
   refine (AllReadyH.cons (o := _) rfl (fun K hK => ?_) AllReadyH.nil)
   go_simp
   refine (hT.out.reads.loadC y1 _ rfl).mono ?_
   rintro _ W7 ⟨rfl, kn⟩
   replace hst := sN hst kn
   replace hT := qH (hT.out.nil kn)
   replace hB1 := bN hB1 kn
   replace hB2 := bN hB2 kn
   clear kn
   refine hK.out _ _ (⟨cB hB1 0, cB hB2 0, cB hB2 1⟩) (fun hHeld => ?_)
   clear hK K
   try simp only [sP,sQ]
   refine wpAnyH_ready (rs := [7]) (by kernel_rfl) (by simp) ?_
   refine (AllReadyH.cons (o := _) rfl (fun K hK => ?_) AllReadyH.nil)
   go_simp
   have ih2 := @ih _ _ _ hT.out
   rw [← zy1.out] at ih2
   refine (ih2).mono ?_
   rintro _ W8 ⟨rfl, S1, hT2, kn⟩
   clear ih ih2
   replace hst := sT hst kn
   replace hB1 := bS hB1 kn
   replace hB2 := bS hB2 kn
   replace hT := qH hT2
   clear kn hT2
   refine hK.out _ _ (⟨cB hB1 0, cB hB2 0, cB hB2 1⟩) (fun hHeld => ?_)
   clear hK K
   try simp only [sP,sQ]
   refine fT 8 rfl hHeld ?_; try simp only [sP,sQ]
   refine fT 9 rfl hHeld ?_; try simp only [sP,sQ]
   refine fT 10 rfl hHeld ?_; try simp only [sP,sQ]
   refine fT 11 rfl hHeld ?_; try simp only [sP,sQ]
   refine fT 12 rfl hHeld ?_; try simp only [sP,sQ]
   refine fD ?_
   clear hHeld
   have c_B1_0 := cB hB1 0
   have f_B1_0 := hB1.out.frz 0
   have l_B1 := hB1.out.lt
   have c_B2_0 := cB hB2 0
   have f_B2_0 := hB2.out.frz 0
   have c_B2_1 := cB hB2 1
   have f_B2_1 := hB2.out.frz 1
   have l_B2 := hB2.out.lt
   go_wp2_with fail
   clear c_B1_0 f_B1_0 l_B1 c_B2_0 f_B2_0 c_B2_1 f_B2_1 l_B2
   refine (hT.out.store y1 b _ _ rfl rfl).mono ?_
   rintro _ W9 ⟨rfl, S2, hT2, kn⟩
   replace hst := sT hst kn
   replace hB1 := bS hB1 kn
   replace hB2 := bS hB2 kn
   replace hT := qH hT2
   clear kn hT2
   have c_B1_0 := cB hB1 0
   have f_B1_0 := hB1.out.frz 0
   have l_B1 := hB1.out.lt
   have c_B2_0 := cB hB2 0
   have f_B2_0 := hB2.out.frz 0
   have c_B2_1 := cB hB2 1
   have f_B2_1 := hB2.out.frz 1
   have l_B2 := hB2.out.lt
   go_wp2_with fail
   go_ret2
   clear c_B1_0 f_B1_0 l_B1 c_B2_0 f_B2_0 c_B2_1 f_B2_1 l_B2
   have hT3 := hT.out
   rw [zy1.out] at hT3
   exact ⟨rfl, _, hT3, hst.out⟩
theorem join_any {n : Nat} {f f' : UInt64 → UInt64} {a b r : UInt64} (h : JoinR mixU n f a b f' r) : ∀ {w : World} {t : Nat} {S : Nat → Prop}, TxF w t f n S →
   Calls Tryz.prog 164 #[.agg #[.pointer (some ⟨t, 0, none⟩)], .int .u64 (a.toNat : Int), .int .u64 (b.toNat : Int)] w fun e w' =>
    e = .returned (.int .u64 (r.toNat : Int)) ∧ ∃ S', TxF w' t f' n S' ∧ Step S S' w w' := by
 induction h with
 | nil b =>
   intro w t S h
   have hT := qH h
   clear h
   have hst := qH (Step.refl S w)
   go_enter Tryz.func164, Tryz.ntmps164
   have d1 : ((((0 : UInt64).toNat : Int) : Int) == (0 : Int)) = true := (same_u64 (a := (0 : UInt64)) (b := 0) (rfl)).2
   obtain ⟨W1, hW1⟩ := nm (w.alloc (.cells #[.pointer (some ⟨t, 0, none⟩)] 153))
   obtain ⟨B1, eB1⟩ := nm (w.heap.size)
   go_wp2_with fail
   go_ret
   rw [← hW1.out]
   try rw [← eB1.out]
   have k1 := kA hW1
   have e0B1 := eB1.out
   have hB1 := zB hW1 (Bx.new hT.out.lt _ _ e0B1)
   have gB1 := gZ e0B1 hst
   replace hst := sN hst k1
   replace hT := qH (hT.out.nil k1)
   clear k1 e0B1
   exact ⟨rfl, _, hT.out, hst.out⟩
 | @one a h1 =>
   intro w t S h
   have hT := qH h
   have H1 := qH h1
   clear h h1
   have hst := qH (Step.refl S w)
   go_enter Tryz.func164, Tryz.ntmps164
   have d1 : (((a.toNat : Int) : Int) == (0 : Int)) = false := (unlike_u64 (a := a) (b := 0) (H1.out)).2
   have d2 : ((((0 : UInt64).toNat : Int) : Int) == (0 : Int)) = true := (same_u64 (a := (0 : UInt64)) (b := 0) (rfl)).2
   obtain ⟨W1, hW1⟩ := nm (w.alloc (.cells #[.pointer (some ⟨t, 0, none⟩)] 153))
   obtain ⟨B1, eB1⟩ := nm (w.heap.size)
   go_wp2_with fail
   go_ret
   rw [← hW1.out]
   try rw [← eB1.out]
   have k1 := kA hW1
   have e0B1 := eB1.out
   have hB1 := zB hW1 (Bx.new hT.out.lt _ _ e0B1)
   have gB1 := gZ e0B1 hst
   replace hst := sN hst k1
   replace hT := qH (hT.out.nil k1)
   clear k1 e0B1
   exact ⟨rfl, _, hT.out, hst.out⟩
 | @left a b f' r h1 h2 h3 h4 ih =>
   intro w t S h
   have hT := qH h
   have H1 := qH h1
   have H2 := qH h2
   have H3 := qH h3
   clear h h1 h2 h3 h4
   have hst := qH (Step.refl S w)
   go_enter Tryz.func164, Tryz.ntmps164
   have d1 : (((a.toNat : Int) : Int) == (0 : Int)) = false := (unlike_u64 (a := a) (b := 0) (H1.out)).2
   have d2 : (((b.toNat : Int) : Int) == (0 : Int)) = false := (unlike_u64 (a := b) (b := 0) (H2.out)).2
   obtain ⟨W1, hW1⟩ := nm (w.alloc (.cells #[.pointer (some ⟨t, 0, none⟩)] 153))
   obtain ⟨B1, eB1⟩ := nm (w.heap.size)
   go_wp2_with fail
   rw [← hW1.out]
   try rw [← eB1.out]
   have k1 := kA hW1
   have e0B1 := eB1.out
   have hB1 := zB hW1 (Bx.new hT.out.lt _ _ e0B1)
   have gB1 := gZ e0B1 hst
   replace hst := sN hst k1
   replace hT := qH (hT.out.nil k1)
   clear k1 e0B1
   refine (wMix_any _ a _ rfl).mono ?_
   rintro _ _ ⟨rfl, rfl⟩
   obtain ⟨v1, zv1⟩ : ∃ v : UInt64, v = a * goldU := ⟨_, rfl⟩
   rw [← zv1]
   replace zv1 := qH zv1
   have c_B1_0 := cB hB1 0
   have f_B1_0 := hB1.out.frz 0
   have l_B1 := hB1.out.lt
   go_wp2_with fail
   clear c_B1_0 f_B1_0 l_B1
   refine (wMix_any _ b _ rfl).mono ?_
   rintro _ _ ⟨rfl, rfl⟩
   obtain ⟨v2, zv2⟩ : ∃ v : UInt64, v = b * goldU := ⟨_, rfl⟩
   rw [← zv2]
   replace zv2 := qH zv2
   have d3 : decide (v2.toNat < v1.toNat) = true := decide_eq_true (by rw [zv1.out, zv2.out]; exact UInt64.lt_iff_toNat_lt.1 H3.out)
   have c_B1_0 := cB hB1 0
   have f_B1_0 := hB1.out.frz 0
   have l_B1 := hB1.out.lt
   go_wp2_with fail
   clear c_B1_0 f_B1_0 l_B1
   obtain ⟨W4, hW4⟩ := nm (W1.drew)
   have kn := kD hW4
   replace hst := sN hst kn
   replace hT := qH (hT.out.nil kn)
   replace hB1 := bN hB1 kn
   clear kn
   refine wp_region_held_drew (S := fun w' => w'.cell? ⟨B1, 0, none⟩ = some (.pointer (some ⟨t, 0, none⟩))) (by kernel_rfl) (by rw [← hW4.out]; exact cB hB1 0) (fun hHeld => ?_)
   rw [← hW4.out] at hHeld ⊢
   refine fT 0 rfl hHeld ?_
   try simp only [Act.put, List.getElem_toArray, List.getElem_cons_zero, List.setIfInBounds_toArray, List.set_cons_zero, List.set_cons_succ]
   refine fT 1 rfl hHeld ?_; try simp only [sP,sQ]
   refine fT 2 rfl hHeld ?_; try simp only [sP,sQ]
   obtain ⟨y1, zy1⟩ : ∃ y : UInt64, y = a + 16 := ⟨_, rfl⟩
   have q1 : IntKind.u64.wrap ((a.toNat : Int) + 16) = (y1.toNat : Int) := by rw [zy1]; exact u64_add a 16
   replace zy1 := qH zy1
   refine fT 3 rfl hHeld ?_; try simp only [sP,sQ]
   refine fT 4 rfl hHeld ?_; try simp only [sP,sQ]
   refine fT 5 rfl hHeld ?_; try simp only [sP,sQ]
   refine fT 6 rfl hHeld ?_; try simp only [sP,sQ]
   refine fT 7 rfl hHeld ?_; try simp only [sP,sQ]
   refine fT 8 rfl hHeld ?_; try simp only [sP,sQ]
   refine fT 10 rfl hHeld ?_; try simp only [sP,sQ]
   refine wpAnyH_ready (rs := [9]) (by kernel_rfl) (by simp) ?_
   refine (AllReadyH.cons (o := _) rfl (fun K hK => ?_) AllReadyH.nil)
   go_simp
   refine (hT.out.reads.loadC y1 _ rfl).mono ?_
   rintro _ W5 ⟨rfl, kn⟩
   replace hst := sN hst kn
   replace hT := qH (hT.out.nil kn)
   replace hB1 := bN hB1 kn
   clear kn
   refine hK.out _ _ (cB hB1 0) (fun hHeld => ?_)
   clear hK K
   try simp only [sP,sQ]
   refine wpAnyH_ready (rs := [11]) (by kernel_rfl) (by simp) ?_
   refine (AllReadyH.cons (o := _) rfl (fun K hK => ?_) AllReadyH.nil)
   go_simp
   have ih2 := @ih _ _ _ hT.out
   rw [← zy1.out] at ih2
   refine (ih2).mono ?_
   rintro _ W6 ⟨rfl, S1, hT2, kn⟩
   clear ih ih2
   replace hst := sT hst kn
   replace hB1 := bS hB1 kn
   replace hT := qH hT2
   clear kn hT2
   refine hK.out _ _ (cB hB1 0) (fun hHeld => ?_)
   clear hK K
   try simp only [sP,sQ]
   refine wpAnyH_ready (rs := [12]) (by kernel_rfl) (by simp) ?_
   refine (AllReadyH.cons (o := _) rfl (fun K hK => ?_) AllReadyH.nil)
   go_simp
   refine (hT.out.store y1 r _ _ rfl rfl).mono ?_
   rintro _ W7 ⟨rfl, S2, hT2, kn⟩
   replace hst := sT hst kn
   replace hB1 := bS hB1 kn
   replace hT := qH hT2
   clear kn hT2
   refine hK.out _ _ (cB hB1 0) (fun hHeld => ?_)
   clear hK K
   try simp only [sP,sQ]
   refine fD ?_
   clear hHeld
   have c_B1_0 := cB hB1 0
   have f_B1_0 := hB1.out.frz 0
   have l_B1 := hB1.out.lt
   go_wp2_with fail
   go_ret
   clear c_B1_0 f_B1_0 l_B1
   have hT3 := hT.out
   rw [zy1.out] at hT3
   exact ⟨rfl, _, hT3, hst.out⟩
 | @right a b f' r h1 h2 h3 h4 ih =>
   intro w t S h
   have hT := qH h
   have H1 := qH h1
   have H2 := qH h2
   have H3 := qH h3
   clear h h1 h2 h3 h4
   have hst := qH (Step.refl S w)
   go_enter Tryz.func164, Tryz.ntmps164
   have d1 : (((a.toNat : Int) : Int) == (0 : Int)) = false := (unlike_u64 (a := a) (b := 0) (H1.out)).2
   have d2 : (((b.toNat : Int) : Int) == (0 : Int)) = false := (unlike_u64 (a := b) (b := 0) (H2.out)).2
   obtain ⟨W1, hW1⟩ := nm (w.alloc (.cells #[.pointer (some ⟨t, 0, none⟩)] 153))
   obtain ⟨B1, eB1⟩ := nm (w.heap.size)
   go_wp2_with fail
   rw [← hW1.out]
   try rw [← eB1.out]
   have k1 := kA hW1
   have e0B1 := eB1.out
   have hB1 := zB hW1 (Bx.new hT.out.lt _ _ e0B1)
   have gB1 := gZ e0B1 hst
   replace hst := sN hst k1
   replace hT := qH (hT.out.nil k1)
   clear k1 e0B1
   refine (wMix_any _ a _ rfl).mono ?_
   rintro _ _ ⟨rfl, rfl⟩
   obtain ⟨v1, zv1⟩ : ∃ v : UInt64, v = a * goldU := ⟨_, rfl⟩
   rw [← zv1]
   replace zv1 := qH zv1
   have c_B1_0 := cB hB1 0
   have f_B1_0 := hB1.out.frz 0
   have l_B1 := hB1.out.lt
   go_wp2_with fail
   clear c_B1_0 f_B1_0 l_B1
   refine (wMix_any _ b _ rfl).mono ?_
   rintro _ _ ⟨rfl, rfl⟩
   obtain ⟨v2, zv2⟩ : ∃ v : UInt64, v = b * goldU := ⟨_, rfl⟩
   rw [← zv2]
   replace zv2 := qH zv2
   have d3 : decide (v2.toNat < v1.toNat) = false := decide_eq_false (by rw [zv1.out, zv2.out]; exact fun e => H3.out (UInt64.lt_iff_toNat_lt.2 e))
   have c_B1_0 := cB hB1 0
   have f_B1_0 := hB1.out.frz 0
   have l_B1 := hB1.out.lt
   go_wp2_with fail
   clear c_B1_0 f_B1_0 l_B1
   obtain ⟨W4, hW4⟩ := nm (W1.drew)
   have kn := kD hW4
   replace hst := sN hst kn
   replace hT := qH (hT.out.nil kn)
   replace hB1 := bN hB1 kn
   clear kn
   refine wp_region_held_drew (S := fun w' => w'.cell? ⟨B1, 0, none⟩ = some (.pointer (some ⟨t, 0, none⟩))) (by kernel_rfl) (by rw [← hW4.out]; exact cB hB1 0) (fun hHeld => ?_)
   rw [← hW4.out] at hHeld ⊢
   refine fT 0 rfl hHeld ?_
   try simp only [Act.put, List.getElem_toArray, List.getElem_cons_zero, List.setIfInBounds_toArray, List.set_cons_zero, List.set_cons_succ]
   refine fT 1 rfl hHeld ?_; try simp only [sP,sQ]
   refine fT 2 rfl hHeld ?_; try simp only [sP,sQ]
   obtain ⟨y1, zy1⟩ : ∃ y : UInt64, y = b + 8 := ⟨_, rfl⟩
   have q1 : IntKind.u64.wrap ((b.toNat : Int) + 8) = (y1.toNat : Int) := by rw [zy1]; exact u64_add b 8
   replace zy1 := qH zy1
   refine fT 3 rfl hHeld ?_; try simp only [sP,sQ]
   refine fT 4 rfl hHeld ?_; try simp only [sP,sQ]
   refine fT 5 rfl hHeld ?_; try simp only [sP,sQ]
   refine fT 6 rfl hHeld ?_; try simp only [sP,sQ]
   refine fT 7 rfl hHeld ?_; try simp only [sP,sQ]
   refine fT 8 rfl hHeld ?_; try simp only [sP,sQ]
   refine fT 9 rfl hHeld ?_; try simp only [sP,sQ]
   refine wpAnyH_ready (rs := [10]) (by kernel_rfl) (by simp) ?_
   refine (AllReadyH.cons (o := _) rfl (fun K hK => ?_) AllReadyH.nil)
   go_simp
   refine (hT.out.reads.loadC y1 _ rfl).mono ?_
   rintro _ W5 ⟨rfl, kn⟩
   replace hst := sN hst kn
   replace hT := qH (hT.out.nil kn)
   replace hB1 := bN hB1 kn
   clear kn
   refine hK.out _ _ (cB hB1 0) (fun hHeld => ?_)
   clear hK K
   try simp only [sP,sQ]
   refine wpAnyH_ready (rs := [11]) (by kernel_rfl) (by simp) ?_
   refine (AllReadyH.cons (o := _) rfl (fun K hK => ?_) AllReadyH.nil)
   go_simp
   have ih2 := @ih _ _ _ hT.out
   rw [← zy1.out] at ih2
   refine (ih2).mono ?_
   rintro _ W6 ⟨rfl, S1, hT2, kn⟩
   clear ih ih2
   replace hst := sT hst kn
   replace hB1 := bS hB1 kn
   replace hT := qH hT2
   clear kn hT2
   refine hK.out _ _ (cB hB1 0) (fun hHeld => ?_)
   clear hK K
   try simp only [sP,sQ]
   refine wpAnyH_ready (rs := [12]) (by kernel_rfl) (by simp) ?_
   refine (AllReadyH.cons (o := _) rfl (fun K hK => ?_) AllReadyH.nil)
   go_simp
   refine (hT.out.store y1 r _ _ rfl rfl).mono ?_
   rintro _ W7 ⟨rfl, S2, hT2, kn⟩
   replace hst := sT hst kn
   replace hB1 := bS hB1 kn
   replace hT := qH hT2
   clear kn hT2
   refine hK.out _ _ (cB hB1 0) (fun hHeld => ?_)
   clear hK K
   try simp only [sP,sQ]
   refine fD ?_
   clear hHeld
   have c_B1_0 := cB hB1 0
   have f_B1_0 := hB1.out.frz 0
   have l_B1 := hB1.out.lt
   go_wp2_with fail
   go_ret
   clear c_B1_0 f_B1_0 l_B1
   have hT3 := hT.out
   rw [zy1.out] at hT3
   exact ⟨rfl, _, hT3, hst.out⟩
end
end Go.Proofs.YtefpbljekfkefaaGreat
