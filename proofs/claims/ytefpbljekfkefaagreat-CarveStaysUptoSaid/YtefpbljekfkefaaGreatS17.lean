/- LedgerC, CarveW, Ref10F, Ref9F, OnesP, OnesW: written short. -/
import Derived.Test.YtefpbljekfkefaaGreatS16
import Derived.Test.YtefpbljekfkefaaGreatS13
import Derived.Test.YtefpbljekfkefaaGreatS01
import Derived.Test.YtefpbljekfkefaaGreatS10
import Derived.Test.YtefpbljekfkefaaGreatS06
import Derived.Test.YtefpbljekfkefaaGreatS15
import Derived.Test.YtefpbljekfkefaaGreatS14
import Derived.Test.YtefpbljekfkefaaGreatS07
set_option maxRecDepth 100000
set_option maxHeartbeats 8000000
namespace Go.Proofs.YtefpbljekfkefaaGreat
section
open Go.RowKit PT
def atL (l : List UInt64) (i : Int) : UInt64 := if i < 0 then 0 else (l[i.toNat]?).getD 0
theorem atL_nat (l : List UInt64) (k : Nat) : atL l (k : Int) = (l[k]?).getD 0 := by unfold atL; rw [if_neg (by omega)]; rfl
structure LedOK (f : UInt64 → UInt64) (c : UInt64) (l : List UInt64) : Prop where
 first : f (headU c) = atL l 0
 each : ∀ (k : Nat) (y : UInt64), l[k]? = some y → f (y + 16) = atL l ((k : Int) + 1) ∧ f (y + 24) = atL l ((k : Int) - 1)
theorem at1_any {S : Nat → Prop} {w : World} {B : Nat} {v : Value} {l : List UInt64} (hB : Bx w Nil B #[v] 27) (hv : View kU S w v l) (i : Int) :
  Calls Tryz.prog 170 #[.int .i64 i, .pointer (some ⟨B, 0, none⟩)] w fun e w' => e = .returned (.int .u64 ((atL l i).toNat : Int)) ∧ Keeps Nil w w' := by
 obtain ⟨al, cl, rfl, hm⟩ := hv.val
 obtain ⟨N, hN⟩ : ∃ N, N = l.length := ⟨_, rfl⟩
 rw [← hN] at hB
 have hNm : N ≤ 9223372036854775807 := by unfold maxLen at hm; omega
 have hBx := qH hB
 have HV := qH hv
 have HN := qH hN
 clear hB hv hm hN
 by_cases h1 : i < 0
 ·have hr : atL l i = 0 := by unfold atL; rw [if_pos h1]
  have hd : decide (i < 0) = true := decide_eq_true h1
  rw [hr]
  clear hr
  have hst := qH (Step.refl Nil w)
  go_enter Tryz.func170, Tryz.ntmps170
  have c_B_0 := cB hBx 0
  have f_B_0 := hBx.out.frz 0
  have l_B := hBx.out.lt
  go_wp2_with fail
  go_ret
  clear c_B_0 f_B_0 l_B
  exact ⟨rfl, hst.out.keeps⟩
 ·obtain ⟨k, rfl⟩ : ∃ k : Nat, i = (k : Int) := ⟨i.toNat, by omega⟩
  rw [atL_nat]
  have hd : decide ((k : Int) < 0) = false := decide_eq_false h1
  clear h1
  by_cases h2 : N ≤ k
  ·rw [List.getElem?_eq_none (by rw [← HN.out]; exact h2)]
   have hst := qH (Step.refl Nil w)
   go_enter Tryz.func170, Tryz.ntmps170
   have c_B_0 := cB hBx 0
   have f_B_0 := hBx.out.frz 0
   have l_B := hBx.out.lt
   go_wp2_with fail
   go_ret
   clear c_B_0 f_B_0 l_B
   exact ⟨rfl, hst.out.keeps⟩
  ·obtain ⟨gb, go, cap, e1, hcp, _, hgb, _, hcell⟩ := HV.out.pos (by rw [← HN.out]; omega)
   simp only [Value.slice.injEq] at e1
   obtain ⟨rfl, hn1, rfl⟩ := e1
   clear hn1
   obtain ⟨y, hy⟩ : ∃ y, l[k]? = some y := ⟨l[k]'(by rw [← HN.out]; omega), by simp⟩
   rw [hy, Option.getD_some]
   have HY := qH hy
   have HC := qH (And.intro hcell hgb)
   have hkN : k < N := by omega
   have hNc : N ≤ cl := by rw [HN.out]; exact hcp
   clear hy hcell hgb hcp h2
   have hst := qH (Step.refl Nil w)
   go_enter Tryz.func170, Tryz.ntmps170
   have c_B_0 := cB hBx 0
   have f_B_0 := hBx.out.frz 0
   have l_B := hBx.out.lt
   have e_y := (hst.out.keeps.cell HC.out.2 (fun e => e) _).trans (View.cellX HC.out.1 k y HY.out)
   have l_gb := Nat.lt_of_lt_of_le HC.out.2 hst.out.keeps.size
   go_wp2_with fail
   go_ret
   clear c_B_0 f_B_0 l_B e_y l_gb
   exact ⟨rfl, hst.out.keeps⟩
theorem LCheck_any {S : Nat → Prop} {a : Option Addr} {f : UInt64 → UInt64} {N : Nat} {w : World} {v : Value} {l : List UInt64} {c : UInt64} (h : Reads (.pointer a) f N w) (hv : View kU S w v l) (hc : c.toNat < 8) (hl : LedOK f c l) :
  Calls Tryz.prog 119 #[.pointer a, .int .i64 (c.toNat : Int), v] w fun e w' => e = .returned (.bool true) ∧ Keeps Nil w w' := by
 obtain ⟨al, cl, rfl, hm⟩ := hv.val
 obtain ⟨M, hM⟩ : ∃ N, N = l.length := ⟨_, rfl⟩
 rw [← hM]
 have hMm : M ≤ 9223372036854775807 := by unfold maxLen at hm; omega
 have hT := qH h
 have HV := qH (show View kU S w (.slice al M cl) l by rw [hM]; exact hv)
 have HM := qH hM
 have HC := qH hc
 have HL := qH hl
 obtain ⟨a0, ha0⟩ : ∃ x, x = atL l 0 := ⟨_, rfl⟩
 have HA0 := qH ha0
 clear h hv hm hM hc hl ha0
 have hst := qH (Step.refl Nil w)
 go_enter Tryz.func119, Tryz.ntmps119
 obtain ⟨W1, hW1⟩ := nm (w.alloc (.cells #[.slice al M cl] 27))
 obtain ⟨B1, eB1⟩ := nm (w.heap.size)
 go_wp2_with fail
 rw [← hW1.out]
 try rw [← eB1.out]
 have k1 := kA hW1
 have e0B1 := eB1.out
 have hB1 := zB hW1 (Bx.new Nil.lt _ _ e0B1)
 have gB1 := gZ e0B1 hst
 replace hst := sN hst k1
 clear k1 e0B1
 refine (cHead_any (hT.out.keeps hst.out.keeps) c HC.out).mono ?_
 rintro _ W2 ⟨rfl, kn⟩
 rw [HL.out.first, ← HA0.out]
 replace hst := sN hst kn
 replace hB1 := bN hB1 kn
 clear kn
 have c_B1_0 := cB hB1 0
 have f_B1_0 := hB1.out.frz 0
 have l_B1 := hB1.out.lt
 go_wp2_with fail
 clear c_B1_0 f_B1_0 l_B1
 refine (at1_any (l := l) hB1.out (HV.out.keeps_nil hst.out.keeps) 0).mono ?_
 rintro _ W3 ⟨rfl, kn⟩
 rw [← HA0.out]
 replace hst := sN hst kn
 replace hB1 := bN hB1 kn
 clear kn
 have c_B1_0 := cB hB1 0
 have f_B1_0 := hB1.out.frz 0
 have l_B1 := hB1.out.lt
 go_wp2_with fail
 clear c_B1_0 f_B1_0 l_B1
 have c_B1_0 := cB hB1 0
 have f_B1_0 := hB1.out.frz 0
 have l_B1 := hB1.out.lt
 go_wp2_with fail
 clear c_B1_0 f_B1_0 l_B1
 go_loopw [19] (fun i wr => (∃ k : Nat, k ≤ M ∧ i = .int .i64 (k : Int) ∧ Hid (Keeps Nil w wr)) ∧ Hid (Bx wr Nil B1 #[.slice al M cl] 27)) (fun i _ => M - (intOf i).toNat)
 case atStart => exact ⟨⟨0, Nat.zero_le _, rfl, qH hst.out.keeps⟩, hB1⟩
 case round =>
  clear hB1
  obtain ⟨hrel, hB1⟩ := hrel
  obtain ⟨k, hk, rfl, hK0⟩ := hrel
  replace hst := qH (Step.of_nil (S := Nil) hK0.out)
  clear hK0
  by_cases hlt : k < M
  ·obtain ⟨gb, go, cap, e1, hcp, _, hgb, _, hcell⟩ := HV.out.pos (by rw [← HM.out]; omega)
   simp only [Value.slice.injEq] at e1
   obtain ⟨rfl, hn1, rfl⟩ := e1
   clear hn1
   obtain ⟨yb, hy⟩ : ∃ y, l[k]? = some y := ⟨l[k]'(by rw [← HM.out]; exact hlt), by simp⟩
   have HE := qH (HL.out.each k yb hy)
   obtain ⟨nx, hnx⟩ : ∃ x, x = atL l ((k : Int) + 1) := ⟨_, rfl⟩
   obtain ⟨ah, hah⟩ : ∃ x, x = atL l ((k : Int) - 1) := ⟨_, rfl⟩
   have HNX := qH hnx
   have HAH := qH hah
   have HY := qH hy
   have HCL := qH (And.intro hcell hgb)
   have HLT := qH hlt
   have hMc : M ≤ cl := by rw [HM.out]; exact hcp
   have q_p : wrap64 ((k : Int) + 1) = (k : Int) + 1 := IntWalk.wrap64_in _ (by omega)
   have q_m : wrap64 ((k : Int) - 1) = (k : Int) - 1 := IntWalk.wrap64_in _ (by omega)
   clear hy hnx hah hcell hgb hcp
   obtain ⟨y1, zy1⟩ : ∃ y : UInt64, y = yb + 16 := ⟨_, rfl⟩
   have q1 : IntKind.u64.wrap ((yb.toNat : Int) + 16) = (y1.toNat : Int) := by rw [zy1]; exact u64_add yb 16
   replace zy1 := qH zy1
   have c_B1_0 := cB hB1 0
   have f_B1_0 := hB1.out.frz 0
   have l_B1 := hB1.out.lt
   have e_y := (hst.out.keeps.cell HCL.out.2 (fun e => e) _).trans (View.cellX HCL.out.1 k yb HY.out)
   have l_gb := Nat.lt_of_lt_of_le HCL.out.2 hst.out.keeps.size
   go_wp2_with fail
   clear c_B1_0 f_B1_0 l_B1 e_y l_gb
   refine ((hT.out.keeps hst.out.keeps).loadC y1 _ rfl).mono ?_
   rintro _ W4 ⟨rfl, kn⟩
   rw [zy1.out, HE.out.1, ← HNX.out]
   replace hst := sN hst kn
   replace hB1 := bN hB1 kn
   clear kn
   have c_B1_0 := cB hB1 0
   have f_B1_0 := hB1.out.frz 0
   have l_B1 := hB1.out.lt
   have e_y := (hst.out.keeps.cell HCL.out.2 (fun e => e) _).trans (View.cellX HCL.out.1 k yb HY.out)
   have l_gb := Nat.lt_of_lt_of_le HCL.out.2 hst.out.keeps.size
   go_wp2_with fail
   clear c_B1_0 f_B1_0 l_B1 e_y l_gb
   refine (at1_any (l := l) hB1.out (show View kU S _ (.slice (some ⟨gb, go, none⟩) M cl) l from HV.out.keeps_nil hst.out.keeps) ((k : Int) + 1)).mono ?_
   rintro _ W5 ⟨rfl, kn⟩
   rw [← HNX.out]
   replace hst := sN hst kn
   replace hB1 := bN hB1 kn
   clear kn
   obtain ⟨y2, zy2⟩ : ∃ y : UInt64, y = yb + 24 := ⟨_, rfl⟩
   have q2 : IntKind.u64.wrap ((yb.toNat : Int) + 24) = (y2.toNat : Int) := by rw [zy2]; exact u64_add yb 24
   replace zy2 := qH zy2
   have c_B1_0 := cB hB1 0
   have f_B1_0 := hB1.out.frz 0
   have l_B1 := hB1.out.lt
   have e_y := (hst.out.keeps.cell HCL.out.2 (fun e => e) _).trans (View.cellX HCL.out.1 k yb HY.out)
   have l_gb := Nat.lt_of_lt_of_le HCL.out.2 hst.out.keeps.size
   go_wp2_with fail
   clear c_B1_0 f_B1_0 l_B1 e_y l_gb
   refine ((hT.out.keeps hst.out.keeps).loadC y2 _ rfl).mono ?_
   rintro _ W6 ⟨rfl, kn⟩
   rw [zy2.out, HE.out.2, ← HAH.out]
   replace hst := sN hst kn
   replace hB1 := bN hB1 kn
   clear kn
   have c_B1_0 := cB hB1 0
   have f_B1_0 := hB1.out.frz 0
   have l_B1 := hB1.out.lt
   have e_y := (hst.out.keeps.cell HCL.out.2 (fun e => e) _).trans (View.cellX HCL.out.1 k yb HY.out)
   have l_gb := Nat.lt_of_lt_of_le HCL.out.2 hst.out.keeps.size
   go_wp2_with fail
   clear c_B1_0 f_B1_0 l_B1 e_y l_gb
   refine (at1_any (l := l) hB1.out (show View kU S _ (.slice (some ⟨gb, go, none⟩) M cl) l from HV.out.keeps_nil hst.out.keeps) ((k : Int) - 1)).mono ?_
   rintro _ W7 ⟨rfl, kn⟩
   rw [← HAH.out]
   replace hst := sN hst kn
   replace hB1 := bN hB1 kn
   clear kn
   have c_B1_0 := cB hB1 0
   have f_B1_0 := hB1.out.frz 0
   have l_B1 := hB1.out.lt
   have e_y := (hst.out.keeps.cell HCL.out.2 (fun e => e) _).trans (View.cellX HCL.out.1 k yb HY.out)
   have l_gb := Nat.lt_of_lt_of_le HCL.out.2 hst.out.keeps.size
   go_wp2_with fail
   clear c_B1_0 f_B1_0 l_B1 e_y l_gb
   go_roundw
   case rel => exact ⟨⟨k + 1, by have := HLT.out; omega, by first | rfl | go_num | simp, qH hst.out.keeps⟩, hB1⟩
   case measure => simp [intOf]; clear q_p q_m; have := HLT.out; omega
  ·skip
   have c_B1_0 := cB hB1 0
   have f_B1_0 := hB1.out.frz 0
   have l_B1 := hB1.out.lt
   go_wp2_with fail
   go_ret
   clear c_B1_0 f_B1_0 l_B1
   exact ⟨rfl, hst.out.keeps⟩
theorem May_k7 (w : World) (g : TagV) : Calls Tryz.prog 137 #[.agg g.cells] w fun e w' => e = .returned (.bool (mayT g)) ∧ Keeps Nil w w' := (May_any w g).mono fun _ _ ⟨h1, h2⟩ => ⟨h1, by rw [h2]; exact (Keeps.refl Nil w).alloc _⟩
def tagF (n : Nat) (f : UInt64 → UInt64) (off : UInt64) (g : TagV) : UInt64 → UInt64 := PT.stF n (PT.stF n f off (packU g)) (off + g.size - 8) (packU g)
theorem tWrite_any {w : World} {t n : Nat} {S : Nat → Prop} {f : UInt64 → UInt64} (hT0 : TxF w t f n S) (off : UInt64) (g : TagV) (hm : mayT g = true) (hi : inT (f 16) off g.size = true) :
  Calls Tryz.prog 83 #[.pointer (some ⟨t, 0, none⟩), .int .u64 (off.toNat : Int), .agg g.cells] w fun e w' => e = .returned (.int .i64 0) ∧ ∃ S', TxF w' t (tagF n f off g) n S' ∧ Step S S' w w' := by
 obtain ⟨sz, u, ow⟩ := g
 obtain ⟨p, hp⟩ : ∃ p, p = packU ⟨sz, u, ow⟩ := ⟨_, rfl⟩
 rw [TagV.cells_def]
 have hT := qH hT0
 have HM := qH (And.intro hm hi)
 have HP := qH hp
 clear hT0 hm hi hp
 have hst := qH (Step.refl S w)
 go_enter Tryz.func83, Tryz.ntmps83
 obtain ⟨W1, hW1⟩ := nm (w.alloc (.cells #[.int .u64 (sz.toNat : Int), .bool u, .int .i64 ow] 35))
 obtain ⟨B1, eB1⟩ := nm (w.heap.size)
 go_wp2_with fail
 rw [← hW1.out]
 try rw [← eB1.out]
 have k1 := kA hW1
 have e0B1 := eB1.out
 have hB1 := zB hW1 (Bx.new hT.out.lt _ _ e0B1)
 have gB1 := gZ e0B1 hst
 replace hst := sN hst k1
 replace hT := qH (hT.out.nil k1)
 clear k1 e0B1
 refine (May_k7 _ ⟨sz, u, ow⟩).mono ?_
 rintro _ W2 ⟨rfl, kn⟩
 rw [HM.out.1]
 replace hst := sN hst kn
 replace hT := qH (hT.out.nil kn)
 replace hB1 := bN hB1 kn
 clear kn
 have c_B1_0 := cB hB1 0
 have f_B1_0 := hB1.out.frz 0
 have c_B1_1 := cB hB1 1
 have f_B1_1 := hB1.out.frz 1
 have c_B1_2 := cB hB1 2
 have f_B1_2 := hB1.out.frz 2
 have l_B1 := hB1.out.lt
 go_wp2_with fail
 clear c_B1_0 f_B1_0 c_B1_1 f_B1_1 c_B1_2 f_B1_2 l_B1
 refine (in_any hT.out.reads off sz _ _ rfl rfl).mono ?_
 rintro _ W3 ⟨rfl, kn⟩
 rw [HM.out.2]
 replace hst := sN hst kn
 replace hT := qH (hT.out.nil kn)
 replace hB1 := bN hB1 kn
 clear kn
 have c_B1_0 := cB hB1 0
 have f_B1_0 := hB1.out.frz 0
 have c_B1_1 := cB hB1 1
 have f_B1_1 := hB1.out.frz 1
 have c_B1_2 := cB hB1 2
 have f_B1_2 := hB1.out.frz 2
 have l_B1 := hB1.out.lt
 go_wp2_with fail
 clear c_B1_0 f_B1_0 c_B1_1 f_B1_1 c_B1_2 f_B1_2 l_B1
 refine (Pack_any _ ⟨sz, u, ow⟩).mono ?_
 rintro _ W4 ⟨rfl, kn⟩
 rw [← HP.out]
 replace hst := sN hst kn
 replace hT := qH (hT.out.nil kn)
 replace hB1 := bN hB1 kn
 clear kn
 have c_B1_0 := cB hB1 0
 have f_B1_0 := hB1.out.frz 0
 have c_B1_1 := cB hB1 1
 have f_B1_1 := hB1.out.frz 1
 have c_B1_2 := cB hB1 2
 have f_B1_2 := hB1.out.frz 2
 have l_B1 := hB1.out.lt
 go_wp2_with fail
 clear c_B1_0 f_B1_0 c_B1_1 f_B1_1 c_B1_2 f_B1_2 l_B1
 refine (hT.out.store off p _ _ rfl rfl).mono ?_
 rintro _ W5 ⟨rfl, S1, hT2, kn⟩
 replace hst := sT hst kn
 replace hB1 := bS hB1 kn
 replace hT := qH hT2
 clear kn hT2
 have c_B1_0 := cB hB1 0
 have f_B1_0 := hB1.out.frz 0
 have c_B1_1 := cB hB1 1
 have f_B1_1 := hB1.out.frz 1
 have c_B1_2 := cB hB1 2
 have f_B1_2 := hB1.out.frz 2
 have l_B1 := hB1.out.lt
 go_wp2_with fail
 clear c_B1_0 f_B1_0 c_B1_1 f_B1_1 c_B1_2 f_B1_2 l_B1
 obtain ⟨W6, hW6⟩ := nm (W5.drew)
 have kn := kD hW6
 replace hst := sN hst kn
 replace hT := qH (hT.out.nil kn)
 replace hB1 := bN hB1 kn
 clear kn
 refine wp_region_held_drew (S := fun w' => w'.cell? ⟨B1, 0, none⟩ = some (.int .u64 (sz.toNat : Int)) ∧ w'.cell? ⟨B1, 1, none⟩ = some (.bool u) ∧ w'.cell? ⟨B1, 2, none⟩ = some (.int .i64 ow)) (by kernel_rfl) (by rw [← hW6.out]; exact ⟨cB hB1 0, cB hB1 1, cB hB1 2⟩) (fun hHeld => ?_)
 rw [← hW6.out] at hHeld ⊢
 refine fT 0 rfl hHeld ?_
 try simp only [Act.put, List.getElem_toArray, List.getElem_cons_zero, List.setIfInBounds_toArray, List.set_cons_zero, List.set_cons_succ]
 refine fT 1 rfl hHeld ?_; try simp only [sP,sQ]
 refine fT 2 rfl hHeld ?_; try simp only [sP,sQ]
 refine fT 3 rfl hHeld ?_; try simp only [sP,sQ]
 obtain ⟨y1, zy1⟩ : ∃ y : UInt64, y = off + sz := ⟨_, rfl⟩
 have q1 : IntKind.u64.wrap ((off.toNat : Int) + (sz.toNat : Int)) = (y1.toNat : Int) := by rw [zy1]; exact u64_add off sz
 replace zy1 := qH zy1
 refine fT 4 rfl hHeld ?_; try simp only [sP,sQ]
 obtain ⟨y2, zy2⟩ : ∃ y : UInt64, y = y1 - 8 := ⟨_, rfl⟩
 have q2 : IntKind.u64.wrap ((y1.toNat : Int) - 8) = (y2.toNat : Int) := by rw [zy2]; exact u64_sub y1 8
 replace zy2 := qH zy2
 refine fT 5 rfl hHeld ?_; try simp only [sP,sQ]
 refine fT 6 rfl hHeld ?_; try simp only [sP,sQ]
 refine wpAnyH_ready (rs := [7]) (by kernel_rfl) (by simp) ?_
 refine (AllReadyH.cons (o := _) rfl (fun K hK => ?_) AllReadyH.nil)
 go_simp
 refine (Pack_any _ ⟨sz, u, ow⟩).mono ?_
 rintro _ W7 ⟨rfl, kn⟩
 rw [← HP.out]
 replace hst := sN hst kn
 replace hT := qH (hT.out.nil kn)
 replace hB1 := bN hB1 kn
 clear kn
 refine hK.out _ _ (⟨cB hB1 0, cB hB1 1, cB hB1 2⟩) (fun hHeld => ?_)
 clear hK K
 try simp only [sP,sQ]
 refine wpAnyH_ready (rs := [8]) (by kernel_rfl) (by simp) ?_
 refine (AllReadyH.cons (o := _) rfl (fun K hK => ?_) AllReadyH.nil)
 go_simp
 refine (hT.out.store y2 p _ _ rfl rfl).mono ?_
 rintro _ W8 ⟨rfl, S2, hT2, kn⟩
 replace hst := sT hst kn
 replace hB1 := bS hB1 kn
 replace hT := qH hT2
 clear kn hT2
 refine hK.out _ _ (⟨cB hB1 0, cB hB1 1, cB hB1 2⟩) (fun hHeld => ?_)
 clear hK K
 try simp only [sP,sQ]
 refine fD ?_
 clear hHeld
 have c_B1_0 := cB hB1 0
 have f_B1_0 := hB1.out.frz 0
 have c_B1_1 := cB hB1 1
 have f_B1_1 := hB1.out.frz 1
 have c_B1_2 := cB hB1 2
 have f_B1_2 := hB1.out.frz 2
 have l_B1 := hB1.out.lt
 go_wp2_with fail
 go_ret
 clear c_B1_0 f_B1_0 c_B1_1 f_B1_1 c_B1_2 f_B1_2 l_B1
 have h9 := hT.out
 rw [zy2.out, zy1.out] at h9
 exact ⟨rfl, _, by unfold tagF; rw [← HP.out]; exact h9, hst.out⟩
theorem cfree_any {w : World} {t n : Nat} {S : Nat → Prop} {f f' : UInt64 → UInt64} {r : UInt64} (hT0 : TxF w t f n S) (off size : UInt64) (hm : mayT ⟨size, false, 0⟩ = true) (hi : inT (f 16) off size = true) (hI : InsR szU mixU n (tagF n f off ⟨size, false, 0⟩) (tagF n f off ⟨size, false, 0⟩ 32) off f' r) :
  Calls Tryz.prog 122 #[.pointer (some ⟨t, 0, none⟩), .int .u64 (off.toNat : Int), .int .u64 (size.toNat : Int)] w fun e w' => e = .returned (.tuple #[]) ∧ ∃ S', TxF w' t (PT.stF n f' 32 r) n S' ∧ Step S S' w w' := by
 have hT := qH hT0
 have HM := qH (And.intro hm (And.intro hi hI))
 clear hT0 hm hi hI
 have hst := qH (Step.refl S w)
 go_enter Tryz.func122, Tryz.ntmps122
 go_wp2_with fail
 refine (tWrite_any hT.out off ⟨size, false, 0⟩ HM.out.1 HM.out.2.1).mono ?_
 rintro _ W1 ⟨rfl, S1, hT2, kn⟩
 replace hst := sT hst kn
 replace hT := qH hT2
 clear kn hT2
 go_wp2_with fail
 refine (Insert_any HM.out.2.2 hT.out).mono ?_
 rintro _ W2 ⟨rfl, S2, hT2, kn⟩
 replace hst := sT hst kn
 replace hT := qH hT2
 clear kn hT2
 go_wp2_with fail
 go_end0
 exact ⟨rfl, _, hT.out, hst.out⟩
end
section
open Go.RowKit
theorem r10free_any (w : World) (off size : UInt64) : Calls Tryz.prog 124 #[.int .u64 (off.toNat : Int), .int .u64 (size.toNat : Int)] w fun e w' => e = .returned (.agg (BlockV.cells ⟨off, ⟨size, false, 0⟩, 0⟩)) ∧ Keeps Nil w w' := by
 rw [BlockV.cells_def]
 have hst := qH (Step.refl Nil w)
 go_enter Tryz.func124, Tryz.ntmps124
 obtain ⟨W1, hW1⟩ := nm (w.alloc (.cells #[.int .u64 (off.toNat : Int), .int .u64 (size.toNat : Int), .bool false, .int .i64 0, .int .u64 0] 63))
 obtain ⟨B1, eB1⟩ := nm (w.heap.size)
 obtain ⟨W2, hW2⟩ := nm (W1.alloc (.cells #[.int .u64 (off.toNat : Int), .int .u64 (size.toNat : Int), .bool false, .int .i64 0, .int .u64 0] 63))
 obtain ⟨B2, eB2⟩ := nm (w.heap.size + 1)
 go_wp2_with fail
 rw [← hW1.out]
 rw [← hW2.out]
 try rw [← eB2.out]
 try rw [← eB1.out]
 have k1 := kA hW1
 have e0B1 := eB1.out
 have hB1 := zB hW1 (Bx.new Nil.lt _ _ e0B1)
 have gB1 := gZ e0B1 hst
 replace hst := sN hst k1
 clear k1 e0B1
 have k2 := kA hW2
 have e0B2 : B2 = W1.heap.size := by rw [eB2.out, hW1.out]; simp []
 have hB2 := zB hW2 (Bx.new Nil.lt _ _ e0B2)
 have gB2 := gZ e0B2 hst
 have nB1B2 := nZ e0B2 hB1
 replace hst := sN hst k2
 replace hB1 := bN hB1 k2
 clear k2 e0B2
 refine bodyPost_ret (results_row rfl rfl hB1.out.1 Tryz.underlying63 rfl (by kernel_rfl)) rfl ?_
 exact ⟨rfl, hst.out.keeps⟩
theorem rFrees_any {S : Nat → Prop} {w : World} {e : UInt64} {vb L0 L1 L2 L3 L4 L5 L6 L7 : Value} {H : List BlockV} (hv0 : View kRB S w vb H) (hlen : H.length ≤ 4294967290) :
    Calls Tryz.prog 120 #[.agg #[.int .u64 (e.toNat : Int), vb, L0, L1, L2, L3, L4, L5, L6, L7]] w fun e w' => ∃ v, e = .returned v ∧ Own kU w' w.heap.size v (freeOf H) ∧ Keeps Nil w w' := by
  obtain ⟨al, cl, rfl, _⟩ := hv0.val
  obtain ⟨M, hM⟩ : ∃ N, N = H.length := ⟨_, rfl⟩
  rw [← hM]
  have hMm : M ≤ 4294967290 := by rw [hM]; exact hlen
  have HV := qH (show View kRB S w (.slice al M cl) H by rw [hM]; exact hv0)
  have HN := qH hM
  clear hv0 hlen hM
  have hst := qH (Step.refl Nil w)
  go_enter Tryz.func120, Tryz.ntmps120
  obtain ⟨W1, hW1⟩ := nm (w.alloc (.cells #[.int .u64 (e.toNat : Int), .slice al M cl, L0, L1, L2, L3, L4, L5, L6, L7] 30))
  obtain ⟨B1, eB1⟩ := nm (w.heap.size)
  go_wp2_with fail
  rw [← hW1.out]
  try rw [← eB1.out]
  have k1 := kA hW1
  have e0B1 := eB1.out
  have hB1 := zB hW1 (Bx.new Nil.lt _ _ e0B1)
  have gB1 := gZ e0B1 hst
  replace hst := sN hst k1
  clear k1 e0B1
  obtain ⟨rb, hrb⟩ : ∃ b, b = W1.heap.size := ⟨_, rfl⟩
  have grb := gZ hrb hst
  have o_rb_B1 := qH (show B1 < rb by rw [hrb]; exact hB1.out.lt)
  have srb := qH (show rb ≤ W1.heap.size by rw [hrb]; exact Nat.le_refl _)
  clear hrb
  go_loopw [3, 4] (fun vrow i wr => (∃ (k : Nat) (Q : List UInt64) (rv : Value), k ≤ M ∧ rv = vrow ∧ i = .int .i64 (k : Int) ∧ Hid (Q = freeOf (H.take k) ∧ Q.length ≤ k) ∧ Hid (Keeps Nil w wr) ∧ Hid (Own kU wr rb rv Q) ∧ Hid (rb ≤ wr.heap.size)) ∧ Hid (Bx wr Nil B1 #[.int .u64 (e.toNat : Int), .slice al M cl, L0, L1, L2, L3, L4, L5, L6, L7] 30)) (fun vrow i _ => M - (intOf i).toNat)
  case atStart => exact ⟨⟨0, [], _, by omega, rfl, rfl, qH ⟨rfl, Nat.zero_le _⟩, qH hst.out.keeps, qH (Own.nil _ _ _), srb⟩, hB1⟩
  case round =>
    clear hB1
    obtain ⟨hrel, hB1⟩ := hrel
    obtain ⟨k, Q, rv, hk, rfl, rfl, HP3, hK0, ho, hsb⟩ := hrel
    replace hst := qH (Step.of_nil (S := Nil) hK0.out)
    clear hK0
    have hPl : Q.length < 4294967296 := by have := HP3.out.2; omega
    by_cases hlt : k < M
    · obtain ⟨gb, go, cap, e1, hcp, _, hgb, _, hcell⟩ := HV.out.pos (by rw [← HN.out]; omega)
      simp only [Value.slice.injEq] at e1
      obtain ⟨rfl, hn1, rfl⟩ := e1
      clear hn1
      obtain ⟨⟨bo, ⟨bs, bu, bw⟩, bl⟩, hx⟩ : ∃ x, H[k]? = some x := ⟨H[k]'(by rw [← HN.out]; exact hlt), by simp⟩
      have HX := qH hx
      have HLT := qH hlt
      have HC := qH (show ∀ i j, j < kB.size → i < H.length → w.cell? ⟨gb, go + (i * kB.size + j), none⟩ = (H[i]?).bind (fun x => (kB.enc x)[j]?) from hcell)
      have HGB := qH hgb
      have hMc : M ≤ cl := by rw [HN.out]; exact hcp
      clear hx hcell hgb hcp
      cases bu with
      | false =>
        skip
        have c_B1_0 := cB hB1 0
        have f_B1_0 := hB1.out.frz 0
        have c_B1_1 := cB hB1 1
        have f_B1_1 := hB1.out.frz 1
        have c_B1_2 := cB hB1 2
        have f_B1_2 := hB1.out.frz 2
        have c_B1_3 := cB hB1 3
        have f_B1_3 := hB1.out.frz 3
        have c_B1_4 := cB hB1 4
        have f_B1_4 := hB1.out.frz 4
        have c_B1_5 := cB hB1 5
        have f_B1_5 := hB1.out.frz 5
        have c_B1_6 := cB hB1 6
        have f_B1_6 := hB1.out.frz 6
        have c_B1_7 := cB hB1 7
        have f_B1_7 := hB1.out.frz 7
        have c_B1_8 := cB hB1 8
        have f_B1_8 := hB1.out.frz 8
        have c_B1_9 := cB hB1 9
        have f_B1_9 := hB1.out.frz 9
        have l_B1 := hB1.out.lt
        have e_x0 := eX hst HGB (View.cellB HC.out k _ HX.out).1
        have e_x2 := eX hst HGB (View.cellB HC.out k _ HX.out).2.2.1
        have l_gb := Nat.lt_of_lt_of_le HGB.out hst.out.keeps.size
        go_wp2_with (at_builtin
                     refine wpList_append_one kU rfl _ _ rfl ho.out rfl (bo) _ rfl rfl hPl hsb.out ?_
                     rintro _ W2 ho2 kA2 ⟨g2, cap2, rfl, hg2⟩
                     have hst2 := qH (hst.out.own ho.out grb.out kA2)
                     have hB1_2 := qH (hB1.out.own ho.out kA2 (own_ne_old ho.out o_rb_B1.out))
                     replace ho2 := qH ho2
                     have hs2 := qH (Nat.le_trans hsb.out kA2.size)
                     clear kA2
                     clear hst; have hst := hst2; clear hst2
                     have c_B1_0 := cB hB1_2 0
                     have f_B1_0 := hB1_2.out.frz 0
                     have c_B1_1 := cB hB1_2 1
                     have f_B1_1 := hB1_2.out.frz 1
                     have c_B1_2 := cB hB1_2 2
                     have f_B1_2 := hB1_2.out.frz 2
                     have c_B1_3 := cB hB1_2 3
                     have f_B1_3 := hB1_2.out.frz 3
                     have c_B1_4 := cB hB1_2 4
                     have f_B1_4 := hB1_2.out.frz 4
                     have c_B1_5 := cB hB1_2 5
                     have f_B1_5 := hB1_2.out.frz 5
                     have c_B1_6 := cB hB1_2 6
                     have f_B1_6 := hB1_2.out.frz 6
                     have c_B1_7 := cB hB1_2 7
                     have f_B1_7 := hB1_2.out.frz 7
                     have c_B1_8 := cB hB1_2 8
                     have f_B1_8 := hB1_2.out.frz 8
                     have c_B1_9 := cB hB1_2 9
                     have f_B1_9 := hB1_2.out.frz 9
                     have l_B1 := hB1_2.out.lt)
        clear c_B1_0 f_B1_0 c_B1_1 f_B1_1 c_B1_2 f_B1_2 c_B1_3 f_B1_3 c_B1_4 f_B1_4 c_B1_5 f_B1_5 c_B1_6 f_B1_6 c_B1_7 f_B1_7 c_B1_8 f_B1_8 c_B1_9 f_B1_9 l_B1 e_x0 e_x2 l_gb
        go_roundw
        case rel => exact ⟨⟨k + 1, _, _, by have := HLT.out; omega, rfl, by go_num, qH ⟨by rw [take_succ' HX.out, freeOf_add, HP3.out.1]; rfl, by have := HP3.out.2; simp; omega⟩, qH hst.out.keeps, ho2, hs2⟩, hB1_2⟩
        case measure => simp [intOf]; have := HLT.out; omega
      | true =>
        skip
        have c_B1_0 := cB hB1 0
        have f_B1_0 := hB1.out.frz 0
        have c_B1_1 := cB hB1 1
        have f_B1_1 := hB1.out.frz 1
        have c_B1_2 := cB hB1 2
        have f_B1_2 := hB1.out.frz 2
        have c_B1_3 := cB hB1 3
        have f_B1_3 := hB1.out.frz 3
        have c_B1_4 := cB hB1 4
        have f_B1_4 := hB1.out.frz 4
        have c_B1_5 := cB hB1 5
        have f_B1_5 := hB1.out.frz 5
        have c_B1_6 := cB hB1 6
        have f_B1_6 := hB1.out.frz 6
        have c_B1_7 := cB hB1 7
        have f_B1_7 := hB1.out.frz 7
        have c_B1_8 := cB hB1 8
        have f_B1_8 := hB1.out.frz 8
        have c_B1_9 := cB hB1 9
        have f_B1_9 := hB1.out.frz 9
        have l_B1 := hB1.out.lt
        have e_x0 := eX hst HGB (View.cellB HC.out k _ HX.out).1
        have e_x2 := eX hst HGB (View.cellB HC.out k _ HX.out).2.2.1
        have l_gb := Nat.lt_of_lt_of_le HGB.out hst.out.keeps.size
        go_wp2_with fail
        clear c_B1_0 f_B1_0 c_B1_1 f_B1_1 c_B1_2 f_B1_2 c_B1_3 f_B1_3 c_B1_4 f_B1_4 c_B1_5 f_B1_5 c_B1_6 f_B1_6 c_B1_7 f_B1_7 c_B1_8 f_B1_8 c_B1_9 f_B1_9 l_B1 e_x0 e_x2 l_gb
        go_roundw
        case rel => exact ⟨⟨k + 1, _, _, by have := HLT.out; omega, rfl, by go_num, qH ⟨by rw [take_succ' HX.out, freeOf_add, HP3.out.1]; rfl, by have := HP3.out.2; omega⟩, qH hst.out.keeps, ho, hsb⟩, hB1⟩
        case measure => simp [intOf]; have := HLT.out; omega
    · skip
      have c_B1_0 := cB hB1 0
      have f_B1_0 := hB1.out.frz 0
      have c_B1_1 := cB hB1 1
      have f_B1_1 := hB1.out.frz 1
      have c_B1_2 := cB hB1 2
      have f_B1_2 := hB1.out.frz 2
      have c_B1_3 := cB hB1 3
      have f_B1_3 := hB1.out.frz 3
      have c_B1_4 := cB hB1 4
      have f_B1_4 := hB1.out.frz 4
      have c_B1_5 := cB hB1 5
      have f_B1_5 := hB1.out.frz 5
      have c_B1_6 := cB hB1 6
      have f_B1_6 := hB1.out.frz 6
      have c_B1_7 := cB hB1 7
      have f_B1_7 := hB1.out.frz 7
      have c_B1_8 := cB hB1 8
      have f_B1_8 := hB1.out.frz 8
      have c_B1_9 := cB hB1 9
      have f_B1_9 := hB1.out.frz 9
      have l_B1 := hB1.out.lt
      go_wp2_with fail
      go_ret
      clear c_B1_0 f_B1_0 c_B1_1 f_B1_1 c_B1_2 f_B1_2 c_B1_3 f_B1_3 c_B1_4 f_B1_4 c_B1_5 f_B1_5 c_B1_6 f_B1_6 c_B1_7 f_B1_7 c_B1_8 f_B1_8 c_B1_9 f_B1_9 l_B1
      have hQ : Q = freeOf H := by rw [HP3.out.1, List.take_of_length_le (by rw [← HN.out]; omega)]
      exact ⟨_, rfl, by rw [← hQ]; exact ho.out.base grb.out, hst.out.keeps⟩
theorem made_one (w : World) (base : Nat) (h : base ≤ w.heap.size) (x : UInt64) : Own kU (w.alloc (.cells #[.int .u64 (x.toNat : Int)] 25)) base (.slice (some ⟨w.heap.size, 0, none⟩) 1 1) [x] :=
  ⟨by simp [Kind.cells], .inr ⟨w.heap.size, 1, _, rfl, h, heap_new _ _, Nat.le_refl _, by decide, by simp, by simp [Kind.cells]⟩⟩
theorem rFirst_any {S : Nat → Prop} {w : World} {v : Value} {l : List UInt64} (off : UInt64) (hv : View kU S w v l) (hll : l.length ≤ 65535) :
  Calls Tryz.prog 125 #[v, .int .u64 (off.toNat : Int)] w fun e w' => ∃ v', e = .returned v' ∧ Own kU w' w.heap.size v' (off :: l) ∧ Keeps Nil w w' := by
 obtain ⟨al, cl, rfl, _⟩ := hv.val
 obtain ⟨N, hN⟩ : ∃ N, N = l.length := ⟨_, rfl⟩
 rw [← hN]
 obtain ⟨N1, hN1⟩ : ∃ N, N = 1 + l.length := ⟨_, rfl⟩
 have hb : N1 * 8 ≤ 140737488355328 := by omega
 have hO := made_one w w.heap.size (Nat.le_refl _) off
 have hV : View kU S (w.alloc (.cells #[.int .u64 (off.toNat : Int)] 25)) (.slice al N cl) l := by rw [hN]; exact hv.keeps_nil (alloc_keeps _ _)
 have HO := qH hO
 have HV := qH hV
 have HN1 := qH hN1
 clear hv hO hV hN hN1 hll
 go_enter Tryz.func125, Tryz.ntmps125
 go_wp2_with (
   at_builtin
   refine wpList_append_any kU rfl _ _ rfl HO.out rfl rfl HV.out N1 (by rw [HN1.out]; rfl) hb (by simp) (by decide) ?_
   rintro _ W3 ho3 kA3 hg3 ⟨a3, c3, rfl⟩
   have H3 := qH (And.intro ho3 kA3)
   clear ho3 kA3 hg3)
 go_ret
 refine ⟨_, rfl, by simpa using H3.out.1, (alloc_keeps w _).trans H3.out.2 (fun i hi e => ?_)⟩
 have e' : w.heap.size = i := by simpa [Value.ownBlock] using e
 omega
end
namespace OnesP
theorem and_byte {hi lo M m : Nat} (hl : lo < 256) (hm : m < 256) : (256 * hi + lo) &&& (256 * M + m) = 256 * (hi &&& M) + (lo &&& m) := by
 have h8 : (256 : Nat) = 2 ^ 8 := rfl
 have hlm : lo &&& m < 2 ^ 8 := Nat.lt_of_le_of_lt Nat.and_le_left (by omega)
 apply Nat.eq_of_testBit_eq
 intro j
 rw [Nat.testBit_and, h8, Nat.testBit_two_pow_mul_add hi (by omega), Nat.testBit_two_pow_mul_add M (by omega), Nat.testBit_two_pow_mul_add _ hlm]
 split <;> simp [Nat.testBit_and]
def s1 (M x : Nat) : Nat := (x / 2 &&& M) + (x &&& M)
def s2 (M x : Nat) : Nat := (x / 4 &&& M) + (x &&& M)
theorem b1 : ∀ b : Fin 2, ∀ lo : Fin 256, (b.val * 128 + lo.val / 2) &&& 0x55 = (lo.val / 2) &&& 0x55 := by decide +kernel
theorem b2 : ∀ b : Fin 4, ∀ lo : Fin 256, (b.val * 64 + lo.val / 4) &&& 0x33 = (lo.val / 4) &&& 0x33 := by decide +kernel
theorem s1_byte {hi lo M : Nat} (hl : lo < 256) : s1 (256 * M + 0x55) (256 * hi + lo) = 256 * s1 M hi + s1 0x55 lo := by
 unfold s1
 have e : (256 * hi + lo) / 2 = 256 * (hi / 2) + (hi % 2 * 128 + lo / 2) := by omega
 have h := b1 ⟨hi % 2, by omega⟩ ⟨lo, hl⟩
 rw [e, and_byte (by omega) (by decide), and_byte hl (by decide), show hi % 2 * 128 + lo / 2 &&& 0x55 = lo / 2 &&& 0x55 from h]
 omega
theorem s2_byte {hi lo M : Nat} (hl : lo < 256) : s2 (256 * M + 0x33) (256 * hi + lo) = 256 * s2 M hi + s2 0x33 lo := by
 unfold s2
 have e : (256 * hi + lo) / 4 = 256 * (hi / 4) + (hi % 4 * 64 + lo / 4) := by omega
 have h := b2 ⟨hi % 4, by omega⟩ ⟨lo, hl⟩
 rw [e, and_byte (by omega) (by decide), and_byte hl (by decide), show hi % 4 * 64 + lo / 4 &&& 0x33 = lo / 4 &&& 0x33 from h]
 omega
def rep (m : Nat) : Nat → Nat
 | 0 => 0
 | k + 1 => 256 * rep m k + m
def mapB (g : Nat → Nat) : Nat → Nat → Nat
 | 0, _ => 0
 | k + 1, x => 256 * mapB g k (x / 256) + g (x % 256)
theorem rep_55 : rep 0x55 8 = 6148914691236517205 := rfl
theorem rep_33 : rep 0x33 8 = 3689348814741910323 := rfl
theorem rep_0f : rep 0x0f 8 = 1085102592571150095 := rfl
theorem s1_all : ∀ (k x : Nat), x < 256 ^ k → s1 (rep 0x55 k) x = mapB (s1 0x55) k x
 | 0, x, h => by
   have : x = 0 := by simpa using h
   subst this; rfl
 | k + 1, x, h => by
   have e : x = 256 * (x / 256) + x % 256 := by omega
   have hx : x / 256 < 256 ^ k := by rw [Nat.pow_succ] at h; omega
   show s1 (256 * rep 0x55 k + 0x55) x = 256 * mapB (s1 0x55) k (x / 256) + s1 0x55 (x % 256)
   conv => lhs; rw [e]
   rw [s1_byte (Nat.mod_lt _ (by decide)), s1_all k _ hx]
theorem s2_all {g : Nat → Nat} (hg : ∀ b, b < 256 → g b < 256) : ∀ (k x : Nat), s2 (rep 0x33 k) (mapB g k x) = mapB (fun b => s2 0x33 (g b)) k x
 | 0, x => by simp [s2, mapB, rep]
 | k + 1, x => by
   show s2 (256 * rep 0x33 k + 0x33) (256 * mapB g k (x / 256) + g (x % 256)) = 256 * mapB (fun b => s2 0x33 (g b)) k (x / 256) + s2 0x33 (g (x % 256))
   rw [s2_byte (hg _ (Nat.mod_lt _ (by decide))), s2_all hg k]
def c4 (b : Nat) : Nat := s2 0x33 (s1 0x55 b)
def c8 (b : Nat) : Nat := c4 b / 16 + c4 b % 16
theorem c_small : ∀ b : Fin 256, s1 0x55 b.val < 256 ∧ c4 b.val % 16 ≤ 4 ∧ c4 b.val / 16 ≤ 4 ∧ c8 b.val ≤ 8 := by decide +kernel
theorem nib (a : Fin 5) (b : Fin 137) : (a.val * 16 + b.val) &&& 0x0f = b.val % 16 := by
  revert a b; decide +kernel
def s3 (M x : Nat) : Nat := (x / 16 + x) &&& M
theorem map_mod (k x : Nat) : mapB c4 k x % 16 ≤ 4 := by
 cases k with
 | zero => exact Nat.zero_le _
 | succ k =>
   have h := (c_small ⟨x % 256, Nat.mod_lt _ (by decide)⟩).2.1
   show (256 * mapB c4 k (x / 256) + c4 (x % 256)) % 16 ≤ 4
   have h' : c4 (x % 256) % 16 ≤ 4 := h
   omega
theorem s3_all : ∀ (k x : Nat), s3 (rep 0x0f k) (mapB c4 k x) = mapB c8 k x
 | 0, x => by simp [s3, mapB, rep]
 | k + 1, x => by
   show ((256 * mapB c4 k (x / 256) + c4 (x % 256)) / 16 + (256 * mapB c4 k (x / 256) + c4 (x % 256))) &&& (256 * rep 0x0f k + 0x0f) = 256 * mapB c8 k (x / 256) + (c4 (x % 256) / 16 + c4 (x % 256) % 16)
   have hm := map_mod k (x / 256)
   have ih := s3_all k (x / 256)
   unfold s3 at ih
   obtain ⟨_, h1, h2, h3⟩ := c_small ⟨x % 256, Nat.mod_lt _ (by decide)⟩
   dsimp only at h1 h2 h3
   generalize mapB c4 k (x / 256) = hi at hm ih ⊢
   generalize c4 (x % 256) = lo at h1 h2 ⊢
   have e : (256 * hi + lo) / 16 + (256 * hi + lo) = 256 * (hi / 16 + hi) + (hi % 16 * 16 + (lo / 16 + lo)) := by omega
   have hn := nib ⟨hi % 16, by omega⟩ ⟨lo / 16 + lo, by omega⟩
   dsimp only at hn
   rw [e, and_byte (by omega) (by decide), ih, hn]
   have e2 : (lo / 16 + lo) % 16 = lo / 16 + lo % 16 := by omega
   omega
def sum3 (x : Nat) : Nat := (x + x / 256 + (x + x / 256) / 65536 + (x + x / 256 + (x + x / 256) / 65536) / 4294967296) % 128
theorem sum3_all {b0 b1 b2 b3 b4 b5 b6 b7 : Nat} (h0 : b0 ≤ 8) (h1 : b1 ≤ 8) (h2 : b2 ≤ 8) (h3 : b3 ≤ 8) (h4 : b4 ≤ 8) (h5 : b5 ≤ 8) (h6 : b6 ≤ 8) (h7 : b7 ≤ 8) :
  sum3 (256 * (256 * (256 * (256 * (256 * (256 * (256 * (256 * 0 + b7) + b6) + b5) + b4) + b3) + b2) + b1) + b0) = b0 + b1 + b2 + b3 + b4 + b5 + b6 + b7 ∧
  256 * (256 * (256 * (256 * (256 * (256 * (256 * (256 * 0 + b7) + b6) + b5) + b4) + b3) + b2) + b1) + b0 < 1000000000000000000 := by
 refine ⟨?_, by omega⟩
 unfold sum3
 obtain ⟨x, hx⟩ : ∃ x, x = 256 * (256 * (256 * (256 * (256 * (256 * (256 * (256 * 0 + b7) + b6) + b5) + b4) + b3) + b2) + b1) + b0 := ⟨_, rfl⟩
 rw [← hx]
 have e1 : x / 256 = 256 * (256 * (256 * (256 * (256 * (256 * b7 + b6) + b5) + b4) + b3) + b2) + b1 := by omega
 obtain ⟨y, hy⟩ : ∃ y, y = x + x / 256 := ⟨_, rfl⟩
 rw [← hy]
 have e2 : y = 256 * (256 * (256 * (256 * (256 * (256 * (256 * b7 + (b6 + b7)) + (b5 + b6)) + (b4 + b5)) + (b3 + b4)) + (b2 + b3)) + (b1 + b2)) + (b0 + b1) := by rw [hy, e1, hx]; clear hx hy e1; omega
 clear hx hy e1
 have e3 : y / 65536 = 256 * (256 * (256 * (256 * (256 * b7 + (b6 + b7)) + (b5 + b6)) + (b4 + b5)) + (b3 + b4)) + (b2 + b3) := by omega
 obtain ⟨z, hz⟩ : ∃ z, z = y + y / 65536 := ⟨_, rfl⟩
 rw [← hz]
 have e4 : z = 4294967296 * (256 * (256 * (256 * b7 + (b6 + b7)) + (b5 + b6 + b7)) + (b4 + b5 + b6 + b7)) + (256 * (256 * (256 * (b3 + b4 + b5 + b6) + (b2 + b3 + b4 + b5)) + (b1 + b2 + b3 + b4)) + (b0 + b1 + b2 + b3)) := by rw [hz, e3, e2]; clear hz e3 e2; omega
 clear hz e3 e2
 have e5 : z / 4294967296 = 256 * (256 * (256 * b7 + (b6 + b7)) + (b5 + b6 + b7)) + (b4 + b5 + b6 + b7) := by omega
 rw [e5, e4]
 clear e5 e4
 omega
def pc : Nat → Nat → Nat
 | 0, _ => 0
 | k + 1, x => x % 2 + pc k (x / 2)
theorem c8_pc : ∀ b : Fin 256, c8 b.val = pc 8 b.val := by decide +kernel
theorem pc_add : ∀ (j k x : Nat), pc (j + k) x = pc j (x % 2 ^ j) + pc k (x / 2 ^ j)
 | 0, k, x => by simp [pc]
 | j + 1, k, x => by
   have e : j + 1 + k = (j + k) + 1 := by omega
   rw [e]
   show x % 2 + pc (j + k) (x / 2) = (x % 2 ^ (j + 1)) % 2 + pc j (x % 2 ^ (j + 1) / 2) + pc k (x / 2 ^ (j + 1))
   have e1 : x % 2 ^ (j + 1) % 2 = x % 2 := by rw [Nat.pow_succ, Nat.mul_comm, Nat.mod_mul_right_mod]
   have e2 : x % 2 ^ (j + 1) / 2 = x / 2 % 2 ^ j := by rw [Nat.pow_succ, Nat.mul_comm, Nat.mod_mul_right_div_self]
   have e3 : x / 2 ^ (j + 1) = x / 2 / 2 ^ j := by rw [Nat.pow_succ, Nat.mul_comm, Nat.div_div_eq_div_mul]
   rw [e1, e2, e3, pc_add j k (x / 2)]
   omega
def ones (x : Nat) : Nat := sum3 (s3 1085102592571150095 (s2 3689348814741910323 (s1 6148914691236517205 x)))
theorem ones_pc {x : Nat} (h : x < 256 ^ 8) : ones x = pc 64 x ∧ s3 1085102592571150095 (s2 3689348814741910323 (s1 6148914691236517205 x)) < 1000000000000000000 := by
 unfold ones
 rw [← rep_0f, ← rep_33, ← rep_55, s1_all 8 x h, s2_all (fun b hb => (c_small ⟨b, hb⟩).1) 8 x]
 show sum3 (s3 (rep 0x0f 8) (mapB c4 8 x)) = _ ∧ s3 (rep 0x0f 8) (mapB c4 8 x) < _
 rw [s3_all 8 x]
 have hb : ∀ y : Nat, c8 (y % 256) ≤ 8 := fun y => (c_small ⟨y % 256, Nat.mod_lt _ (by decide)⟩).2.2.2
 have hp : ∀ k y : Nat, pc (8 + k) y = c8 (y % 256) + pc k (y / 256) := fun k y => by
  rw [pc_add 8 k y]
  exact congrArg (· + _) (c8_pc ⟨y % 256, Nat.mod_lt _ (by decide)⟩).symm
 obtain ⟨a, b⟩ := sum3_all (hb x) (hb (x / 256)) (hb (x / 256 / 256)) (hb (x / 256 / 256 / 256)) (hb (x / 256 / 256 / 256 / 256)) (hb (x / 256 / 256 / 256 / 256 / 256)) (hb (x / 256 / 256 / 256 / 256 / 256 / 256)) (hb (x / 256 / 256 / 256 / 256 / 256 / 256 / 256))
 refine ⟨a.trans ?_, b⟩
 rw [show (64 : Nat) = 8 + (8 + (8 + (8 + (8 + (8 + (8 + (8 + 0))))))) from rfl, hp, hp, hp, hp, hp, hp, hp, hp]
 show _ = _ + (_ + (_ + (_ + (_ + (_ + (_ + (_ + 0)))))))
 omega
def powN : Nat → Nat → Bool
 | 0, x => decide (x = 1)
 | k + 1, x => if 1 < x ∧ x % 2 = 0 then powN k (x / 2) else decide (x = 1)
theorem pc_zero : ∀ (k x : Nat), x < 2 ^ k → (pc k x = 0 ↔ x = 0)
 | 0, x, h => by simp [pc]; omega
 | k + 1, x, h => by
   have := pc_zero k (x / 2) (by rw [Nat.pow_succ] at h; omega)
   show x % 2 + pc k (x / 2) = 0 ↔ _
   omega
theorem pc_one : ∀ (k x : Nat), x < 2 ^ k → (pc k x = 1 ↔ powN k x = true)
  | 0, x, h => by simp [pc, powN]; omega
  | k + 1, x, h => by
    have h1 := pc_zero k (x / 2) (by rw [Nat.pow_succ] at h; omega)
    have h2 := pc_one k (x / 2) (by rw [Nat.pow_succ] at h; omega)
    have hz : pc k 0 = 0 := (pc_zero k 0 (Nat.pos_of_ne_zero (by simp))).2 rfl
    show x % 2 + pc k (x / 2) = 1 ↔ (if 1 < x ∧ x % 2 = 0 then powN k (x / 2) else decide (x = 1)) = true
    by_cases hx : 1 < x ∧ x % 2 = 0
    · rw [if_pos hx, ← h2]; omega
    · rw [if_neg hx, decide_eq_true_eq]
      constructor
      · intro e
        by_cases h0 : x % 2 = 0
        · have : x = 0 := by omega
          subst this
          rw [Nat.zero_div, hz] at e; omega
        · have : pc k (x / 2) = 0 := by omega
          have := h1.1 this
          omega
      · rintro rfl
        show 1 + pc k 0 = 1
        rw [hz]
theorem powN_two : ∀ (k x : Nat), powN k x = true → ∃ j, j ≤ k ∧ x = 2 ^ j
  | 0, x, h => ⟨0, Nat.le_refl _, by simpa [powN] using h⟩
  | k + 1, x, h => by
    unfold powN at h
    split at h
    · obtain ⟨j, h1, h2⟩ := powN_two k (x / 2) h
      refine ⟨j + 1, by omega, ?_⟩
      rw [Nat.pow_succ]; omega
    · exact ⟨0, by omega, by simpa using h⟩
end OnesP
section
open Go.RowKit OnesP
theorem i64_and127 (y : Nat) (h : y < 9223372036854775808) : bits .and .i64 (y : Int) 127 = ((y % 128 : Nat) : Int) := by
 show IntKind.i64.wrap ((BitVec.ofInt 64 (y : Int) &&& BitVec.ofInt 64 ((127 : Nat) : Int)).toNat : Int) = _
 rw [BitVec.toNat_and, ofInt_u64 y (by omega), ofInt_u64 127 (by decide), nat_mask7]
 exact IntWalk.i64_in _ (by omega)
theorem Ones_any (w : World) (a : UInt64) : Calls Tryz.prog 146 #[.int .u64 (a.toNat : Int)] w fun e w' => e = .returned (.int .i64 (ones a.toNat : Int)) ∧ w = w' := by
 have ha := a.toNat_lt
 obtain ⟨ho, hlt⟩ := ones_pc (x := a.toNat) (by omega)
 obtain ⟨A, hA⟩ : ∃ A, A = a.toNat := ⟨_, rfl⟩
 obtain ⟨y1, h1⟩ : ∃ y, y = s1 6148914691236517205 A := ⟨_, rfl⟩
 obtain ⟨y2, h2⟩ : ∃ y, y = s2 3689348814741910323 y1 := ⟨_, rfl⟩
 obtain ⟨y3, h3⟩ : ∃ y, y = s3 1085102592571150095 y2 := ⟨_, rfl⟩
 have hf : ones A = sum3 y3 := by rw [h3, h2, h1]; rfl
 rw [← hA] at hlt ⊢
 rw [← h1, ← h2, ← h3] at hlt
 rw [hf]
 unfold sum3
 have l1 : y1 ≤ 12297829382473034410 := by
  rw [h1]; unfold s1
  have x1 : A / 2 &&& 6148914691236517205 ≤ 6148914691236517205 := Nat.and_le_right
  have x2 : A &&& 6148914691236517205 ≤ 6148914691236517205 := Nat.and_le_right
  omega
 have l2 : y2 ≤ 7378697629483820646 := by
  rw [h2]; unfold s2
  have x1 : y1 / 4 &&& 3689348814741910323 ≤ 3689348814741910323 := Nat.and_le_right
  have x2 : y1 &&& 3689348814741910323 ≤ 3689348814741910323 := Nat.and_le_right
  omega
 have e1 : IntKind.u64.wrap (bits .and .u64 ((A : Int) / 2) 6148914691236517205 + bits .and .u64 (A : Int) 6148914691236517205) = (y1 : Int) := by
  have x1 := u64_and_nat (A / 2) 6148914691236517205 (by omega) (by decide)
  have x2 := u64_and_nat A 6148914691236517205 (by omega) (by decide)
  rw [show (A : Int) / 2 = ((A / 2 : Nat) : Int) by omega]
  erw [x1, x2]
  rw [IntWalk.u64_in _ (by rw [h1] at l1; unfold s1 at l1; omega), h1]
  unfold s1; omega
 have e2 : IntKind.u64.wrap (bits .and .u64 ((y1 : Int) / 4) 3689348814741910323 + bits .and .u64 (y1 : Int) 3689348814741910323) = (y2 : Int) := by
  have x1 := u64_and_nat (y1 / 4) 3689348814741910323 (by omega) (by decide)
  have x2 := u64_and_nat y1 3689348814741910323 (by omega) (by decide)
  rw [show (y1 : Int) / 4 = ((y1 / 4 : Nat) : Int) by omega]
  erw [x1, x2]
  rw [IntWalk.u64_in _ (by rw [h2] at l2; unfold s2 at l2; omega), h2]
  unfold s2; omega
 have e3 : bits .and .u64 (IntKind.u64.wrap ((y2 : Int) / 16 + (y2 : Int))) 1085102592571150095 = (y3 : Int) := by
  have x1 := u64_and_nat (y2 / 16 + y2) 1085102592571150095 (by omega) (by decide)
  rw [IntWalk.u64_in _ (by omega), show (y2 : Int) / 16 + (y2 : Int) = ((y2 / 16 + y2 : Nat) : Int) by omega]
  erw [x1]
  rw [h3]; rfl
 obtain ⟨y4, h4⟩ : ∃ y, y = y3 + y3 / 256 := ⟨_, rfl⟩
 rw [← h4]
 have e4 : IntKind.u64.wrap ((y3 : Int) + (y3 : Int) / 256) = (y4 : Int) := by rw [IntWalk.u64_in _ (by omega)]; omega
 have l4 : y4 < 2000000000000000000 := by omega
 obtain ⟨y5, h5⟩ : ∃ y, y = y4 + y4 / 65536 := ⟨_, rfl⟩
 rw [← h5]
 have e5 : IntKind.u64.wrap ((y4 : Int) + (y4 : Int) / 65536) = (y5 : Int) := by rw [IntWalk.u64_in _ (by omega)]; omega
 have l5 : y5 < 2100000000000000000 := by omega
 obtain ⟨y6, h6⟩ : ∃ y, y = y5 + y5 / 4294967296 := ⟨_, rfl⟩
 rw [← h6]
 have e6 : IntKind.u64.wrap ((y5 : Int) + (y5 : Int) / 4294967296) = (y6 : Int) := by rw [IntWalk.u64_in _ (by omega)]; omega
 have l6 : y6 < 2200000000000000000 := by omega
 have e7 : IntKind.i64.wrap (y6 : Int) = (y6 : Int) := IntWalk.i64_in _ (by omega)
 have e8 := i64_and127 y6 (by omega)
 clear l1 l2 l4 l5 l6 h1 h2 h3 h4 h5 h6 hlt ho hf ha hA
 go_enter Tryz.func146, Tryz.ntmps146
 go_wp2_with fail
 go_ret
 exact ⟨rfl, rfl⟩
end
end Go.Proofs.YtefpbljekfkefaaGreat
