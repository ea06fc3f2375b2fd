/- TakeW: written short. -/
import Derived.Test.YtefpbljekfkefaaGreatS21
import Derived.Test.YtefpbljekfkefaaGreatS20
import Derived.Test.YtefpbljekfkefaaGreatS01
import Derived.Test.YtefpbljekfkefaaGreatS10
set_option maxRecDepth 100000
set_option maxHeartbeats 8000000
namespace Go.Proofs.YtefpbljekfkefaaGreat
section
open Go.RowKit PT
theorem Take_000 {w : World} {t : Nat} {S : Nat → Prop} {f : UInt64 → UInt64} {e : UInt64} {A C : List BlockV} {bo bs bl pd nd rs uo us n a : UInt64} {bw : Int} {h5 h6 : Nat} {Ls : Nat → List UInt64} {K : UInt64 → UInt64 → Prop} (hT0 : TxF w t f 4800 S)
  (hW0 : Wd f e (A ++ ⟨bo, ⟨bs, false, bw⟩, bl⟩ :: C) Ls K)
  (hl : Lay e.toNat (A ++ ⟨bo, ⟨bs, false, bw⟩, bl⟩ :: C))
  (hF : Calls Tryz.prog 39 #[.pointer (some ⟨t, 0, none⟩), .int .u64 (n.toNat : Int), .int .u64 (a.toNat : Int)] w fun e' w' => e' = .returned (.tuple #[.agg #[.int .u64 (bo.toNat : Int), .int .u64 (pd.toNat : Int), .int .u64 (nd.toNat : Int)], .int .i64 0]) ∧ Keeps Nil w w')
  (huo : uo = bo + pd)
  (hrs : rs = bs - pd - nd)
  (hp : ¬ 0 < pd.toNat)
  (hr : rs.toNat < 48)
  (hus : us = nd + rs)
  (F3 : Fits e.toNat h5 h6 A C ⟨uo, ⟨us, true, 0⟩, n⟩) :
  Calls Tryz.prog 62 #[.pointer (some ⟨t, 0, none⟩), .int .i64 0, .int .u64 (n.toNat : Int), .int .u64 (a.toNat : Int)] w fun e' w' => e' = .returned (.tuple #[.int .u64 ((uo + 32).toNat : Int), .int .i64 0]) ∧
   ∃ f' S', TxF w' t f' 4800 S' ∧ Wd f' e (A ++ ⟨uo, ⟨us, true, 0⟩, n⟩ :: C) (updO Ls ⟨uo, ⟨us, true, 0⟩, n⟩) (zeroK ⟨uo, ⟨us, true, 0⟩, n⟩ K) ∧ Step S S' w w' := by
 have hT := qH hT0
 have hW := qH hW0
 have hbm : (⟨bo, ⟨bs, false, bw⟩, bl⟩ : BlockV) ∈ A ++ ⟨bo, ⟨bs, false, bw⟩, bl⟩ :: C := by simp
 obtain ⟨pk, hpk⟩ : ∃ x, x = packU ⟨bs, false, bw⟩ := ⟨_, rfl⟩
 have HPK := qH (show f bo = pk by rw [hpk]; exact (hW0.tags _ hbm).1)
 have HUN := qH (show unpackT pk = ⟨bs, false, bw⟩ ∧ isTag pk = true by rw [hpk]; exact ⟨unpack_pack (hl.ok _ hbm).1.1, isTag_pack (hl.ok _ hbm).1.1⟩)
 have HL := qH hl
 have HF := qH hF
 have HF3 := qH F3
 have HI3 := qH (show mayT ⟨us, true, 0⟩ = true ∧ uo.toNat % 16 = 0 ∧ (⟨uo, ⟨us, true, 0⟩, n⟩ : BlockV).z ≤ 4800 from ⟨F3.ok.1, F3.mod, (F3.lay.nums F3.mem).2.2.2.2.2⟩)
 have hz3 : uo.toNat + us.toNat ≤ 4800 := HI3.out.2.2
 have hm3 : uo.toNat % 16 = 0 := HI3.out.2.1
 have hs3 : 48 ≤ us.toNat := F3.ok.sz.1
 obtain ⟨ys, hys⟩ : ∃ y, y = bs - pd := ⟨_, rfl⟩
 obtain ⟨u8, hu8⟩ : ∃ y, y = uo + 8 := ⟨_, rfl⟩
 obtain ⟨up, hup⟩ : ∃ y, y = uo + 32 := ⟨_, rfl⟩
 obtain ⟨M, hM⟩ : ∃ M, M = wordsN n := ⟨_, rfl⟩
 have hk3 : needB n = true ∧ (needU n).toNat ≤ us.toNat := by have := F3.ok.2; rw [if_pos rfl] at this; exact this
 have hM1 : 40 + 8 * M ≤ us.toNat := by have := (need_words hk3.1).1; rw [hM]; omega
 have eup : up.toNat = uo.toNat + 32 := by rw [hup, UInt64.toNat_add, show (32 : UInt64).toNat = 32 from rfl]; omega
 have q_uo : IntKind.u64.wrap ((bo.toNat : Int) + (pd.toNat : Int)) = (uo.toNat : Int) := by rw [huo]; exact u64_add bo pd
 have q_ys : IntKind.u64.wrap ((bs.toNat : Int) - (pd.toNat : Int)) = (ys.toNat : Int) := by rw [hys]; exact u64_sub bs pd
 have q_rs : IntKind.u64.wrap ((ys.toNat : Int) - (nd.toNat : Int)) = (rs.toNat : Int) := by rw [hrs, ← hys]; exact u64_sub ys nd
 have q_u8 : IntKind.u64.wrap ((uo.toNat : Int) + 8) = (u8.toNat : Int) := by rw [hu8]; exact u64_add uo 8
 have q_up : IntKind.u64.wrap ((uo.toNat : Int) + 32) = (up.toNat : Int) := by rw [hup]; exact u64_add uo 32
 rw [← hup]
 have HU := qH (And.intro hu8 (And.intro hup (And.intro hM (And.intro hM1 (And.intro eup hz3)))))
 have HMM := qH hM.symm
 have HMs := qH (show M ≤ 600 by omega)
 have q_us : IntKind.u64.wrap ((nd.toNat : Int) + (rs.toNat : Int)) = (us.toNat : Int) := by rw [hus]; exact u64_add nd rs
 have hr48 : ¬ 48 ≤ rs.toNat := by omega
 clear hT0 hW0 hl hF F3 huo hrs hpk hbm hys hu8 hup hM hk3 hM1 eup hz3 hm3 hs3 hr hus
 have hp0 := hp
 clear hp
 have hst := qH (Step.refl S w)
 go_enter Tryz.func62, Tryz.ntmps62
 go_wp2_with fail
 refine (HF.out).mono ?_
 rintro _ W1 ⟨rfl, kn⟩
 replace hst := sN hst kn
 replace hT := qH (hT.out.nil kn)
 clear kn
 obtain ⟨W2, hW2⟩ := nm (W1.alloc (.cells #[.int .u64 (bo.toNat : Int), .int .u64 (pd.toNat : Int), .int .u64 (nd.toNat : Int)] 57))
 obtain ⟨B1, eB1⟩ := nm (W1.heap.size)
 go_wp2_with fail
 rw [← hW2.out]
 try rw [← eB1.out]
 have k1 := kA hW2
 have e0B1 := eB1.out
 have hB1 := zB hW2 (Bx.new hT.out.lt _ _ e0B1)
 have gB1 := gZ e0B1 hst
 replace hst := sN hst k1
 replace hT := qH (hT.out.nil k1)
 clear k1 e0B1
 refine (hT.out.reads.loadC bo _ rfl).mono ?_
 rintro _ W3 ⟨rfl, kn⟩
 rw [HPK.out]
 replace hst := sN hst kn
 replace hT := qH (hT.out.nil kn)
 replace hB1 := bN hB1 kn
 clear kn
 go_wp2_with fail
 refine (Unpack_any _ pk).mono ?_
 rintro _ W4 ⟨rfl, kn⟩
 rw [HUN.out.1, HUN.out.2, TagV.cells_def]
 replace hst := sN hst kn
 replace hT := qH (hT.out.nil kn)
 replace hB1 := bN hB1 kn
 clear kn
 have c_B1_0 := cB hB1 0
 have l_B1 := hB1.out.lt
 obtain ⟨W5, hW5⟩ := nm (W4.alloc (.cells #[.int .u64 (bs.toNat : Int), .bool false, .int .i64 bw] 35))
 obtain ⟨B2, eB2⟩ := nm (W4.heap.size)
 go_wp2_with fail
 clear c_B1_0 l_B1
 rw [← hW5.out]
 try rw [← eB2.out]
 have k2 := kA hW5
 have e0B2 := eB2.out
 have hB2 := zB hW5 (Bx.new hT.out.lt _ _ e0B2)
 have gB2 := gZ e0B2 hst
 have nB1B2 := nZ e0B2 hB1
 replace hst := sN hst k2
 replace hT := qH (hT.out.nil k2)
 replace hB1 := bN hB1 k2
 clear k2 e0B2
 obtain ⟨fa, ra, hIa, hWa⟩ := hW.out.cut HL.out rfl
 replace hIa := qH hIa
 obtain ⟨f1, ef1⟩ : ∃ g, g = PT.stF 4800 fa 32 ra := ⟨_, rfl⟩
 rw [← ef1] at hWa
 replace hW := qH hWa
 clear hWa
 refine (Delete_any hIa.out hT.out).mono ?_
 rintro _ W6 ⟨rfl, S1, hT2, kn⟩
 rw [if_pos rfl, ← ef1] at hT2
 clear ef1 hIa
 replace hst := sT hst kn
 replace hB1 := bS hB1 kn
 replace hB2 := bS hB2 kn
 replace hT := qH hT2
 clear kn hT2
 go_wp2_with fail
 obtain ⟨W7, hW7⟩ := nm (W6.drew)
 have kn := kD hW7
 replace hst := sN hst kn
 replace hT := qH (hT.out.nil kn)
 replace hB1 := bN hB1 kn
 replace hB2 := bN hB2 kn
 clear kn
 refine wp_region_held_drew (S := fun w' => w'.cell? ⟨B1, 0, none⟩ = some (.int .u64 (bo.toNat : Int)) ∧ w'.cell? ⟨B1, 1, none⟩ = some (.int .u64 (pd.toNat : Int)) ∧ w'.cell? ⟨B1, 2, none⟩ = some (.int .u64 (nd.toNat : Int))) (by kernel_rfl) (by rw [← hW7.out]; exact ⟨cB hB1 0, cB hB1 1, cB hB1 2⟩) (fun hHeld => ?_)
 rw [← hW7.out] at hHeld ⊢
 refine fT 0 rfl hHeld ?_
 try simp only [Act.put, List.getElem_toArray, List.getElem_cons_zero, List.setIfInBounds_toArray, List.set_cons_zero, List.set_cons_succ]
 refine fT 1 rfl hHeld ?_; try simp only [sP,sQ]
 refine fT 2 rfl hHeld ?_; try simp only [sP,sQ]
 refine fT 3 rfl hHeld ?_; try simp only [sP,sQ]
 refine fT 4 rfl hHeld ?_; try simp only [sP,sQ]
 refine fT 5 rfl hHeld ?_; try simp only [sP,sQ]
 refine fT 6 rfl hHeld ?_; try simp only [sP,sQ]
 refine fT 7 rfl hHeld ?_; try simp only [sP,sQ]
 refine fT 8 rfl hHeld ?_; try simp only [sP,sQ]
 refine fD ?_
 clear hHeld
 have d1 : decide (0 < pd.toNat) = false := decide_eq_false (hp0)
 have d2 : decide (48 ≤ rs.toNat) = false := decide_eq_false (hr48)
 have c_B1_0 := cB hB1 0
 have c_B1_1 := cB hB1 1
 have c_B1_2 := cB hB1 2
 have l_B1 := hB1.out.lt
 have c_B2_0 := cB hB2 0
 have l_B2 := hB2.out.lt
 go_wp2_with fail
 clear c_B1_0 c_B1_1 c_B1_2 l_B1 c_B2_0 l_B2
 have hJw := qH (HF3.out.inT hW.out.e16)
 obtain ⟨f2, ef2⟩ : ∃ g, g = tagF 4800 f1 uo ⟨us, true, 0⟩ := ⟨_, rfl⟩
 refine (tWrite_any hT.out uo ⟨us, true, 0⟩ HI3.out.1 hJw.out).mono ?_
 rintro _ W8 ⟨rfl, S2, hT2, kn⟩
 rw [← ef2] at hT2
 replace ef2 := qH ef2
 clear hJw
 replace hst := sT hst kn
 replace hB1 := bS hB1 kn
 replace hB2 := bS hB2 kn
 replace hT := qH hT2
 clear kn hT2
 go_wp2_with fail
 obtain ⟨f3, ef3⟩ : ∃ g, g = PT.stF 4800 f2 u8 n := ⟨_, rfl⟩
 refine (hT.out.store u8 n _ _ rfl rfl).mono ?_
 rintro _ W9 ⟨rfl, S3, hT2, kn⟩
 rw [← ef3] at hT2
 replace ef3 := qH ef3
 replace hst := sT hst kn
 replace hB1 := bS hB1 kn
 replace hB2 := bS hB2 kn
 replace hT := qH hT2
 clear kn hT2
 go_wp2_with fail
 refine (Words_any _ n).mono ?_
 rintro _ _ ⟨rfl, rfl⟩
 rw [HMM.out]
 go_wp2_with fail
 clear hB1
 clear hB2
 go_wp2_with fail
 go_loopw [102] (fun i wr => ∃ (k : Nat) (Sa : Nat → Prop), k ≤ M ∧ i = .int .u64 (k : Int) ∧ Hid (Step S Sa w wr) ∧ Hid (TxF wr t (zeroF 4800 f3 up k) 4800 Sa)) (fun i _ => M - (intOf i).toNat)
 case atStart => exact ⟨0, _, Nat.zero_le _, rfl, hst, hT⟩
 case round =>
  clear hst hT
  obtain ⟨k, Sa, hk, rfl, hst, hT⟩ := hrel
  by_cases hlt : k < M
  ·obtain ⟨k1, hk1⟩ : ∃ n, n = k + 1 := ⟨_, rfl⟩
   obtain ⟨k8, hk8⟩ : ∃ n, n = 8 * k := ⟨_, rfl⟩
   obtain ⟨yk, hyk⟩ : ∃ y, y = up + 8 * UInt64.ofNat k := ⟨_, rfl⟩
   have hMs := HMs.out
   have hup4 : up.toNat + 8 * M ≤ 4800 := by have h := HU.out.2.2.2; omega
   have eyk : yk.toNat = up.toNat + k8 := by rw [hyk, UInt64.toNat_add, UInt64.toNat_mul, UInt64.toNat_ofNat', show (8 : UInt64).toNat = 8 from rfl]; omega
   have q_k1 : IntKind.u64.wrap ((k : Int) + 1) = (k1 : Int) := by rw [IntWalk.u64_in _ (by omega)]; omega
   have q_k8 : IntKind.u64.wrap (8 * (k : Int)) = (k8 : Int) := by rw [IntWalk.u64_in _ (by omega)]; omega
   have q_yk : IntKind.u64.wrap ((up.toNat : Int) + (k8 : Int)) = (yk.toNat : Int) := by rw [IntWalk.u64_in _ (by omega)]; omega
   have HZ1 := qH (show PT.stF 4800 (zeroF 4800 f3 up k) yk 0 = zeroF 4800 f3 up k1 by rw [hk1, hyk]; rfl)
   have HK := qH (And.intro hk1 hlt)
   have d_k : decide ((k : Int) < (M : Int)) = true := decide_eq_true (by omega)
   clear hk1 hk8 hyk eyk hup4 hMs
   go_wp2_with fail
   refine (hT.out.store yk 0 _ 0 rfl rfl).mono ?_
   rintro _ W11 ⟨rfl, S4, hT2, kn⟩
   rw [HZ1.out] at hT2
   replace hst := sT hst kn
   replace hT := qH hT2
   clear kn hT2
   go_wp2_with fail
   go_roundw
   case rel => exact ⟨k1, _, by have := HK.out; omega, rfl, hst, hT⟩
   case measure => simp only [intOf]; clear q_k1 q_k8 q_yk; have h1 := HK.out; omega
  ·have hkM : k = M := by omega
   subst hkM
   have d_k : decide ((k : Int) < (k : Int)) = false := decide_eq_false (by omega)
   go_wp2_with fail
   go_ret2
   have hfin := hW.out.use0 HF3.out rfl rfl
   have hfe : f3 = useF f1 (⟨uo, ⟨us, true, 0⟩, n⟩ : BlockV) := by rw [ef3.out, ef2.out, HU.out.1]; rfl
   refine ⟨rfl, _, _, hT.out, ?_, hst.out⟩
   rw [HU.out.2.1, HU.out.2.2.1, hfe]
   exact hfin
theorem Take_001 {w : World} {t : Nat} {S : Nat → Prop} {f : UInt64 → UInt64} {e : UInt64} {A C : List BlockV} {bo bs bl pd nd rs uo us n a c : UInt64} {bw ow : Int} {h5 h6 : Nat} {Ls : Nat → List UInt64} {K : UInt64 → UInt64 → Prop} (hT0 : TxF w t f 4800 S)
  (hW0 : Wd f e (A ++ ⟨bo, ⟨bs, false, bw⟩, bl⟩ :: C) Ls K)
  (hl : Lay e.toNat (A ++ ⟨bo, ⟨bs, false, bw⟩, bl⟩ :: C))
  (hF : Calls Tryz.prog 39 #[.pointer (some ⟨t, 0, none⟩), .int .u64 (n.toNat : Int), .int .u64 (a.toNat : Int)] w fun e' w' => e' = .returned (.tuple #[.agg #[.int .u64 (bo.toNat : Int), .int .u64 (pd.toNat : Int), .int .u64 (nd.toNat : Int)], .int .i64 0]) ∧ Keeps Nil w w')
  (huo : uo = bo + pd)
  (hrs : rs = bs - pd - nd)
  (hp : ¬ 0 < pd.toNat)
  (hr : rs.toNat < 48)
  (hus : us = nd + rs)
  (F3 : Fits e.toNat h5 h6 A C ⟨uo, ⟨us, true, ow⟩, n⟩)
  (hc : c.toNat < 8)
  (how : ow = (c.toNat : Int) + 1) :
  Calls Tryz.prog 62 #[.pointer (some ⟨t, 0, none⟩), .int .i64 ow, .int .u64 (n.toNat : Int), .int .u64 (a.toNat : Int)] w fun e' w' => e' = .returned (.tuple #[.int .u64 ((uo + 32).toNat : Int), .int .i64 0]) ∧
   ∃ f' S', TxF w' t f' 4800 S' ∧ Wd f' e (A ++ ⟨uo, ⟨us, true, ow⟩, n⟩ :: C) (updO Ls ⟨uo, ⟨us, true, ow⟩, n⟩) (zeroK ⟨uo, ⟨us, true, ow⟩, n⟩ K) ∧ Step S S' w w' := by
 have hT := qH hT0
 have hW := qH hW0
 have hbm : (⟨bo, ⟨bs, false, bw⟩, bl⟩ : BlockV) ∈ A ++ ⟨bo, ⟨bs, false, bw⟩, bl⟩ :: C := by simp
 obtain ⟨pk, hpk⟩ : ∃ x, x = packU ⟨bs, false, bw⟩ := ⟨_, rfl⟩
 have HPK := qH (show f bo = pk by rw [hpk]; exact (hW0.tags _ hbm).1)
 have HUN := qH (show unpackT pk = ⟨bs, false, bw⟩ ∧ isTag pk = true by rw [hpk]; exact ⟨unpack_pack (hl.ok _ hbm).1.1, isTag_pack (hl.ok _ hbm).1.1⟩)
 have HL := qH hl
 have HF := qH hF
 have HF3 := qH F3
 have HI3 := qH (show mayT ⟨us, true, ow⟩ = true ∧ uo.toNat % 16 = 0 ∧ (⟨uo, ⟨us, true, ow⟩, n⟩ : BlockV).z ≤ 4800 from ⟨F3.ok.1, F3.mod, (F3.lay.nums F3.mem).2.2.2.2.2⟩)
 have hz3 : uo.toNat + us.toNat ≤ 4800 := HI3.out.2.2
 have hm3 : uo.toNat % 16 = 0 := HI3.out.2.1
 have hs3 : 48 ≤ us.toNat := F3.ok.sz.1
 obtain ⟨ys, hys⟩ : ∃ y, y = bs - pd := ⟨_, rfl⟩
 obtain ⟨u8, hu8⟩ : ∃ y, y = uo + 8 := ⟨_, rfl⟩
 obtain ⟨up, hup⟩ : ∃ y, y = uo + 32 := ⟨_, rfl⟩
 obtain ⟨M, hM⟩ : ∃ M, M = wordsN n := ⟨_, rfl⟩
 have hk3 : needB n = true ∧ (needU n).toNat ≤ us.toNat := by have := F3.ok.2; rw [if_pos rfl] at this; exact this
 have hM1 : 40 + 8 * M ≤ us.toNat := by have := (need_words hk3.1).1; rw [hM]; omega
 have eup : up.toNat = uo.toNat + 32 := by rw [hup, UInt64.toNat_add, show (32 : UInt64).toNat = 32 from rfl]; omega
 have q_uo : IntKind.u64.wrap ((bo.toNat : Int) + (pd.toNat : Int)) = (uo.toNat : Int) := by rw [huo]; exact u64_add bo pd
 have q_ys : IntKind.u64.wrap ((bs.toNat : Int) - (pd.toNat : Int)) = (ys.toNat : Int) := by rw [hys]; exact u64_sub bs pd
 have q_rs : IntKind.u64.wrap ((ys.toNat : Int) - (nd.toNat : Int)) = (rs.toNat : Int) := by rw [hrs, ← hys]; exact u64_sub ys nd
 have q_u8 : IntKind.u64.wrap ((uo.toNat : Int) + 8) = (u8.toNat : Int) := by rw [hu8]; exact u64_add uo 8
 have q_up : IntKind.u64.wrap ((uo.toNat : Int) + 32) = (up.toNat : Int) := by rw [hup]; exact u64_add uo 32
 rw [← hup]
 have HU := qH (And.intro hu8 (And.intro hup (And.intro hM (And.intro hM1 (And.intro eup hz3)))))
 have HMM := qH hM.symm
 have HMs := qH (show M ≤ 600 by omega)
 have q_us : IntKind.u64.wrap ((nd.toNat : Int) + (rs.toNat : Int)) = (us.toNat : Int) := by rw [hus]; exact u64_add nd rs
 have hr48 : ¬ 48 ≤ rs.toNat := by omega
 have q_ow : wrap64 (ow - 1) = (c.toNat : Int) := by rw [how, show (c.toNat : Int) + 1 - 1 = (c.toNat : Int) by omega]; exact IntWalk.wrap64_in _ (by omega)
 have q_ow2 : IntKind.i64.wrap (ow - 1) = (c.toNat : Int) := by rw [IntWalk.i64_left]; exact q_ow
 have d_o1 : decide (ow < 0) = false := decide_eq_false (by omega)
 have d_o2 : decide (8 < ow) = false := decide_eq_false (by omega)
 have d_o3 : decide (0 < ow) = true := decide_eq_true (by omega)
 have HC := qH (And.intro hc how)
 clear hc how
 clear hT0 hW0 hl hF F3 huo hrs hpk hbm hys hu8 hup hM hk3 hM1 eup hz3 hm3 hs3 hr hus
 have hp0 := hp
 clear hp
 have hst := qH (Step.refl S w)
 go_enter Tryz.func62, Tryz.ntmps62
 go_wp2_with fail
 refine (HF.out).mono ?_
 rintro _ W1 ⟨rfl, kn⟩
 replace hst := sN hst kn
 replace hT := qH (hT.out.nil kn)
 clear kn
 obtain ⟨W2, hW2⟩ := nm (W1.alloc (.cells #[.int .u64 (bo.toNat : Int), .int .u64 (pd.toNat : Int), .int .u64 (nd.toNat : Int)] 57))
 obtain ⟨B1, eB1⟩ := nm (W1.heap.size)
 go_wp2_with fail
 rw [← hW2.out]
 try rw [← eB1.out]
 have k1 := kA hW2
 have e0B1 := eB1.out
 have hB1 := zB hW2 (Bx.new hT.out.lt _ _ e0B1)
 have gB1 := gZ e0B1 hst
 replace hst := sN hst k1
 replace hT := qH (hT.out.nil k1)
 clear k1 e0B1
 refine (hT.out.reads.loadC bo _ rfl).mono ?_
 rintro _ W3 ⟨rfl, kn⟩
 rw [HPK.out]
 replace hst := sN hst kn
 replace hT := qH (hT.out.nil kn)
 replace hB1 := bN hB1 kn
 clear kn
 go_wp2_with fail
 refine (Unpack_any _ pk).mono ?_
 rintro _ W4 ⟨rfl, kn⟩
 rw [HUN.out.1, HUN.out.2, TagV.cells_def]
 replace hst := sN hst kn
 replace hT := qH (hT.out.nil kn)
 replace hB1 := bN hB1 kn
 clear kn
 have c_B1_0 := cB hB1 0
 have l_B1 := hB1.out.lt
 obtain ⟨W5, hW5⟩ := nm (W4.alloc (.cells #[.int .u64 (bs.toNat : Int), .bool false, .int .i64 bw] 35))
 obtain ⟨B2, eB2⟩ := nm (W4.heap.size)
 go_wp2_with fail
 clear c_B1_0 l_B1
 rw [← hW5.out]
 try rw [← eB2.out]
 have k2 := kA hW5
 have e0B2 := eB2.out
 have hB2 := zB hW5 (Bx.new hT.out.lt _ _ e0B2)
 have gB2 := gZ e0B2 hst
 have nB1B2 := nZ e0B2 hB1
 replace hst := sN hst k2
 replace hT := qH (hT.out.nil k2)
 replace hB1 := bN hB1 k2
 clear k2 e0B2
 obtain ⟨fa, ra, hIa, hWa⟩ := hW.out.cut HL.out rfl
 replace hIa := qH hIa
 obtain ⟨f1, ef1⟩ : ∃ g, g = PT.stF 4800 fa 32 ra := ⟨_, rfl⟩
 rw [← ef1] at hWa
 replace hW := qH hWa
 clear hWa
 refine (Delete_any hIa.out hT.out).mono ?_
 rintro _ W6 ⟨rfl, S1, hT2, kn⟩
 rw [if_pos rfl, ← ef1] at hT2
 clear ef1 hIa
 replace hst := sT hst kn
 replace hB1 := bS hB1 kn
 replace hB2 := bS hB2 kn
 replace hT := qH hT2
 clear kn hT2
 go_wp2_with fail
 obtain ⟨W7, hW7⟩ := nm (W6.drew)
 have kn := kD hW7
 replace hst := sN hst kn
 replace hT := qH (hT.out.nil kn)
 replace hB1 := bN hB1 kn
 replace hB2 := bN hB2 kn
 clear kn
 refine wp_region_held_drew (S := fun w' => w'.cell? ⟨B1, 0, none⟩ = some (.int .u64 (bo.toNat : Int)) ∧ w'.cell? ⟨B1, 1, none⟩ = some (.int .u64 (pd.toNat : Int)) ∧ w'.cell? ⟨B1, 2, none⟩ = some (.int .u64 (nd.toNat : Int))) (by kernel_rfl) (by rw [← hW7.out]; exact ⟨cB hB1 0, cB hB1 1, cB hB1 2⟩) (fun hHeld => ?_)
 rw [← hW7.out] at hHeld ⊢
 refine fT 0 rfl hHeld ?_
 try simp only [Act.put, List.getElem_toArray, List.getElem_cons_zero, List.setIfInBounds_toArray, List.set_cons_zero, List.set_cons_succ]
 refine fT 1 rfl hHeld ?_; try simp only [sP,sQ]
 refine fT 2 rfl hHeld ?_; try simp only [sP,sQ]
 refine fT 3 rfl hHeld ?_; try simp only [sP,sQ]
 refine fT 4 rfl hHeld ?_; try simp only [sP,sQ]
 refine fT 5 rfl hHeld ?_; try simp only [sP,sQ]
 refine fT 6 rfl hHeld ?_; try simp only [sP,sQ]
 refine fT 7 rfl hHeld ?_; try simp only [sP,sQ]
 refine fT 8 rfl hHeld ?_; try simp only [sP,sQ]
 refine fD ?_
 clear hHeld
 have d1 : decide (0 < pd.toNat) = false := decide_eq_false (hp0)
 have d2 : decide (48 ≤ rs.toNat) = false := decide_eq_false (hr48)
 have c_B1_0 := cB hB1 0
 have c_B1_1 := cB hB1 1
 have c_B1_2 := cB hB1 2
 have l_B1 := hB1.out.lt
 have c_B2_0 := cB hB2 0
 have l_B2 := hB2.out.lt
 go_wp2_with fail
 clear c_B1_0 c_B1_1 c_B1_2 l_B1 c_B2_0 l_B2
 have hJw := qH (HF3.out.inT hW.out.e16)
 obtain ⟨f2, ef2⟩ : ∃ g, g = tagF 4800 f1 uo ⟨us, true, ow⟩ := ⟨_, rfl⟩
 refine (tWrite_any hT.out uo ⟨us, true, ow⟩ HI3.out.1 hJw.out).mono ?_
 rintro _ W8 ⟨rfl, S2, hT2, kn⟩
 rw [← ef2] at hT2
 replace ef2 := qH ef2
 clear hJw
 replace hst := sT hst kn
 replace hB1 := bS hB1 kn
 replace hB2 := bS hB2 kn
 replace hT := qH hT2
 clear kn hT2
 go_wp2_with fail
 obtain ⟨f3, ef3⟩ : ∃ g, g = PT.stF 4800 f2 u8 n := ⟨_, rfl⟩
 refine (hT.out.store u8 n _ _ rfl rfl).mono ?_
 rintro _ W9 ⟨rfl, S3, hT2, kn⟩
 rw [← ef3] at hT2
 replace ef3 := qH ef3
 replace hst := sT hst kn
 replace hB1 := bS hB1 kn
 replace hB2 := bS hB2 kn
 replace hT := qH hT2
 clear kn hT2
 go_wp2_with fail
 obtain ⟨f4, ef4⟩ : ∃ g, g = linkF 4800 f3 c uo := ⟨_, rfl⟩
 refine (Link_any hT.out c uo HC.out.1).mono ?_
 rintro _ W10 ⟨rfl, S4, hT2, kn⟩
 rw [← ef4] at hT2
 replace ef4 := qH ef4
 replace hst := sT hst kn
 replace hB1 := bS hB1 kn
 replace hB2 := bS hB2 kn
 replace hT := qH hT2
 clear kn hT2
 go_wp2_with fail
 refine (Words_any _ n).mono ?_
 rintro _ _ ⟨rfl, rfl⟩
 rw [HMM.out]
 go_wp2_with fail
 clear hB1
 clear hB2
 go_wp2_with fail
 go_loopw [102] (fun i wr => ∃ (k : Nat) (Sa : Nat → Prop), k ≤ M ∧ i = .int .u64 (k : Int) ∧ Hid (Step S Sa w wr) ∧ Hid (TxF wr t (zeroF 4800 f4 up k) 4800 Sa)) (fun i _ => M - (intOf i).toNat)
 case atStart => exact ⟨0, _, Nat.zero_le _, rfl, hst, hT⟩
 case round =>
  clear hst hT
  obtain ⟨k, Sa, hk, rfl, hst, hT⟩ := hrel
  by_cases hlt : k < M
  ·obtain ⟨k1, hk1⟩ : ∃ n, n = k + 1 := ⟨_, rfl⟩
   obtain ⟨k8, hk8⟩ : ∃ n, n = 8 * k := ⟨_, rfl⟩
   obtain ⟨yk, hyk⟩ : ∃ y, y = up + 8 * UInt64.ofNat k := ⟨_, rfl⟩
   have hMs := HMs.out
   have hup4 : up.toNat + 8 * M ≤ 4800 := by have h := HU.out.2.2.2; omega
   have eyk : yk.toNat = up.toNat + k8 := by rw [hyk, UInt64.toNat_add, UInt64.toNat_mul, UInt64.toNat_ofNat', show (8 : UInt64).toNat = 8 from rfl]; omega
   have q_k1 : IntKind.u64.wrap ((k : Int) + 1) = (k1 : Int) := by rw [IntWalk.u64_in _ (by omega)]; omega
   have q_k8 : IntKind.u64.wrap (8 * (k : Int)) = (k8 : Int) := by rw [IntWalk.u64_in _ (by omega)]; omega
   have q_yk : IntKind.u64.wrap ((up.toNat : Int) + (k8 : Int)) = (yk.toNat : Int) := by rw [IntWalk.u64_in _ (by omega)]; omega
   have HZ1 := qH (show PT.stF 4800 (zeroF 4800 f4 up k) yk 0 = zeroF 4800 f4 up k1 by rw [hk1, hyk]; rfl)
   have HK := qH (And.intro hk1 hlt)
   have d_k : decide ((k : Int) < (M : Int)) = true := decide_eq_true (by omega)
   clear hk1 hk8 hyk eyk hup4 hMs
   go_wp2_with fail
   refine (hT.out.store yk 0 _ 0 rfl rfl).mono ?_
   rintro _ W12 ⟨rfl, S5, hT2, kn⟩
   rw [HZ1.out] at hT2
   replace hst := sT hst kn
   replace hT := qH hT2
   clear kn hT2
   go_wp2_with fail
   go_roundw
   case rel => exact ⟨k1, _, by have := HK.out; omega, rfl, hst, hT⟩
   case measure => simp only [intOf]; clear q_k1 q_k8 q_yk; have h1 := HK.out; omega
  ·have hkM : k = M := by omega
   subst hkM
   have d_k : decide ((k : Int) < (k : Int)) = false := decide_eq_false (by omega)
   go_wp2_with fail
   go_ret2
   have hfin := hW.out.useL HF3.out rfl HC.out.1 HC.out.2
   have hfe : f3 = useF f1 (⟨uo, ⟨us, true, ow⟩, n⟩ : BlockV) := by rw [ef3.out, ef2.out, HU.out.1]; rfl
   refine ⟨rfl, _, _, hT.out, ?_, hst.out⟩
   rw [HU.out.2.1, HU.out.2.2.1, ef4.out, hfe]
   exact hfin
theorem Take_010 {w : World} {t : Nat} {S : Nat → Prop} {f : UInt64 → UInt64} {e : UInt64} {A C : List BlockV} {bo bs bl pd nd rs uo us ro n a : UInt64} {bw : Int} {h3 h4 h5 h6 : Nat} {Ls : Nat → List UInt64} {K : UInt64 → UInt64 → Prop} (hT0 : TxF w t f 4800 S)
  (hW0 : Wd f e (A ++ ⟨bo, ⟨bs, false, bw⟩, bl⟩ :: C) Ls K)
  (hl : Lay e.toNat (A ++ ⟨bo, ⟨bs, false, bw⟩, bl⟩ :: C))
  (hF : Calls Tryz.prog 39 #[.pointer (some ⟨t, 0, none⟩), .int .u64 (n.toNat : Int), .int .u64 (a.toNat : Int)] w fun e' w' => e' = .returned (.tuple #[.agg #[.int .u64 (bo.toNat : Int), .int .u64 (pd.toNat : Int), .int .u64 (nd.toNat : Int)], .int .i64 0]) ∧ Keeps Nil w w')
  (huo : uo = bo + pd)
  (hrs : rs = bs - pd - nd)
  (hp : ¬ 0 < pd.toNat)
  (hr : ¬ rs.toNat < 48)
  (hro : ro = uo + nd)
  (hus : us = nd)
  (F2 : Fits e.toNat h3 h4 A C ⟨ro, ⟨rs, false, 0⟩, 0⟩)
  (F3 : Fits e.toNat h5 h6 A (⟨ro, ⟨rs, false, 0⟩, 0⟩ :: C) ⟨uo, ⟨us, true, 0⟩, n⟩) :
  Calls Tryz.prog 62 #[.pointer (some ⟨t, 0, none⟩), .int .i64 0, .int .u64 (n.toNat : Int), .int .u64 (a.toNat : Int)] w fun e' w' => e' = .returned (.tuple #[.int .u64 ((uo + 32).toNat : Int), .int .i64 0]) ∧
   ∃ f' S', TxF w' t f' 4800 S' ∧ Wd f' e (A ++ ⟨uo, ⟨us, true, 0⟩, n⟩ :: (⟨ro, ⟨rs, false, 0⟩, 0⟩ :: C)) (updO Ls ⟨uo, ⟨us, true, 0⟩, n⟩) (zeroK ⟨uo, ⟨us, true, 0⟩, n⟩ K) ∧ Step S S' w w' := by
 have hT := qH hT0
 have hW := qH hW0
 have hbm : (⟨bo, ⟨bs, false, bw⟩, bl⟩ : BlockV) ∈ A ++ ⟨bo, ⟨bs, false, bw⟩, bl⟩ :: C := by simp
 obtain ⟨pk, hpk⟩ : ∃ x, x = packU ⟨bs, false, bw⟩ := ⟨_, rfl⟩
 have HPK := qH (show f bo = pk by rw [hpk]; exact (hW0.tags _ hbm).1)
 have HUN := qH (show unpackT pk = ⟨bs, false, bw⟩ ∧ isTag pk = true by rw [hpk]; exact ⟨unpack_pack (hl.ok _ hbm).1.1, isTag_pack (hl.ok _ hbm).1.1⟩)
 have HL := qH hl
 have HF := qH hF
 have HF3 := qH F3
 have HI3 := qH (show mayT ⟨us, true, 0⟩ = true ∧ uo.toNat % 16 = 0 ∧ (⟨uo, ⟨us, true, 0⟩, n⟩ : BlockV).z ≤ 4800 from ⟨F3.ok.1, F3.mod, (F3.lay.nums F3.mem).2.2.2.2.2⟩)
 have hz3 : uo.toNat + us.toNat ≤ 4800 := HI3.out.2.2
 have hm3 : uo.toNat % 16 = 0 := HI3.out.2.1
 have hs3 : 48 ≤ us.toNat := F3.ok.sz.1
 obtain ⟨ys, hys⟩ : ∃ y, y = bs - pd := ⟨_, rfl⟩
 obtain ⟨u8, hu8⟩ : ∃ y, y = uo + 8 := ⟨_, rfl⟩
 obtain ⟨up, hup⟩ : ∃ y, y = uo + 32 := ⟨_, rfl⟩
 obtain ⟨M, hM⟩ : ∃ M, M = wordsN n := ⟨_, rfl⟩
 have hk3 : needB n = true ∧ (needU n).toNat ≤ us.toNat := by have := F3.ok.2; rw [if_pos rfl] at this; exact this
 have hM1 : 40 + 8 * M ≤ us.toNat := by have := (need_words hk3.1).1; rw [hM]; omega
 have eup : up.toNat = uo.toNat + 32 := by rw [hup, UInt64.toNat_add, show (32 : UInt64).toNat = 32 from rfl]; omega
 have q_uo : IntKind.u64.wrap ((bo.toNat : Int) + (pd.toNat : Int)) = (uo.toNat : Int) := by rw [huo]; exact u64_add bo pd
 have q_ys : IntKind.u64.wrap ((bs.toNat : Int) - (pd.toNat : Int)) = (ys.toNat : Int) := by rw [hys]; exact u64_sub bs pd
 have q_rs : IntKind.u64.wrap ((ys.toNat : Int) - (nd.toNat : Int)) = (rs.toNat : Int) := by rw [hrs, ← hys]; exact u64_sub ys nd
 have q_u8 : IntKind.u64.wrap ((uo.toNat : Int) + 8) = (u8.toNat : Int) := by rw [hu8]; exact u64_add uo 8
 have q_up : IntKind.u64.wrap ((uo.toNat : Int) + 32) = (up.toNat : Int) := by rw [hup]; exact u64_add uo 32
 rw [← hup]
 have HU := qH (And.intro hu8 (And.intro hup (And.intro hM (And.intro hM1 (And.intro eup hz3)))))
 have HMM := qH hM.symm
 have HMs := qH (show M ≤ 600 by omega)
 have HF2 := qH F2
 clear F2
 have q_ro : IntKind.u64.wrap ((uo.toNat : Int) + (nd.toNat : Int)) = (ro.toNat : Int) := by rw [hro]; exact u64_add uo nd
 subst hus
 have hr48 : 48 ≤ rs.toNat := by omega
 clear hT0 hW0 hl hF F3 huo hrs hpk hbm hys hu8 hup hM hk3 hM1 eup hz3 hm3 hs3 hr hro
 have hp0 := hp
 clear hp
 have hst := qH (Step.refl S w)
 go_enter Tryz.func62, Tryz.ntmps62
 go_wp2_with fail
 refine (HF.out).mono ?_
 rintro _ W1 ⟨rfl, kn⟩
 replace hst := sN hst kn
 replace hT := qH (hT.out.nil kn)
 clear kn
 obtain ⟨W2, hW2⟩ := nm (W1.alloc (.cells #[.int .u64 (bo.toNat : Int), .int .u64 (pd.toNat : Int), .int .u64 (us.toNat : Int)] 57))
 obtain ⟨B1, eB1⟩ := nm (W1.heap.size)
 go_wp2_with fail
 rw [← hW2.out]
 try rw [← eB1.out]
 have k1 := kA hW2
 have e0B1 := eB1.out
 have hB1 := zB hW2 (Bx.new hT.out.lt _ _ e0B1)
 have gB1 := gZ e0B1 hst
 replace hst := sN hst k1
 replace hT := qH (hT.out.nil k1)
 clear k1 e0B1
 refine (hT.out.reads.loadC bo _ rfl).mono ?_
 rintro _ W3 ⟨rfl, kn⟩
 rw [HPK.out]
 replace hst := sN hst kn
 replace hT := qH (hT.out.nil kn)
 replace hB1 := bN hB1 kn
 clear kn
 go_wp2_with fail
 refine (Unpack_any _ pk).mono ?_
 rintro _ W4 ⟨rfl, kn⟩
 rw [HUN.out.1, HUN.out.2, TagV.cells_def]
 replace hst := sN hst kn
 replace hT := qH (hT.out.nil kn)
 replace hB1 := bN hB1 kn
 clear kn
 have c_B1_0 := cB hB1 0
 have l_B1 := hB1.out.lt
 obtain ⟨W5, hW5⟩ := nm (W4.alloc (.cells #[.int .u64 (bs.toNat : Int), .bool false, .int .i64 bw] 35))
 obtain ⟨B2, eB2⟩ := nm (W4.heap.size)
 go_wp2_with fail
 clear c_B1_0 l_B1
 rw [← hW5.out]
 try rw [← eB2.out]
 have k2 := kA hW5
 have e0B2 := eB2.out
 have hB2 := zB hW5 (Bx.new hT.out.lt _ _ e0B2)
 have gB2 := gZ e0B2 hst
 have nB1B2 := nZ e0B2 hB1
 replace hst := sN hst k2
 replace hT := qH (hT.out.nil k2)
 replace hB1 := bN hB1 k2
 clear k2 e0B2
 obtain ⟨fa, ra, hIa, hWa⟩ := hW.out.cut HL.out rfl
 replace hIa := qH hIa
 obtain ⟨f1, ef1⟩ : ∃ g, g = PT.stF 4800 fa 32 ra := ⟨_, rfl⟩
 rw [← ef1] at hWa
 replace hW := qH hWa
 clear hWa
 refine (Delete_any hIa.out hT.out).mono ?_
 rintro _ W6 ⟨rfl, S1, hT2, kn⟩
 rw [if_pos rfl, ← ef1] at hT2
 clear ef1 hIa
 replace hst := sT hst kn
 replace hB1 := bS hB1 kn
 replace hB2 := bS hB2 kn
 replace hT := qH hT2
 clear kn hT2
 go_wp2_with fail
 obtain ⟨W7, hW7⟩ := nm (W6.drew)
 have kn := kD hW7
 replace hst := sN hst kn
 replace hT := qH (hT.out.nil kn)
 replace hB1 := bN hB1 kn
 replace hB2 := bN hB2 kn
 clear kn
 refine wp_region_held_drew (S := fun w' => w'.cell? ⟨B1, 0, none⟩ = some (.int .u64 (bo.toNat : Int)) ∧ w'.cell? ⟨B1, 1, none⟩ = some (.int .u64 (pd.toNat : Int)) ∧ w'.cell? ⟨B1, 2, none⟩ = some (.int .u64 (us.toNat : Int))) (by kernel_rfl) (by rw [← hW7.out]; exact ⟨cB hB1 0, cB hB1 1, cB hB1 2⟩) (fun hHeld => ?_)
 rw [← hW7.out] at hHeld ⊢
 refine fT 0 rfl hHeld ?_
 try simp only [Act.put, List.getElem_toArray, List.getElem_cons_zero, List.setIfInBounds_toArray, List.set_cons_zero, List.set_cons_succ]
 refine fT 1 rfl hHeld ?_; try simp only [sP,sQ]
 refine fT 2 rfl hHeld ?_; try simp only [sP,sQ]
 refine fT 3 rfl hHeld ?_; try simp only [sP,sQ]
 refine fT 4 rfl hHeld ?_; try simp only [sP,sQ]
 refine fT 5 rfl hHeld ?_; try simp only [sP,sQ]
 refine fT 6 rfl hHeld ?_; try simp only [sP,sQ]
 refine fT 7 rfl hHeld ?_; try simp only [sP,sQ]
 refine fT 8 rfl hHeld ?_; try simp only [sP,sQ]
 refine fD ?_
 clear hHeld
 have d1 : decide (0 < pd.toNat) = false := decide_eq_false (hp0)
 have d2 : decide (48 ≤ rs.toNat) = true := decide_eq_true (hr48)
 have c_B1_0 := cB hB1 0
 have c_B1_1 := cB hB1 1
 have c_B1_2 := cB hB1 2
 have l_B1 := hB1.out.lt
 have c_B2_0 := cB hB2 0
 have l_B2 := hB2.out.lt
 go_wp2_with fail
 clear c_B1_0 c_B1_1 c_B1_2 l_B1 c_B2_0 l_B2
 obtain ⟨fb, rb, hIb, hWb⟩ := hW.out.put HF2.out rfl
 have hJb := qH (HF2.out.inT hW.out.e16)
 replace hIb := qH hIb
 obtain ⟨f2, ef2⟩ : ∃ g, g = PT.stF 4800 fb 32 rb := ⟨_, rfl⟩
 rw [← ef2] at hWb
 replace hW := qH hWb
 clear hWb
 refine (cfree_any hT.out ro rs HF2.out.ok.1 hJb.out hIb.out).mono ?_
 rintro _ W8 ⟨rfl, S2, hT2, kn⟩
 rw [← ef2] at hT2
 clear ef2 hIb hJb
 replace hst := sT hst kn
 replace hB1 := bS hB1 kn
 replace hB2 := bS hB2 kn
 replace hT := qH hT2
 clear kn hT2
 go_wp2_with fail
 have hJw := qH (HF3.out.inT hW.out.e16)
 obtain ⟨f3, ef3⟩ : ∃ g, g = tagF 4800 f2 uo ⟨us, true, 0⟩ := ⟨_, rfl⟩
 refine (tWrite_any hT.out uo ⟨us, true, 0⟩ HI3.out.1 hJw.out).mono ?_
 rintro _ W9 ⟨rfl, S3, hT2, kn⟩
 rw [← ef3] at hT2
 replace ef3 := qH ef3
 clear hJw
 replace hst := sT hst kn
 replace hB1 := bS hB1 kn
 replace hB2 := bS hB2 kn
 replace hT := qH hT2
 clear kn hT2
 go_wp2_with fail
 obtain ⟨f4, ef4⟩ : ∃ g, g = PT.stF 4800 f3 u8 n := ⟨_, rfl⟩
 refine (hT.out.store u8 n _ _ rfl rfl).mono ?_
 rintro _ W10 ⟨rfl, S4, hT2, kn⟩
 rw [← ef4] at hT2
 replace ef4 := qH ef4
 replace hst := sT hst kn
 replace hB1 := bS hB1 kn
 replace hB2 := bS hB2 kn
 replace hT := qH hT2
 clear kn hT2
 go_wp2_with fail
 refine (Words_any _ n).mono ?_
 rintro _ _ ⟨rfl, rfl⟩
 rw [HMM.out]
 go_wp2_with fail
 clear hB1
 clear hB2
 go_wp2_with fail
 go_loopw [102] (fun i wr => ∃ (k : Nat) (Sa : Nat → Prop), k ≤ M ∧ i = .int .u64 (k : Int) ∧ Hid (Step S Sa w wr) ∧ Hid (TxF wr t (zeroF 4800 f4 up k) 4800 Sa)) (fun i _ => M - (intOf i).toNat)
 case atStart => exact ⟨0, _, Nat.zero_le _, rfl, hst, hT⟩
 case round =>
  clear hst hT
  obtain ⟨k, Sa, hk, rfl, hst, hT⟩ := hrel
  by_cases hlt : k < M
  ·obtain ⟨k1, hk1⟩ : ∃ n, n = k + 1 := ⟨_, rfl⟩
   obtain ⟨k8, hk8⟩ : ∃ n, n = 8 * k := ⟨_, rfl⟩
   obtain ⟨yk, hyk⟩ : ∃ y, y = up + 8 * UInt64.ofNat k := ⟨_, rfl⟩
   have hMs := HMs.out
   have hup4 : up.toNat + 8 * M ≤ 4800 := by have h := HU.out.2.2.2; omega
   have eyk : yk.toNat = up.toNat + k8 := by rw [hyk, UInt64.toNat_add, UInt64.toNat_mul, UInt64.toNat_ofNat', show (8 : UInt64).toNat = 8 from rfl]; omega
   have q_k1 : IntKind.u64.wrap ((k : Int) + 1) = (k1 : Int) := by rw [IntWalk.u64_in _ (by omega)]; omega
   have q_k8 : IntKind.u64.wrap (8 * (k : Int)) = (k8 : Int) := by rw [IntWalk.u64_in _ (by omega)]; omega
   have q_yk : IntKind.u64.wrap ((up.toNat : Int) + (k8 : Int)) = (yk.toNat : Int) := by rw [IntWalk.u64_in _ (by omega)]; omega
   have HZ1 := qH (show PT.stF 4800 (zeroF 4800 f4 up k) yk 0 = zeroF 4800 f4 up k1 by rw [hk1, hyk]; rfl)
   have HK := qH (And.intro hk1 hlt)
   have d_k : decide ((k : Int) < (M : Int)) = true := decide_eq_true (by omega)
   clear hk1 hk8 hyk eyk hup4 hMs
   go_wp2_with fail
   refine (hT.out.store yk 0 _ 0 rfl rfl).mono ?_
   rintro _ W12 ⟨rfl, S5, hT2, kn⟩
   rw [HZ1.out] at hT2
   replace hst := sT hst kn
   replace hT := qH hT2
   clear kn hT2
   go_wp2_with fail
   go_roundw
   case rel => exact ⟨k1, _, by have := HK.out; omega, rfl, hst, hT⟩
   case measure => simp only [intOf]; clear q_k1 q_k8 q_yk; have h1 := HK.out; omega
  ·have hkM : k = M := by omega
   subst hkM
   have d_k : decide ((k : Int) < (k : Int)) = false := decide_eq_false (by omega)
   go_wp2_with fail
   go_ret2
   have hfin := hW.out.use0 HF3.out rfl rfl
   have hfe : f4 = useF f2 (⟨uo, ⟨us, true, 0⟩, n⟩ : BlockV) := by rw [ef4.out, ef3.out, HU.out.1]; rfl
   refine ⟨rfl, _, _, hT.out, ?_, hst.out⟩
   rw [HU.out.2.1, HU.out.2.2.1, hfe]
   exact hfin
theorem Take_011 {w : World} {t : Nat} {S : Nat → Prop} {f : UInt64 → UInt64} {e : UInt64} {A C : List BlockV} {bo bs bl pd nd rs uo us ro n a c : UInt64} {bw ow : Int} {h3 h4 h5 h6 : Nat} {Ls : Nat → List UInt64} {K : UInt64 → UInt64 → Prop} (hT0 : TxF w t f 4800 S)
  (hW0 : Wd f e (A ++ ⟨bo, ⟨bs, false, bw⟩, bl⟩ :: C) Ls K)
  (hl : Lay e.toNat (A ++ ⟨bo, ⟨bs, false, bw⟩, bl⟩ :: C))
  (hF : Calls Tryz.prog 39 #[.pointer (some ⟨t, 0, none⟩), .int .u64 (n.toNat : Int), .int .u64 (a.toNat : Int)] w fun e' w' => e' = .returned (.tuple #[.agg #[.int .u64 (bo.toNat : Int), .int .u64 (pd.toNat : Int), .int .u64 (nd.toNat : Int)], .int .i64 0]) ∧ Keeps Nil w w')
  (huo : uo = bo + pd)
  (hrs : rs = bs - pd - nd)
  (hp : ¬ 0 < pd.toNat)
  (hr : ¬ rs.toNat < 48)
  (hro : ro = uo + nd)
  (hus : us = nd)
  (F2 : Fits e.toNat h3 h4 A C ⟨ro, ⟨rs, false, 0⟩, 0⟩)
  (F3 : Fits e.toNat h5 h6 A (⟨ro, ⟨rs, false, 0⟩, 0⟩ :: C) ⟨uo, ⟨us, true, ow⟩, n⟩)
  (hc : c.toNat < 8)
  (how : ow = (c.toNat : Int) + 1) :
  Calls Tryz.prog 62 #[.pointer (some ⟨t, 0, none⟩), .int .i64 ow, .int .u64 (n.toNat : Int), .int .u64 (a.toNat : Int)] w fun e' w' => e' = .returned (.tuple #[.int .u64 ((uo + 32).toNat : Int), .int .i64 0]) ∧
   ∃ f' S', TxF w' t f' 4800 S' ∧ Wd f' e (A ++ ⟨uo, ⟨us, true, ow⟩, n⟩ :: (⟨ro, ⟨rs, false, 0⟩, 0⟩ :: C)) (updO Ls ⟨uo, ⟨us, true, ow⟩, n⟩) (zeroK ⟨uo, ⟨us, true, ow⟩, n⟩ K) ∧ Step S S' w w' := by
 have hT := qH hT0
 have hW := qH hW0
 have hbm : (⟨bo, ⟨bs, false, bw⟩, bl⟩ : BlockV) ∈ A ++ ⟨bo, ⟨bs, false, bw⟩, bl⟩ :: C := by simp
 obtain ⟨pk, hpk⟩ : ∃ x, x = packU ⟨bs, false, bw⟩ := ⟨_, rfl⟩
 have HPK := qH (show f bo = pk by rw [hpk]; exact (hW0.tags _ hbm).1)
 have HUN := qH (show unpackT pk = ⟨bs, false, bw⟩ ∧ isTag pk = true by rw [hpk]; exact ⟨unpack_pack (hl.ok _ hbm).1.1, isTag_pack (hl.ok _ hbm).1.1⟩)
 have HL := qH hl
 have HF := qH hF
 have HF3 := qH F3
 have HI3 := qH (show mayT ⟨us, true, ow⟩ = true ∧ uo.toNat % 16 = 0 ∧ (⟨uo, ⟨us, true, ow⟩, n⟩ : BlockV).z ≤ 4800 from ⟨F3.ok.1, F3.mod, (F3.lay.nums F3.mem).2.2.2.2.2⟩)
 have hz3 : uo.toNat + us.toNat ≤ 4800 := HI3.out.2.2
 have hm3 : uo.toNat % 16 = 0 := HI3.out.2.1
 have hs3 : 48 ≤ us.toNat := F3.ok.sz.1
 obtain ⟨ys, hys⟩ : ∃ y, y = bs - pd := ⟨_, rfl⟩
 obtain ⟨u8, hu8⟩ : ∃ y, y = uo + 8 := ⟨_, rfl⟩
 obtain ⟨up, hup⟩ : ∃ y, y = uo + 32 := ⟨_, rfl⟩
 obtain ⟨M, hM⟩ : ∃ M, M = wordsN n := ⟨_, rfl⟩
 have hk3 : needB n = true ∧ (needU n).toNat ≤ us.toNat := by have := F3.ok.2; rw [if_pos rfl] at this; exact this
 have hM1 : 40 + 8 * M ≤ us.toNat := by have := (need_words hk3.1).1; rw [hM]; omega
 have eup : up.toNat = uo.toNat + 32 := by rw [hup, UInt64.toNat_add, show (32 : UInt64).toNat = 32 from rfl]; omega
 have q_uo : IntKind.u64.wrap ((bo.toNat : Int) + (pd.toNat : Int)) = (uo.toNat : Int) := by rw [huo]; exact u64_add bo pd
 have q_ys : IntKind.u64.wrap ((bs.toNat : Int) - (pd.toNat : Int)) = (ys.toNat : Int) := by rw [hys]; exact u64_sub bs pd
 have q_rs : IntKind.u64.wrap ((ys.toNat : Int) - (nd.toNat : Int)) = (rs.toNat : Int) := by rw [hrs, ← hys]; exact u64_sub ys nd
 have q_u8 : IntKind.u64.wrap ((uo.toNat : Int) + 8) = (u8.toNat : Int) := by rw [hu8]; exact u64_add uo 8
 have q_up : IntKind.u64.wrap ((uo.toNat : Int) + 32) = (up.toNat : Int) := by rw [hup]; exact u64_add uo 32
 rw [← hup]
 have HU := qH (And.intro hu8 (And.intro hup (And.intro hM (And.intro hM1 (And.intro eup hz3)))))
 have HMM := qH hM.symm
 have HMs := qH (show M ≤ 600 by omega)
 have HF2 := qH F2
 clear F2
 have q_ro : IntKind.u64.wrap ((uo.toNat : Int) + (nd.toNat : Int)) = (ro.toNat : Int) := by rw [hro]; exact u64_add uo nd
 subst hus
 have hr48 : 48 ≤ rs.toNat := by omega
 have q_ow : wrap64 (ow - 1) = (c.toNat : Int) := by rw [how, show (c.toNat : Int) + 1 - 1 = (c.toNat : Int) by omega]; exact IntWalk.wrap64_in _ (by omega)
 have q_ow2 : IntKind.i64.wrap (ow - 1) = (c.toNat : Int) := by rw [IntWalk.i64_left]; exact q_ow
 have d_o1 : decide (ow < 0) = false := decide_eq_false (by omega)
 have d_o2 : decide (8 < ow) = false := decide_eq_false (by omega)
 have d_o3 : decide (0 < ow) = true := decide_eq_true (by omega)
 have HC := qH (And.intro hc how)
 clear hc how
 clear hT0 hW0 hl hF F3 huo hrs hpk hbm hys hu8 hup hM hk3 hM1 eup hz3 hm3 hs3 hr hro
 have hp0 := hp
 clear hp
 have hst := qH (Step.refl S w)
 go_enter Tryz.func62, Tryz.ntmps62
 go_wp2_with fail
 refine (HF.out).mono ?_
 rintro _ W1 ⟨rfl, kn⟩
 replace hst := sN hst kn
 replace hT := qH (hT.out.nil kn)
 clear kn
 obtain ⟨W2, hW2⟩ := nm (W1.alloc (.cells #[.int .u64 (bo.toNat : Int), .int .u64 (pd.toNat : Int), .int .u64 (us.toNat : Int)] 57))
 obtain ⟨B1, eB1⟩ := nm (W1.heap.size)
 go_wp2_with fail
 rw [← hW2.out]
 try rw [← eB1.out]
 have k1 := kA hW2
 have e0B1 := eB1.out
 have hB1 := zB hW2 (Bx.new hT.out.lt _ _ e0B1)
 have gB1 := gZ e0B1 hst
 replace hst := sN hst k1
 replace hT := qH (hT.out.nil k1)
 clear k1 e0B1
 refine (hT.out.reads.loadC bo _ rfl).mono ?_
 rintro _ W3 ⟨rfl, kn⟩
 rw [HPK.out]
 replace hst := sN hst kn
 replace hT := qH (hT.out.nil kn)
 replace hB1 := bN hB1 kn
 clear kn
 go_wp2_with fail
 refine (Unpack_any _ pk).mono ?_
 rintro _ W4 ⟨rfl, kn⟩
 rw [HUN.out.1, HUN.out.2, TagV.cells_def]
 replace hst := sN hst kn
 replace hT := qH (hT.out.nil kn)
 replace hB1 := bN hB1 kn
 clear kn
 have c_B1_0 := cB hB1 0
 have l_B1 := hB1.out.lt
 obtain ⟨W5, hW5⟩ := nm (W4.alloc (.cells #[.int .u64 (bs.toNat : Int), .bool false, .int .i64 bw] 35))
 obtain ⟨B2, eB2⟩ := nm (W4.heap.size)
 go_wp2_with fail
 clear c_B1_0 l_B1
 rw [← hW5.out]
 try rw [← eB2.out]
 have k2 := kA hW5
 have e0B2 := eB2.out
 have hB2 := zB hW5 (Bx.new hT.out.lt _ _ e0B2)
 have gB2 := gZ e0B2 hst
 have nB1B2 := nZ e0B2 hB1
 replace hst := sN hst k2
 replace hT := qH (hT.out.nil k2)
 replace hB1 := bN hB1 k2
 clear k2 e0B2
 obtain ⟨fa, ra, hIa, hWa⟩ := hW.out.cut HL.out rfl
 replace hIa := qH hIa
 obtain ⟨f1, ef1⟩ : ∃ g, g = PT.stF 4800 fa 32 ra := ⟨_, rfl⟩
 rw [← ef1] at hWa
 replace hW := qH hWa
 clear hWa
 refine (Delete_any hIa.out hT.out).mono ?_
 rintro _ W6 ⟨rfl, S1, hT2, kn⟩
 rw [if_pos rfl, ← ef1] at hT2
 clear ef1 hIa
 replace hst := sT hst kn
 replace hB1 := bS hB1 kn
 replace hB2 := bS hB2 kn
 replace hT := qH hT2
 clear kn hT2
 go_wp2_with fail
 obtain ⟨W7, hW7⟩ := nm (W6.drew)
 have kn := kD hW7
 replace hst := sN hst kn
 replace hT := qH (hT.out.nil kn)
 replace hB1 := bN hB1 kn
 replace hB2 := bN hB2 kn
 clear kn
 refine wp_region_held_drew (S := fun w' => w'.cell? ⟨B1, 0, none⟩ = some (.int .u64 (bo.toNat : Int)) ∧ w'.cell? ⟨B1, 1, none⟩ = some (.int .u64 (pd.toNat : Int)) ∧ w'.cell? ⟨B1, 2, none⟩ = some (.int .u64 (us.toNat : Int))) (by kernel_rfl) (by rw [← hW7.out]; exact ⟨cB hB1 0, cB hB1 1, cB hB1 2⟩) (fun hHeld => ?_)
 rw [← hW7.out] at hHeld ⊢
 refine fT 0 rfl hHeld ?_
 try simp only [Act.put, List.getElem_toArray, List.getElem_cons_zero, List.setIfInBounds_toArray, List.set_cons_zero, List.set_cons_succ]
 refine fT 1 rfl hHeld ?_; try simp only [sP,sQ]
 refine fT 2 rfl hHeld ?_; try simp only [sP,sQ]
 refine fT 3 rfl hHeld ?_; try simp only [sP,sQ]
 refine fT 4 rfl hHeld ?_; try simp only [sP,sQ]
 refine fT 5 rfl hHeld ?_; try simp only [sP,sQ]
 refine fT 6 rfl hHeld ?_; try simp only [sP,sQ]
 refine fT 7 rfl hHeld ?_; try simp only [sP,sQ]
 refine fT 8 rfl hHeld ?_; try simp only [sP,sQ]
 refine fD ?_
 clear hHeld
 have d1 : decide (0 < pd.toNat) = false := decide_eq_false (hp0)
 have d2 : decide (48 ≤ rs.toNat) = true := decide_eq_true (hr48)
 have c_B1_0 := cB hB1 0
 have c_B1_1 := cB hB1 1
 have c_B1_2 := cB hB1 2
 have l_B1 := hB1.out.lt
 have c_B2_0 := cB hB2 0
 have l_B2 := hB2.out.lt
 go_wp2_with fail
 clear c_B1_0 c_B1_1 c_B1_2 l_B1 c_B2_0 l_B2
 obtain ⟨fb, rb, hIb, hWb⟩ := hW.out.put HF2.out rfl
 have hJb := qH (HF2.out.inT hW.out.e16)
 replace hIb := qH hIb
 obtain ⟨f2, ef2⟩ : ∃ g, g = PT.stF 4800 fb 32 rb := ⟨_, rfl⟩
 rw [← ef2] at hWb
 replace hW := qH hWb
 clear hWb
 refine (cfree_any hT.out ro rs HF2.out.ok.1 hJb.out hIb.out).mono ?_
 rintro _ W8 ⟨rfl, S2, hT2, kn⟩
 rw [← ef2] at hT2
 clear ef2 hIb hJb
 replace hst := sT hst kn
 replace hB1 := bS hB1 kn
 replace hB2 := bS hB2 kn
 replace hT := qH hT2
 clear kn hT2
 go_wp2_with fail
 have hJw := qH (HF3.out.inT hW.out.e16)
 obtain ⟨f3, ef3⟩ : ∃ g, g = tagF 4800 f2 uo ⟨us, true, ow⟩ := ⟨_, rfl⟩
 refine (tWrite_any hT.out uo ⟨us, true, ow⟩ HI3.out.1 hJw.out).mono ?_
 rintro _ W9 ⟨rfl, S3, hT2, kn⟩
 rw [← ef3] at hT2
 replace ef3 := qH ef3
 clear hJw
 replace hst := sT hst kn
 replace hB1 := bS hB1 kn
 replace hB2 := bS hB2 kn
 replace hT := qH hT2
 clear kn hT2
 go_wp2_with fail
 obtain ⟨f4, ef4⟩ : ∃ g, g = PT.stF 4800 f3 u8 n := ⟨_, rfl⟩
 refine (hT.out.store u8 n _ _ rfl rfl).mono ?_
 rintro _ W10 ⟨rfl, S4, hT2, kn⟩
 rw [← ef4] at hT2
 replace ef4 := qH ef4
 replace hst := sT hst kn
 replace hB1 := bS hB1 kn
 replace hB2 := bS hB2 kn
 replace hT := qH hT2
 clear kn hT2
 go_wp2_with fail
 obtain ⟨f5, ef5⟩ : ∃ g, g = linkF 4800 f4 c uo := ⟨_, rfl⟩
 refine (Link_any hT.out c uo HC.out.1).mono ?_
 rintro _ W11 ⟨rfl, S5, hT2, kn⟩
 rw [← ef5] at hT2
 replace ef5 := qH ef5
 replace hst := sT hst kn
 replace hB1 := bS hB1 kn
 replace hB2 := bS hB2 kn
 replace hT := qH hT2
 clear kn hT2
 go_wp2_with fail
 refine (Words_any _ n).mono ?_
 rintro _ _ ⟨rfl, rfl⟩
 rw [HMM.out]
 go_wp2_with fail
 clear hB1
 clear hB2
 go_wp2_with fail
 go_loopw [102] (fun i wr => ∃ (k : Nat) (Sa : Nat → Prop), k ≤ M ∧ i = .int .u64 (k : Int) ∧ Hid (Step S Sa w wr) ∧ Hid (TxF wr t (zeroF 4800 f5 up k) 4800 Sa)) (fun i _ => M - (intOf i).toNat)
 case atStart => exact ⟨0, _, Nat.zero_le _, rfl, hst, hT⟩
 case round =>
  clear hst hT
  obtain ⟨k, Sa, hk, rfl, hst, hT⟩ := hrel
  by_cases hlt : k < M
  ·obtain ⟨k1, hk1⟩ : ∃ n, n = k + 1 := ⟨_, rfl⟩
   obtain ⟨k8, hk8⟩ : ∃ n, n = 8 * k := ⟨_, rfl⟩
   obtain ⟨yk, hyk⟩ : ∃ y, y = up + 8 * UInt64.ofNat k := ⟨_, rfl⟩
   have hMs := HMs.out
   have hup4 : up.toNat + 8 * M ≤ 4800 := by have h := HU.out.2.2.2; omega
   have eyk : yk.toNat = up.toNat + k8 := by rw [hyk, UInt64.toNat_add, UInt64.toNat_mul, UInt64.toNat_ofNat', show (8 : UInt64).toNat = 8 from rfl]; omega
   have q_k1 : IntKind.u64.wrap ((k : Int) + 1) = (k1 : Int) := by rw [IntWalk.u64_in _ (by omega)]; omega
   have q_k8 : IntKind.u64.wrap (8 * (k : Int)) = (k8 : Int) := by rw [IntWalk.u64_in _ (by omega)]; omega
   have q_yk : IntKind.u64.wrap ((up.toNat : Int) + (k8 : Int)) = (yk.toNat : Int) := by rw [IntWalk.u64_in _ (by omega)]; omega
   have HZ1 := qH (show PT.stF 4800 (zeroF 4800 f5 up k) yk 0 = zeroF 4800 f5 up k1 by rw [hk1, hyk]; rfl)
   have HK := qH (And.intro hk1 hlt)
   have d_k : decide ((k : Int) < (M : Int)) = true := decide_eq_true (by omega)
   clear hk1 hk8 hyk eyk hup4 hMs
   go_wp2_with fail
   refine (hT.out.store yk 0 _ 0 rfl rfl).mono ?_
   rintro _ W13 ⟨rfl, S6, hT2, kn⟩
   rw [HZ1.out] at hT2
   replace hst := sT hst kn
   replace hT := qH hT2
   clear kn hT2
   go_wp2_with fail
   go_roundw
   case rel => exact ⟨k1, _, by have := HK.out; omega, rfl, hst, hT⟩
   case measure => simp only [intOf]; clear q_k1 q_k8 q_yk; have h1 := HK.out; omega
  ·have hkM : k = M := by omega
   subst hkM
   have d_k : decide ((k : Int) < (k : Int)) = false := decide_eq_false (by omega)
   go_wp2_with fail
   go_ret2
   have hfin := hW.out.useL HF3.out rfl HC.out.1 HC.out.2
   have hfe : f4 = useF f2 (⟨uo, ⟨us, true, ow⟩, n⟩ : BlockV) := by rw [ef4.out, ef3.out, HU.out.1]; rfl
   refine ⟨rfl, _, _, hT.out, ?_, hst.out⟩
   rw [HU.out.2.1, HU.out.2.2.1, ef5.out, hfe]
   exact hfin
theorem Take_100 {w : World} {t : Nat} {S : Nat → Prop} {f : UInt64 → UInt64} {e : UInt64} {A C : List BlockV} {bo bs bl pd nd rs uo us n a : UInt64} {bw : Int} {h1 h2 h5 h6 : Nat} {Ls : Nat → List UInt64} {K : UInt64 → UInt64 → Prop} (hT0 : TxF w t f 4800 S)
  (hW0 : Wd f e (A ++ ⟨bo, ⟨bs, false, bw⟩, bl⟩ :: C) Ls K)
  (hl : Lay e.toNat (A ++ ⟨bo, ⟨bs, false, bw⟩, bl⟩ :: C))
  (hF : Calls Tryz.prog 39 #[.pointer (some ⟨t, 0, none⟩), .int .u64 (n.toNat : Int), .int .u64 (a.toNat : Int)] w fun e' w' => e' = .returned (.tuple #[.agg #[.int .u64 (bo.toNat : Int), .int .u64 (pd.toNat : Int), .int .u64 (nd.toNat : Int)], .int .i64 0]) ∧ Keeps Nil w w')
  (huo : uo = bo + pd)
  (hrs : rs = bs - pd - nd)
  (hp : 0 < pd.toNat)
  (F1 : Fits e.toNat h1 h2 A C ⟨bo, ⟨pd, false, 0⟩, 0⟩)
  (hr : rs.toNat < 48)
  (hus : us = nd + rs)
  (F3 : Fits e.toNat h5 h6 (A ++ [⟨bo, ⟨pd, false, 0⟩, 0⟩]) C ⟨uo, ⟨us, true, 0⟩, n⟩) :
  Calls Tryz.prog 62 #[.pointer (some ⟨t, 0, none⟩), .int .i64 0, .int .u64 (n.toNat : Int), .int .u64 (a.toNat : Int)] w fun e' w' => e' = .returned (.tuple #[.int .u64 ((uo + 32).toNat : Int), .int .i64 0]) ∧
   ∃ f' S', TxF w' t f' 4800 S' ∧ Wd f' e ((A ++ [⟨bo, ⟨pd, false, 0⟩, 0⟩]) ++ ⟨uo, ⟨us, true, 0⟩, n⟩ :: C) (updO Ls ⟨uo, ⟨us, true, 0⟩, n⟩) (zeroK ⟨uo, ⟨us, true, 0⟩, n⟩ K) ∧ Step S S' w w' := by
 have hT := qH hT0
 have hW := qH hW0
 have hbm : (⟨bo, ⟨bs, false, bw⟩, bl⟩ : BlockV) ∈ A ++ ⟨bo, ⟨bs, false, bw⟩, bl⟩ :: C := by simp
 obtain ⟨pk, hpk⟩ : ∃ x, x = packU ⟨bs, false, bw⟩ := ⟨_, rfl⟩
 have HPK := qH (show f bo = pk by rw [hpk]; exact (hW0.tags _ hbm).1)
 have HUN := qH (show unpackT pk = ⟨bs, false, bw⟩ ∧ isTag pk = true by rw [hpk]; exact ⟨unpack_pack (hl.ok _ hbm).1.1, isTag_pack (hl.ok _ hbm).1.1⟩)
 have HL := qH hl
 have HF := qH hF
 have HF3 := qH F3
 have HI3 := qH (show mayT ⟨us, true, 0⟩ = true ∧ uo.toNat % 16 = 0 ∧ (⟨uo, ⟨us, true, 0⟩, n⟩ : BlockV).z ≤ 4800 from ⟨F3.ok.1, F3.mod, (F3.lay.nums F3.mem).2.2.2.2.2⟩)
 have hz3 : uo.toNat + us.toNat ≤ 4800 := HI3.out.2.2
 have hm3 : uo.toNat % 16 = 0 := HI3.out.2.1
 have hs3 : 48 ≤ us.toNat := F3.ok.sz.1
 obtain ⟨ys, hys⟩ : ∃ y, y = bs - pd := ⟨_, rfl⟩
 obtain ⟨u8, hu8⟩ : ∃ y, y = uo + 8 := ⟨_, rfl⟩
 obtain ⟨up, hup⟩ : ∃ y, y = uo + 32 := ⟨_, rfl⟩
 obtain ⟨M, hM⟩ : ∃ M, M = wordsN n := ⟨_, rfl⟩
 have hk3 : needB n = true ∧ (needU n).toNat ≤ us.toNat := by have := F3.ok.2; rw [if_pos rfl] at this; exact this
 have hM1 : 40 + 8 * M ≤ us.toNat := by have := (need_words hk3.1).1; rw [hM]; omega
 have eup : up.toNat = uo.toNat + 32 := by rw [hup, UInt64.toNat_add, show (32 : UInt64).toNat = 32 from rfl]; omega
 have q_uo : IntKind.u64.wrap ((bo.toNat : Int) + (pd.toNat : Int)) = (uo.toNat : Int) := by rw [huo]; exact u64_add bo pd
 have q_ys : IntKind.u64.wrap ((bs.toNat : Int) - (pd.toNat : Int)) = (ys.toNat : Int) := by rw [hys]; exact u64_sub bs pd
 have q_rs : IntKind.u64.wrap ((ys.toNat : Int) - (nd.toNat : Int)) = (rs.toNat : Int) := by rw [hrs, ← hys]; exact u64_sub ys nd
 have q_u8 : IntKind.u64.wrap ((uo.toNat : Int) + 8) = (u8.toNat : Int) := by rw [hu8]; exact u64_add uo 8
 have q_up : IntKind.u64.wrap ((uo.toNat : Int) + 32) = (up.toNat : Int) := by rw [hup]; exact u64_add uo 32
 rw [← hup]
 have HU := qH (And.intro hu8 (And.intro hup (And.intro hM (And.intro hM1 (And.intro eup hz3)))))
 have HMM := qH hM.symm
 have HMs := qH (show M ≤ 600 by omega)
 have HF1 := qH F1
 have HP := qH hp
 clear F1
 have q_us : IntKind.u64.wrap ((nd.toNat : Int) + (rs.toNat : Int)) = (us.toNat : Int) := by rw [hus]; exact u64_add nd rs
 have hr48 : ¬ 48 ≤ rs.toNat := by omega
 clear hT0 hW0 hl hF F3 huo hrs hpk hbm hys hu8 hup hM hk3 hM1 eup hz3 hm3 hs3 hp hr hus
 have hst := qH (Step.refl S w)
 go_enter Tryz.func62, Tryz.ntmps62
 go_wp2_with fail
 refine (HF.out).mono ?_
 rintro _ W1 ⟨rfl, kn⟩
 replace hst := sN hst kn
 replace hT := qH (hT.out.nil kn)
 clear kn
 obtain ⟨W2, hW2⟩ := nm (W1.alloc (.cells #[.int .u64 (bo.toNat : Int), .int .u64 (pd.toNat : Int), .int .u64 (nd.toNat : Int)] 57))
 obtain ⟨B1, eB1⟩ := nm (W1.heap.size)
 go_wp2_with fail
 rw [← hW2.out]
 try rw [← eB1.out]
 have k1 := kA hW2
 have e0B1 := eB1.out
 have hB1 := zB hW2 (Bx.new hT.out.lt _ _ e0B1)
 have gB1 := gZ e0B1 hst
 replace hst := sN hst k1
 replace hT := qH (hT.out.nil k1)
 clear k1 e0B1
 refine (hT.out.reads.loadC bo _ rfl).mono ?_
 rintro _ W3 ⟨rfl, kn⟩
 rw [HPK.out]
 replace hst := sN hst kn
 replace hT := qH (hT.out.nil kn)
 replace hB1 := bN hB1 kn
 clear kn
 go_wp2_with fail
 refine (Unpack_any _ pk).mono ?_
 rintro _ W4 ⟨rfl, kn⟩
 rw [HUN.out.1, HUN.out.2, TagV.cells_def]
 replace hst := sN hst kn
 replace hT := qH (hT.out.nil kn)
 replace hB1 := bN hB1 kn
 clear kn
 have c_B1_0 := cB hB1 0
 have l_B1 := hB1.out.lt
 obtain ⟨W5, hW5⟩ := nm (W4.alloc (.cells #[.int .u64 (bs.toNat : Int), .bool false, .int .i64 bw] 35))
 obtain ⟨B2, eB2⟩ := nm (W4.heap.size)
 go_wp2_with fail
 clear c_B1_0 l_B1
 rw [← hW5.out]
 try rw [← eB2.out]
 have k2 := kA hW5
 have e0B2 := eB2.out
 have hB2 := zB hW5 (Bx.new hT.out.lt _ _ e0B2)
 have gB2 := gZ e0B2 hst
 have nB1B2 := nZ e0B2 hB1
 replace hst := sN hst k2
 replace hT := qH (hT.out.nil k2)
 replace hB1 := bN hB1 k2
 clear k2 e0B2
 obtain ⟨fa, ra, hIa, hWa⟩ := hW.out.cut HL.out rfl
 replace hIa := qH hIa
 obtain ⟨f1, ef1⟩ : ∃ g, g = PT.stF 4800 fa 32 ra := ⟨_, rfl⟩
 rw [← ef1] at hWa
 replace hW := qH hWa
 clear hWa
 refine (Delete_any hIa.out hT.out).mono ?_
 rintro _ W6 ⟨rfl, S1, hT2, kn⟩
 rw [if_pos rfl, ← ef1] at hT2
 clear ef1 hIa
 replace hst := sT hst kn
 replace hB1 := bS hB1 kn
 replace hB2 := bS hB2 kn
 replace hT := qH hT2
 clear kn hT2
 go_wp2_with fail
 obtain ⟨W7, hW7⟩ := nm (W6.drew)
 have kn := kD hW7
 replace hst := sN hst kn
 replace hT := qH (hT.out.nil kn)
 replace hB1 := bN hB1 kn
 replace hB2 := bN hB2 kn
 clear kn
 refine wp_region_held_drew (S := fun w' => w'.cell? ⟨B1, 0, none⟩ = some (.int .u64 (bo.toNat : Int)) ∧ w'.cell? ⟨B1, 1, none⟩ = some (.int .u64 (pd.toNat : Int)) ∧ w'.cell? ⟨B1, 2, none⟩ = some (.int .u64 (nd.toNat : Int))) (by kernel_rfl) (by rw [← hW7.out]; exact ⟨cB hB1 0, cB hB1 1, cB hB1 2⟩) (fun hHeld => ?_)
 rw [← hW7.out] at hHeld ⊢
 refine fT 0 rfl hHeld ?_
 try simp only [Act.put, List.getElem_toArray, List.getElem_cons_zero, List.setIfInBounds_toArray, List.set_cons_zero, List.set_cons_succ]
 refine fT 1 rfl hHeld ?_; try simp only [sP,sQ]
 refine fT 2 rfl hHeld ?_; try simp only [sP,sQ]
 refine fT 3 rfl hHeld ?_; try simp only [sP,sQ]
 refine fT 4 rfl hHeld ?_; try simp only [sP,sQ]
 refine fT 5 rfl hHeld ?_; try simp only [sP,sQ]
 refine fT 6 rfl hHeld ?_; try simp only [sP,sQ]
 refine fT 7 rfl hHeld ?_; try simp only [sP,sQ]
 refine fT 8 rfl hHeld ?_; try simp only [sP,sQ]
 refine fD ?_
 clear hHeld
 have d1 : decide (0 < pd.toNat) = true := decide_eq_true (HP.out)
 have c_B1_0 := cB hB1 0
 have c_B1_1 := cB hB1 1
 have c_B1_2 := cB hB1 2
 have l_B1 := hB1.out.lt
 go_wp2_with fail
 clear c_B1_0 c_B1_1 c_B1_2 l_B1
 obtain ⟨fb, rb, hIb, hWb⟩ := hW.out.put HF1.out rfl
 have hJb := qH (HF1.out.inT hW.out.e16)
 replace hIb := qH hIb
 obtain ⟨f2, ef2⟩ : ∃ g, g = PT.stF 4800 fb 32 rb := ⟨_, rfl⟩
 rw [← ef2] at hWb
 rw [show ∀ (X Y : List BlockV) (b : BlockV), X ++ b :: Y = (X ++ [b]) ++ Y from fun X Y b => by simp] at hWb
 replace hW := qH hWb
 clear hWb
 refine (cfree_any hT.out bo pd HF1.out.ok.1 hJb.out hIb.out).mono ?_
 rintro _ W8 ⟨rfl, S2, hT2, kn⟩
 rw [← ef2] at hT2
 clear ef2 hIb hJb
 replace hst := sT hst kn
 replace hB1 := bS hB1 kn
 replace hB2 := bS hB2 kn
 replace hT := qH hT2
 clear kn hT2
 have d2 : decide (48 ≤ rs.toNat) = false := decide_eq_false (hr48)
 have c_B1_1 := cB hB1 1
 have c_B1_2 := cB hB1 2
 have l_B1 := hB1.out.lt
 have c_B2_0 := cB hB2 0
 have l_B2 := hB2.out.lt
 go_wp2_with fail
 clear c_B1_1 c_B1_2 l_B1 c_B2_0 l_B2
 have hJw := qH (HF3.out.inT hW.out.e16)
 obtain ⟨f3, ef3⟩ : ∃ g, g = tagF 4800 f2 uo ⟨us, true, 0⟩ := ⟨_, rfl⟩
 refine (tWrite_any hT.out uo ⟨us, true, 0⟩ HI3.out.1 hJw.out).mono ?_
 rintro _ W9 ⟨rfl, S3, hT2, kn⟩
 rw [← ef3] at hT2
 replace ef3 := qH ef3
 clear hJw
 replace hst := sT hst kn
 replace hB1 := bS hB1 kn
 replace hB2 := bS hB2 kn
 replace hT := qH hT2
 clear kn hT2
 go_wp2_with fail
 obtain ⟨f4, ef4⟩ : ∃ g, g = PT.stF 4800 f3 u8 n := ⟨_, rfl⟩
 refine (hT.out.store u8 n _ _ rfl rfl).mono ?_
 rintro _ W10 ⟨rfl, S4, hT2, kn⟩
 rw [← ef4] at hT2
 replace ef4 := qH ef4
 replace hst := sT hst kn
 replace hB1 := bS hB1 kn
 replace hB2 := bS hB2 kn
 replace hT := qH hT2
 clear kn hT2
 go_wp2_with fail
 refine (Words_any _ n).mono ?_
 rintro _ _ ⟨rfl, rfl⟩
 rw [HMM.out]
 go_wp2_with fail
 clear hB1
 clear hB2
 go_wp2_with fail
 go_loopw [102] (fun i wr => ∃ (k : Nat) (Sa : Nat → Prop), k ≤ M ∧ i = .int .u64 (k : Int) ∧ Hid (Step S Sa w wr) ∧ Hid (TxF wr t (zeroF 4800 f4 up k) 4800 Sa)) (fun i _ => M - (intOf i).toNat)
 case atStart => exact ⟨0, _, Nat.zero_le _, rfl, hst, hT⟩
 case round =>
  clear hst hT
  obtain ⟨k, Sa, hk, rfl, hst, hT⟩ := hrel
  by_cases hlt : k < M
  ·obtain ⟨k1, hk1⟩ : ∃ n, n = k + 1 := ⟨_, rfl⟩
   obtain ⟨k8, hk8⟩ : ∃ n, n = 8 * k := ⟨_, rfl⟩
   obtain ⟨yk, hyk⟩ : ∃ y, y = up + 8 * UInt64.ofNat k := ⟨_, rfl⟩
   have hMs := HMs.out
   have hup4 : up.toNat + 8 * M ≤ 4800 := by have h := HU.out.2.2.2; omega
   have eyk : yk.toNat = up.toNat + k8 := by rw [hyk, UInt64.toNat_add, UInt64.toNat_mul, UInt64.toNat_ofNat', show (8 : UInt64).toNat = 8 from rfl]; omega
   have q_k1 : IntKind.u64.wrap ((k : Int) + 1) = (k1 : Int) := by rw [IntWalk.u64_in _ (by omega)]; omega
   have q_k8 : IntKind.u64.wrap (8 * (k : Int)) = (k8 : Int) := by rw [IntWalk.u64_in _ (by omega)]; omega
   have q_yk : IntKind.u64.wrap ((up.toNat : Int) + (k8 : Int)) = (yk.toNat : Int) := by rw [IntWalk.u64_in _ (by omega)]; omega
   have HZ1 := qH (show PT.stF 4800 (zeroF 4800 f4 up k) yk 0 = zeroF 4800 f4 up k1 by rw [hk1, hyk]; rfl)
   have HK := qH (And.intro hk1 hlt)
   have d_k : decide ((k : Int) < (M : Int)) = true := decide_eq_true (by omega)
   clear hk1 hk8 hyk eyk hup4 hMs
   go_wp2_with fail
   refine (hT.out.store yk 0 _ 0 rfl rfl).mono ?_
   rintro _ W12 ⟨rfl, S5, hT2, kn⟩
   rw [HZ1.out] at hT2
   replace hst := sT hst kn
   replace hT := qH hT2
   clear kn hT2
   go_wp2_with fail
   go_roundw
   case rel => exact ⟨k1, _, by have := HK.out; omega, rfl, hst, hT⟩
   case measure => simp only [intOf]; clear q_k1 q_k8 q_yk; have h1 := HK.out; omega
  ·have hkM : k = M := by omega
   subst hkM
   have d_k : decide ((k : Int) < (k : Int)) = false := decide_eq_false (by omega)
   go_wp2_with fail
   go_ret2
   have hfin := hW.out.use0 HF3.out rfl rfl
   have hfe : f4 = useF f2 (⟨uo, ⟨us, true, 0⟩, n⟩ : BlockV) := by rw [ef4.out, ef3.out, HU.out.1]; rfl
   refine ⟨rfl, _, _, hT.out, ?_, hst.out⟩
   rw [HU.out.2.1, HU.out.2.2.1, hfe]
   exact hfin
theorem Take_101 {w : World} {t : Nat} {S : Nat → Prop} {f : UInt64 → UInt64} {e : UInt64} {A C : List BlockV} {bo bs bl pd nd rs uo us n a c : UInt64} {bw ow : Int} {h1 h2 h5 h6 : Nat} {Ls : Nat → List UInt64} {K : UInt64 → UInt64 → Prop} (hT0 : TxF w t f 4800 S)
  (hW0 : Wd f e (A ++ ⟨bo, ⟨bs, false, bw⟩, bl⟩ :: C) Ls K)
  (hl : Lay e.toNat (A ++ ⟨bo, ⟨bs, false, bw⟩, bl⟩ :: C))
  (hF : Calls Tryz.prog 39 #[.pointer (some ⟨t, 0, none⟩), .int .u64 (n.toNat : Int), .int .u64 (a.toNat : Int)] w fun e' w' => e' = .returned (.tuple #[.agg #[.int .u64 (bo.toNat : Int), .int .u64 (pd.toNat : Int), .int .u64 (nd.toNat : Int)], .int .i64 0]) ∧ Keeps Nil w w')
  (huo : uo = bo + pd)
  (hrs : rs = bs - pd - nd)
  (hp : 0 < pd.toNat)
  (F1 : Fits e.toNat h1 h2 A C ⟨bo, ⟨pd, false, 0⟩, 0⟩)
  (hr : rs.toNat < 48)
  (hus : us = nd + rs)
  (F3 : Fits e.toNat h5 h6 (A ++ [⟨bo, ⟨pd, false, 0⟩, 0⟩]) C ⟨uo, ⟨us, true, ow⟩, n⟩)
  (hc : c.toNat < 8)
  (how : ow = (c.toNat : Int) + 1) :
  Calls Tryz.prog 62 #[.pointer (some ⟨t, 0, none⟩), .int .i64 ow, .int .u64 (n.toNat : Int), .int .u64 (a.toNat : Int)] w fun e' w' => e' = .returned (.tuple #[.int .u64 ((uo + 32).toNat : Int), .int .i64 0]) ∧
   ∃ f' S', TxF w' t f' 4800 S' ∧ Wd f' e ((A ++ [⟨bo, ⟨pd, false, 0⟩, 0⟩]) ++ ⟨uo, ⟨us, true, ow⟩, n⟩ :: C) (updO Ls ⟨uo, ⟨us, true, ow⟩, n⟩) (zeroK ⟨uo, ⟨us, true, ow⟩, n⟩ K) ∧ Step S S' w w' := by
 have hT := qH hT0
 have hW := qH hW0
 have hbm : (⟨bo, ⟨bs, false, bw⟩, bl⟩ : BlockV) ∈ A ++ ⟨bo, ⟨bs, false, bw⟩, bl⟩ :: C := by simp
 obtain ⟨pk, hpk⟩ : ∃ x, x = packU ⟨bs, false, bw⟩ := ⟨_, rfl⟩
 have HPK := qH (show f bo = pk by rw [hpk]; exact (hW0.tags _ hbm).1)
 have HUN := qH (show unpackT pk = ⟨bs, false, bw⟩ ∧ isTag pk = true by rw [hpk]; exact ⟨unpack_pack (hl.ok _ hbm).1.1, isTag_pack (hl.ok _ hbm).1.1⟩)
 have HL := qH hl
 have HF := qH hF
 have HF3 := qH F3
 have HI3 := qH (show mayT ⟨us, true, ow⟩ = true ∧ uo.toNat % 16 = 0 ∧ (⟨uo, ⟨us, true, ow⟩, n⟩ : BlockV).z ≤ 4800 from ⟨F3.ok.1, F3.mod, (F3.lay.nums F3.mem).2.2.2.2.2⟩)
 have hz3 : uo.toNat + us.toNat ≤ 4800 := HI3.out.2.2
 have hm3 : uo.toNat % 16 = 0 := HI3.out.2.1
 have hs3 : 48 ≤ us.toNat := F3.ok.sz.1
 obtain ⟨ys, hys⟩ : ∃ y, y = bs - pd := ⟨_, rfl⟩
 obtain ⟨u8, hu8⟩ : ∃ y, y = uo + 8 := ⟨_, rfl⟩
 obtain ⟨up, hup⟩ : ∃ y, y = uo + 32 := ⟨_, rfl⟩
 obtain ⟨M, hM⟩ : ∃ M, M = wordsN n := ⟨_, rfl⟩
 have hk3 : needB n = true ∧ (needU n).toNat ≤ us.toNat := by have := F3.ok.2; rw [if_pos rfl] at this; exact this
 have hM1 : 40 + 8 * M ≤ us.toNat := by have := (need_words hk3.1).1; rw [hM]; omega
 have eup : up.toNat = uo.toNat + 32 := by rw [hup, UInt64.toNat_add, show (32 : UInt64).toNat = 32 from rfl]; omega
 have q_uo : IntKind.u64.wrap ((bo.toNat : Int) + (pd.toNat : Int)) = (uo.toNat : Int) := by rw [huo]; exact u64_add bo pd
 have q_ys : IntKind.u64.wrap ((bs.toNat : Int) - (pd.toNat : Int)) = (ys.toNat : Int) := by rw [hys]; exact u64_sub bs pd
 have q_rs : IntKind.u64.wrap ((ys.toNat : Int) - (nd.toNat : Int)) = (rs.toNat : Int) := by rw [hrs, ← hys]; exact u64_sub ys nd
 have q_u8 : IntKind.u64.wrap ((uo.toNat : Int) + 8) = (u8.toNat : Int) := by rw [hu8]; exact u64_add uo 8
 have q_up : IntKind.u64.wrap ((uo.toNat : Int) + 32) = (up.toNat : Int) := by rw [hup]; exact u64_add uo 32
 rw [← hup]
 have HU := qH (And.intro hu8 (And.intro hup (And.intro hM (And.intro hM1 (And.intro eup hz3)))))
 have HMM := qH hM.symm
 have HMs := qH (show M ≤ 600 by omega)
 have HF1 := qH F1
 have HP := qH hp
 clear F1
 have q_us : IntKind.u64.wrap ((nd.toNat : Int) + (rs.toNat : Int)) = (us.toNat : Int) := by rw [hus]; exact u64_add nd rs
 have hr48 : ¬ 48 ≤ rs.toNat := by omega
 have q_ow : wrap64 (ow - 1) = (c.toNat : Int) := by rw [how, show (c.toNat : Int) + 1 - 1 = (c.toNat : Int) by omega]; exact IntWalk.wrap64_in _ (by omega)
 have q_ow2 : IntKind.i64.wrap (ow - 1) = (c.toNat : Int) := by rw [IntWalk.i64_left]; exact q_ow
 have d_o1 : decide (ow < 0) = false := decide_eq_false (by omega)
 have d_o2 : decide (8 < ow) = false := decide_eq_false (by omega)
 have d_o3 : decide (0 < ow) = true := decide_eq_true (by omega)
 have HC := qH (And.intro hc how)
 clear hc how
 clear hT0 hW0 hl hF F3 huo hrs hpk hbm hys hu8 hup hM hk3 hM1 eup hz3 hm3 hs3 hp hr hus
 have hst := qH (Step.refl S w)
 go_enter Tryz.func62, Tryz.ntmps62
 go_wp2_with fail
 refine (HF.out).mono ?_
 rintro _ W1 ⟨rfl, kn⟩
 replace hst := sN hst kn
 replace hT := qH (hT.out.nil kn)
 clear kn
 obtain ⟨W2, hW2⟩ := nm (W1.alloc (.cells #[.int .u64 (bo.toNat : Int), .int .u64 (pd.toNat : Int), .int .u64 (nd.toNat : Int)] 57))
 obtain ⟨B1, eB1⟩ := nm (W1.heap.size)
 go_wp2_with fail
 rw [← hW2.out]
 try rw [← eB1.out]
 have k1 := kA hW2
 have e0B1 := eB1.out
 have hB1 := zB hW2 (Bx.new hT.out.lt _ _ e0B1)
 have gB1 := gZ e0B1 hst
 replace hst := sN hst k1
 replace hT := qH (hT.out.nil k1)
 clear k1 e0B1
 refine (hT.out.reads.loadC bo _ rfl).mono ?_
 rintro _ W3 ⟨rfl, kn⟩
 rw [HPK.out]
 replace hst := sN hst kn
 replace hT := qH (hT.out.nil kn)
 replace hB1 := bN hB1 kn
 clear kn
 go_wp2_with fail
 refine (Unpack_any _ pk).mono ?_
 rintro _ W4 ⟨rfl, kn⟩
 rw [HUN.out.1, HUN.out.2, TagV.cells_def]
 replace hst := sN hst kn
 replace hT := qH (hT.out.nil kn)
 replace hB1 := bN hB1 kn
 clear kn
 have c_B1_0 := cB hB1 0
 have l_B1 := hB1.out.lt
 obtain ⟨W5, hW5⟩ := nm (W4.alloc (.cells #[.int .u64 (bs.toNat : Int), .bool false, .int .i64 bw] 35))
 obtain ⟨B2, eB2⟩ := nm (W4.heap.size)
 go_wp2_with fail
 clear c_B1_0 l_B1
 rw [← hW5.out]
 try rw [← eB2.out]
 have k2 := kA hW5
 have e0B2 := eB2.out
 have hB2 := zB hW5 (Bx.new hT.out.lt _ _ e0B2)
 have gB2 := gZ e0B2 hst
 have nB1B2 := nZ e0B2 hB1
 replace hst := sN hst k2
 replace hT := qH (hT.out.nil k2)
 replace hB1 := bN hB1 k2
 clear k2 e0B2
 obtain ⟨fa, ra, hIa, hWa⟩ := hW.out.cut HL.out rfl
 replace hIa := qH hIa
 obtain ⟨f1, ef1⟩ : ∃ g, g = PT.stF 4800 fa 32 ra := ⟨_, rfl⟩
 rw [← ef1] at hWa
 replace hW := qH hWa
 clear hWa
 refine (Delete_any hIa.out hT.out).mono ?_
 rintro _ W6 ⟨rfl, S1, hT2, kn⟩
 rw [if_pos rfl, ← ef1] at hT2
 clear ef1 hIa
 replace hst := sT hst kn
 replace hB1 := bS hB1 kn
 replace hB2 := bS hB2 kn
 replace hT := qH hT2
 clear kn hT2
 go_wp2_with fail
 obtain ⟨W7, hW7⟩ := nm (W6.drew)
 have kn := kD hW7
 replace hst := sN hst kn
 replace hT := qH (hT.out.nil kn)
 replace hB1 := bN hB1 kn
 replace hB2 := bN hB2 kn
 clear kn
 refine wp_region_held_drew (S := fun w' => w'.cell? ⟨B1, 0, none⟩ = some (.int .u64 (bo.toNat : Int)) ∧ w'.cell? ⟨B1, 1, none⟩ = some (.int .u64 (pd.toNat : Int)) ∧ w'.cell? ⟨B1, 2, none⟩ = some (.int .u64 (nd.toNat : Int))) (by kernel_rfl) (by rw [← hW7.out]; exact ⟨cB hB1 0, cB hB1 1, cB hB1 2⟩) (fun hHeld => ?_)
 rw [← hW7.out] at hHeld ⊢
 refine fT 0 rfl hHeld ?_
 try simp only [Act.put, List.getElem_toArray, List.getElem_cons_zero, List.setIfInBounds_toArray, List.set_cons_zero, List.set_cons_succ]
 refine fT 1 rfl hHeld ?_; try simp only [sP,sQ]
 refine fT 2 rfl hHeld ?_; try simp only [sP,sQ]
 refine fT 3 rfl hHeld ?_; try simp only [sP,sQ]
 refine fT 4 rfl hHeld ?_; try simp only [sP,sQ]
 refine fT 5 rfl hHeld ?_; try simp only [sP,sQ]
 refine fT 6 rfl hHeld ?_; try simp only [sP,sQ]
 refine fT 7 rfl hHeld ?_; try simp only [sP,sQ]
 refine fT 8 rfl hHeld ?_; try simp only [sP,sQ]
 refine fD ?_
 clear hHeld
 have d1 : decide (0 < pd.toNat) = true := decide_eq_true (HP.out)
 have c_B1_0 := cB hB1 0
 have c_B1_1 := cB hB1 1
 have c_B1_2 := cB hB1 2
 have l_B1 := hB1.out.lt
 go_wp2_with fail
 clear c_B1_0 c_B1_1 c_B1_2 l_B1
 obtain ⟨fb, rb, hIb, hWb⟩ := hW.out.put HF1.out rfl
 have hJb := qH (HF1.out.inT hW.out.e16)
 replace hIb := qH hIb
 obtain ⟨f2, ef2⟩ : ∃ g, g = PT.stF 4800 fb 32 rb := ⟨_, rfl⟩
 rw [← ef2] at hWb
 rw [show ∀ (X Y : List BlockV) (b : BlockV), X ++ b :: Y = (X ++ [b]) ++ Y from fun X Y b => by simp] at hWb
 replace hW := qH hWb
 clear hWb
 refine (cfree_any hT.out bo pd HF1.out.ok.1 hJb.out hIb.out).mono ?_
 rintro _ W8 ⟨rfl, S2, hT2, kn⟩
 rw [← ef2] at hT2
 clear ef2 hIb hJb
 replace hst := sT hst kn
 replace hB1 := bS hB1 kn
 replace hB2 := bS hB2 kn
 replace hT := qH hT2
 clear kn hT2
 have d2 : decide (48 ≤ rs.toNat) = false := decide_eq_false (hr48)
 have c_B1_1 := cB hB1 1
 have c_B1_2 := cB hB1 2
 have l_B1 := hB1.out.lt
 have c_B2_0 := cB hB2 0
 have l_B2 := hB2.out.lt
 go_wp2_with fail
 clear c_B1_1 c_B1_2 l_B1 c_B2_0 l_B2
 have hJw := qH (HF3.out.inT hW.out.e16)
 obtain ⟨f3, ef3⟩ : ∃ g, g = tagF 4800 f2 uo ⟨us, true, ow⟩ := ⟨_, rfl⟩
 refine (tWrite_any hT.out uo ⟨us, true, ow⟩ HI3.out.1 hJw.out).mono ?_
 rintro _ W9 ⟨rfl, S3, hT2, kn⟩
 rw [← ef3] at hT2
 replace ef3 := qH ef3
 clear hJw
 replace hst := sT hst kn
 replace hB1 := bS hB1 kn
 replace hB2 := bS hB2 kn
 replace hT := qH hT2
 clear kn hT2
 go_wp2_with fail
 obtain ⟨f4, ef4⟩ : ∃ g, g = PT.stF 4800 f3 u8 n := ⟨_, rfl⟩
 refine (hT.out.store u8 n _ _ rfl rfl).mono ?_
 rintro _ W10 ⟨rfl, S4, hT2, kn⟩
 rw [← ef4] at hT2
 replace ef4 := qH ef4
 replace hst := sT hst kn
 replace hB1 := bS hB1 kn
 replace hB2 := bS hB2 kn
 replace hT := qH hT2
 clear kn hT2
 go_wp2_with fail
 obtain ⟨f5, ef5⟩ : ∃ g, g = linkF 4800 f4 c uo := ⟨_, rfl⟩
 refine (Link_any hT.out c uo HC.out.1).mono ?_
 rintro _ W11 ⟨rfl, S5, hT2, kn⟩
 rw [← ef5] at hT2
 replace ef5 := qH ef5
 replace hst := sT hst kn
 replace hB1 := bS hB1 kn
 replace hB2 := bS hB2 kn
 replace hT := qH hT2
 clear kn hT2
 go_wp2_with fail
 refine (Words_any _ n).mono ?_
 rintro _ _ ⟨rfl, rfl⟩
 rw [HMM.out]
 go_wp2_with fail
 clear hB1
 clear hB2
 go_wp2_with fail
 go_loopw [102] (fun i wr => ∃ (k : Nat) (Sa : Nat → Prop), k ≤ M ∧ i = .int .u64 (k : Int) ∧ Hid (Step S Sa w wr) ∧ Hid (TxF wr t (zeroF 4800 f5 up k) 4800 Sa)) (fun i _ => M - (intOf i).toNat)
 case atStart => exact ⟨0, _, Nat.zero_le _, rfl, hst, hT⟩
 case round =>
  clear hst hT
  obtain ⟨k, Sa, hk, rfl, hst, hT⟩ := hrel
  by_cases hlt : k < M
  ·obtain ⟨k1, hk1⟩ : ∃ n, n = k + 1 := ⟨_, rfl⟩
   obtain ⟨k8, hk8⟩ : ∃ n, n = 8 * k := ⟨_, rfl⟩
   obtain ⟨yk, hyk⟩ : ∃ y, y = up + 8 * UInt64.ofNat k := ⟨_, rfl⟩
   have hMs := HMs.out
   have hup4 : up.toNat + 8 * M ≤ 4800 := by have h := HU.out.2.2.2; omega
   have eyk : yk.toNat = up.toNat + k8 := by rw [hyk, UInt64.toNat_add, UInt64.toNat_mul, UInt64.toNat_ofNat', show (8 : UInt64).toNat = 8 from rfl]; omega
   have q_k1 : IntKind.u64.wrap ((k : Int) + 1) = (k1 : Int) := by rw [IntWalk.u64_in _ (by omega)]; omega
   have q_k8 : IntKind.u64.wrap (8 * (k : Int)) = (k8 : Int) := by rw [IntWalk.u64_in _ (by omega)]; omega
   have q_yk : IntKind.u64.wrap ((up.toNat : Int) + (k8 : Int)) = (yk.toNat : Int) := by rw [IntWalk.u64_in _ (by omega)]; omega
   have HZ1 := qH (show PT.stF 4800 (zeroF 4800 f5 up k) yk 0 = zeroF 4800 f5 up k1 by rw [hk1, hyk]; rfl)
   have HK := qH (And.intro hk1 hlt)
   have d_k : decide ((k : Int) < (M : Int)) = true := decide_eq_true (by omega)
   clear hk1 hk8 hyk eyk hup4 hMs
   go_wp2_with fail
   refine (hT.out.store yk 0 _ 0 rfl rfl).mono ?_
   rintro _ W13 ⟨rfl, S6, hT2, kn⟩
   rw [HZ1.out] at hT2
   replace hst := sT hst kn
   replace hT := qH hT2
   clear kn hT2
   go_wp2_with fail
   go_roundw
   case rel => exact ⟨k1, _, by have := HK.out; omega, rfl, hst, hT⟩
   case measure => simp only [intOf]; clear q_k1 q_k8 q_yk; have h1 := HK.out; omega
  ·have hkM : k = M := by omega
   subst hkM
   have d_k : decide ((k : Int) < (k : Int)) = false := decide_eq_false (by omega)
   go_wp2_with fail
   go_ret2
   have hfin := hW.out.useL HF3.out rfl HC.out.1 HC.out.2
   have hfe : f4 = useF f2 (⟨uo, ⟨us, true, ow⟩, n⟩ : BlockV) := by rw [ef4.out, ef3.out, HU.out.1]; rfl
   refine ⟨rfl, _, _, hT.out, ?_, hst.out⟩
   rw [HU.out.2.1, HU.out.2.2.1, ef5.out, hfe]
   exact hfin
theorem Take_110 {w : World} {t : Nat} {S : Nat → Prop} {f : UInt64 → UInt64} {e : UInt64} {A C : List BlockV} {bo bs bl pd nd rs uo us ro n a : UInt64} {bw : Int} {h1 h2 h3 h4 h5 h6 : Nat} {Ls : Nat → List UInt64} {K : UInt64 → UInt64 → Prop} (hT0 : TxF w t f 4800 S)
  (hW0 : Wd f e (A ++ ⟨bo, ⟨bs, false, bw⟩, bl⟩ :: C) Ls K)
  (hl : Lay e.toNat (A ++ ⟨bo, ⟨bs, false, bw⟩, bl⟩ :: C))
  (hF : Calls Tryz.prog 39 #[.pointer (some ⟨t, 0, none⟩), .int .u64 (n.toNat : Int), .int .u64 (a.toNat : Int)] w fun e' w' => e' = .returned (.tuple #[.agg #[.int .u64 (bo.toNat : Int), .int .u64 (pd.toNat : Int), .int .u64 (nd.toNat : Int)], .int .i64 0]) ∧ Keeps Nil w w')
  (huo : uo = bo + pd)
  (hrs : rs = bs - pd - nd)
  (hp : 0 < pd.toNat)
  (F1 : Fits e.toNat h1 h2 A C ⟨bo, ⟨pd, false, 0⟩, 0⟩)
  (hr : ¬ rs.toNat < 48)
  (hro : ro = uo + nd)
  (hus : us = nd)
  (F2 : Fits e.toNat h3 h4 (A ++ [⟨bo, ⟨pd, false, 0⟩, 0⟩]) C ⟨ro, ⟨rs, false, 0⟩, 0⟩)
  (F3 : Fits e.toNat h5 h6 (A ++ [⟨bo, ⟨pd, false, 0⟩, 0⟩]) (⟨ro, ⟨rs, false, 0⟩, 0⟩ :: C) ⟨uo, ⟨us, true, 0⟩, n⟩) :
  Calls Tryz.prog 62 #[.pointer (some ⟨t, 0, none⟩), .int .i64 0, .int .u64 (n.toNat : Int), .int .u64 (a.toNat : Int)] w fun e' w' => e' = .returned (.tuple #[.int .u64 ((uo + 32).toNat : Int), .int .i64 0]) ∧
   ∃ f' S', TxF w' t f' 4800 S' ∧ Wd f' e ((A ++ [⟨bo, ⟨pd, false, 0⟩, 0⟩]) ++ ⟨uo, ⟨us, true, 0⟩, n⟩ :: (⟨ro, ⟨rs, false, 0⟩, 0⟩ :: C)) (updO Ls ⟨uo, ⟨us, true, 0⟩, n⟩) (zeroK ⟨uo, ⟨us, true, 0⟩, n⟩ K) ∧ Step S S' w w' := by
 have hT := qH hT0
 have hW := qH hW0
 have hbm : (⟨bo, ⟨bs, false, bw⟩, bl⟩ : BlockV) ∈ A ++ ⟨bo, ⟨bs, false, bw⟩, bl⟩ :: C := by simp
 obtain ⟨pk, hpk⟩ : ∃ x, x = packU ⟨bs, false, bw⟩ := ⟨_, rfl⟩
 have HPK := qH (show f bo = pk by rw [hpk]; exact (hW0.tags _ hbm).1)
 have HUN := qH (show unpackT pk = ⟨bs, false, bw⟩ ∧ isTag pk = true by rw [hpk]; exact ⟨unpack_pack (hl.ok _ hbm).1.1, isTag_pack (hl.ok _ hbm).1.1⟩)
 have HL := qH hl
 have HF := qH hF
 have HF3 := qH F3
 have HI3 := qH (show mayT ⟨us, true, 0⟩ = true ∧ uo.toNat % 16 = 0 ∧ (⟨uo, ⟨us, true, 0⟩, n⟩ : BlockV).z ≤ 4800 from ⟨F3.ok.1, F3.mod, (F3.lay.nums F3.mem).2.2.2.2.2⟩)
 have hz3 : uo.toNat + us.toNat ≤ 4800 := HI3.out.2.2
 have hm3 : uo.toNat % 16 = 0 := HI3.out.2.1
 have hs3 : 48 ≤ us.toNat := F3.ok.sz.1
 obtain ⟨ys, hys⟩ : ∃ y, y = bs - pd := ⟨_, rfl⟩
 obtain ⟨u8, hu8⟩ : ∃ y, y = uo + 8 := ⟨_, rfl⟩
 obtain ⟨up, hup⟩ : ∃ y, y = uo + 32 := ⟨_, rfl⟩
 obtain ⟨M, hM⟩ : ∃ M, M = wordsN n := ⟨_, rfl⟩
 have hk3 : needB n = true ∧ (needU n).toNat ≤ us.toNat := by have := F3.ok.2; rw [if_pos rfl] at this; exact this
 have hM1 : 40 + 8 * M ≤ us.toNat := by have := (need_words hk3.1).1; rw [hM]; omega
 have eup : up.toNat = uo.toNat + 32 := by rw [hup, UInt64.toNat_add, show (32 : UInt64).toNat = 32 from rfl]; omega
 have q_uo : IntKind.u64.wrap ((bo.toNat : Int) + (pd.toNat : Int)) = (uo.toNat : Int) := by rw [huo]; exact u64_add bo pd
 have q_ys : IntKind.u64.wrap ((bs.toNat : Int) - (pd.toNat : Int)) = (ys.toNat : Int) := by rw [hys]; exact u64_sub bs pd
 have q_rs : IntKind.u64.wrap ((ys.toNat : Int) - (nd.toNat : Int)) = (rs.toNat : Int) := by rw [hrs, ← hys]; exact u64_sub ys nd
 have q_u8 : IntKind.u64.wrap ((uo.toNat : Int) + 8) = (u8.toNat : Int) := by rw [hu8]; exact u64_add uo 8
 have q_up : IntKind.u64.wrap ((uo.toNat : Int) + 32) = (up.toNat : Int) := by rw [hup]; exact u64_add uo 32
 rw [← hup]
 have HU := qH (And.intro hu8 (And.intro hup (And.intro hM (And.intro hM1 (And.intro eup hz3)))))
 have HMM := qH hM.symm
 have HMs := qH (show M ≤ 600 by omega)
 have HF1 := qH F1
 have HP := qH hp
 clear F1
 have HF2 := qH F2
 clear F2
 have q_ro : IntKind.u64.wrap ((uo.toNat : Int) + (nd.toNat : Int)) = (ro.toNat : Int) := by rw [hro]; exact u64_add uo nd
 subst hus
 have hr48 : 48 ≤ rs.toNat := by omega
 clear hT0 hW0 hl hF F3 huo hrs hpk hbm hys hu8 hup hM hk3 hM1 eup hz3 hm3 hs3 hp hr hro
 have hst := qH (Step.refl S w)
 go_enter Tryz.func62, Tryz.ntmps62
 go_wp2_with fail
 refine (HF.out).mono ?_
 rintro _ W1 ⟨rfl, kn⟩
 replace hst := sN hst kn
 replace hT := qH (hT.out.nil kn)
 clear kn
 obtain ⟨W2, hW2⟩ := nm (W1.alloc (.cells #[.int .u64 (bo.toNat : Int), .int .u64 (pd.toNat : Int), .int .u64 (us.toNat : Int)] 57))
 obtain ⟨B1, eB1⟩ := nm (W1.heap.size)
 go_wp2_with fail
 rw [← hW2.out]
 try rw [← eB1.out]
 have k1 := kA hW2
 have e0B1 := eB1.out
 have hB1 := zB hW2 (Bx.new hT.out.lt _ _ e0B1)
 have gB1 := gZ e0B1 hst
 replace hst := sN hst k1
 replace hT := qH (hT.out.nil k1)
 clear k1 e0B1
 refine (hT.out.reads.loadC bo _ rfl).mono ?_
 rintro _ W3 ⟨rfl, kn⟩
 rw [HPK.out]
 replace hst := sN hst kn
 replace hT := qH (hT.out.nil kn)
 replace hB1 := bN hB1 kn
 clear kn
 go_wp2_with fail
 refine (Unpack_any _ pk).mono ?_
 rintro _ W4 ⟨rfl, kn⟩
 rw [HUN.out.1, HUN.out.2, TagV.cells_def]
 replace hst := sN hst kn
 replace hT := qH (hT.out.nil kn)
 replace hB1 := bN hB1 kn
 clear kn
 have c_B1_0 := cB hB1 0
 have l_B1 := hB1.out.lt
 obtain ⟨W5, hW5⟩ := nm (W4.alloc (.cells #[.int .u64 (bs.toNat : Int), .bool false, .int .i64 bw] 35))
 obtain ⟨B2, eB2⟩ := nm (W4.heap.size)
 go_wp2_with fail
 clear c_B1_0 l_B1
 rw [← hW5.out]
 try rw [← eB2.out]
 have k2 := kA hW5
 have e0B2 := eB2.out
 have hB2 := zB hW5 (Bx.new hT.out.lt _ _ e0B2)
 have gB2 := gZ e0B2 hst
 have nB1B2 := nZ e0B2 hB1
 replace hst := sN hst k2
 replace hT := qH (hT.out.nil k2)
 replace hB1 := bN hB1 k2
 clear k2 e0B2
 obtain ⟨fa, ra, hIa, hWa⟩ := hW.out.cut HL.out rfl
 replace hIa := qH hIa
 obtain ⟨f1, ef1⟩ : ∃ g, g = PT.stF 4800 fa 32 ra := ⟨_, rfl⟩
 rw [← ef1] at hWa
 replace hW := qH hWa
 clear hWa
 refine (Delete_any hIa.out hT.out).mono ?_
 rintro _ W6 ⟨rfl, S1, hT2, kn⟩
 rw [if_pos rfl, ← ef1] at hT2
 clear ef1 hIa
 replace hst := sT hst kn
 replace hB1 := bS hB1 kn
 replace hB2 := bS hB2 kn
 replace hT := qH hT2
 clear kn hT2
 go_wp2_with fail
 obtain ⟨W7, hW7⟩ := nm (W6.drew)
 have kn := kD hW7
 replace hst := sN hst kn
 replace hT := qH (hT.out.nil kn)
 replace hB1 := bN hB1 kn
 replace hB2 := bN hB2 kn
 clear kn
 refine wp_region_held_drew (S := fun w' => w'.cell? ⟨B1, 0, none⟩ = some (.int .u64 (bo.toNat : Int)) ∧ w'.cell? ⟨B1, 1, none⟩ = some (.int .u64 (pd.toNat : Int)) ∧ w'.cell? ⟨B1, 2, none⟩ = some (.int .u64 (us.toNat : Int))) (by kernel_rfl) (by rw [← hW7.out]; exact ⟨cB hB1 0, cB hB1 1, cB hB1 2⟩) (fun hHeld => ?_)
 rw [← hW7.out] at hHeld ⊢
 refine fT 0 rfl hHeld ?_
 try simp only [Act.put, List.getElem_toArray, List.getElem_cons_zero, List.setIfInBounds_toArray, List.set_cons_zero, List.set_cons_succ]
 refine fT 1 rfl hHeld ?_; try simp only [sP,sQ]
 refine fT 2 rfl hHeld ?_; try simp only [sP,sQ]
 refine fT 3 rfl hHeld ?_; try simp only [sP,sQ]
 refine fT 4 rfl hHeld ?_; try simp only [sP,sQ]
 refine fT 5 rfl hHeld ?_; try simp only [sP,sQ]
 refine fT 6 rfl hHeld ?_; try simp only [sP,sQ]
 refine fT 7 rfl hHeld ?_; try simp only [sP,sQ]
 refine fT 8 rfl hHeld ?_; try simp only [sP,sQ]
 refine fD ?_
 clear hHeld
 have d1 : decide (0 < pd.toNat) = true := decide_eq_true (HP.out)
 have c_B1_0 := cB hB1 0
 have c_B1_1 := cB hB1 1
 have c_B1_2 := cB hB1 2
 have l_B1 := hB1.out.lt
 go_wp2_with fail
 clear c_B1_0 c_B1_1 c_B1_2 l_B1
 obtain ⟨fb, rb, hIb, hWb⟩ := hW.out.put HF1.out rfl
 have hJb := qH (HF1.out.inT hW.out.e16)
 replace hIb := qH hIb
 obtain ⟨f2, ef2⟩ : ∃ g, g = PT.stF 4800 fb 32 rb := ⟨_, rfl⟩
 rw [← ef2] at hWb
 rw [show ∀ (X Y : List BlockV) (b : BlockV), X ++ b :: Y = (X ++ [b]) ++ Y from fun X Y b => by simp] at hWb
 replace hW := qH hWb
 clear hWb
 refine (cfree_any hT.out bo pd HF1.out.ok.1 hJb.out hIb.out).mono ?_
 rintro _ W8 ⟨rfl, S2, hT2, kn⟩
 rw [← ef2] at hT2
 clear ef2 hIb hJb
 replace hst := sT hst kn
 replace hB1 := bS hB1 kn
 replace hB2 := bS hB2 kn
 replace hT := qH hT2
 clear kn hT2
 have d2 : decide (48 ≤ rs.toNat) = true := decide_eq_true (hr48)
 have c_B1_1 := cB hB1 1
 have c_B1_2 := cB hB1 2
 have l_B1 := hB1.out.lt
 have c_B2_0 := cB hB2 0
 have l_B2 := hB2.out.lt
 go_wp2_with fail
 clear c_B1_1 c_B1_2 l_B1 c_B2_0 l_B2
 obtain ⟨fb, rb, hIb, hWb⟩ := hW.out.put HF2.out rfl
 have hJb := qH (HF2.out.inT hW.out.e16)
 replace hIb := qH hIb
 obtain ⟨f3, ef3⟩ : ∃ g, g = PT.stF 4800 fb 32 rb := ⟨_, rfl⟩
 rw [← ef3] at hWb
 replace hW := qH hWb
 clear hWb
 refine (cfree_any hT.out ro rs HF2.out.ok.1 hJb.out hIb.out).mono ?_
 rintro _ W9 ⟨rfl, S3, hT2, kn⟩
 rw [← ef3] at hT2
 clear ef3 hIb hJb
 replace hst := sT hst kn
 replace hB1 := bS hB1 kn
 replace hB2 := bS hB2 kn
 replace hT := qH hT2
 clear kn hT2
 go_wp2_with fail
 have hJw := qH (HF3.out.inT hW.out.e16)
 obtain ⟨f4, ef4⟩ : ∃ g, g = tagF 4800 f3 uo ⟨us, true, 0⟩ := ⟨_, rfl⟩
 refine (tWrite_any hT.out uo ⟨us, true, 0⟩ HI3.out.1 hJw.out).mono ?_
 rintro _ W10 ⟨rfl, S4, hT2, kn⟩
 rw [← ef4] at hT2
 replace ef4 := qH ef4
 clear hJw
 replace hst := sT hst kn
 replace hB1 := bS hB1 kn
 replace hB2 := bS hB2 kn
 replace hT := qH hT2
 clear kn hT2
 go_wp2_with fail
 obtain ⟨f5, ef5⟩ : ∃ g, g = PT.stF 4800 f4 u8 n := ⟨_, rfl⟩
 refine (hT.out.store u8 n _ _ rfl rfl).mono ?_
 rintro _ W11 ⟨rfl, S5, hT2, kn⟩
 rw [← ef5] at hT2
 replace ef5 := qH ef5
 replace hst := sT hst kn
 replace hB1 := bS hB1 kn
 replace hB2 := bS hB2 kn
 replace hT := qH hT2
 clear kn hT2
 go_wp2_with fail
 refine (Words_any _ n).mono ?_
 rintro _ _ ⟨rfl, rfl⟩
 rw [HMM.out]
 go_wp2_with fail
 clear hB1
 clear hB2
 go_wp2_with fail
 go_loopw [102] (fun i wr => ∃ (k : Nat) (Sa : Nat → Prop), k ≤ M ∧ i = .int .u64 (k : Int) ∧ Hid (Step S Sa w wr) ∧ Hid (TxF wr t (zeroF 4800 f5 up k) 4800 Sa)) (fun i _ => M - (intOf i).toNat)
 case atStart => exact ⟨0, _, Nat.zero_le _, rfl, hst, hT⟩
 case round =>
  clear hst hT
  obtain ⟨k, Sa, hk, rfl, hst, hT⟩ := hrel
  by_cases hlt : k < M
  ·obtain ⟨k1, hk1⟩ : ∃ n, n = k + 1 := ⟨_, rfl⟩
   obtain ⟨k8, hk8⟩ : ∃ n, n = 8 * k := ⟨_, rfl⟩
   obtain ⟨yk, hyk⟩ : ∃ y, y = up + 8 * UInt64.ofNat k := ⟨_, rfl⟩
   have hMs := HMs.out
   have hup4 : up.toNat + 8 * M ≤ 4800 := by have h := HU.out.2.2.2; omega
   have eyk : yk.toNat = up.toNat + k8 := by rw [hyk, UInt64.toNat_add, UInt64.toNat_mul, UInt64.toNat_ofNat', show (8 : UInt64).toNat = 8 from rfl]; omega
   have q_k1 : IntKind.u64.wrap ((k : Int) + 1) = (k1 : Int) := by rw [IntWalk.u64_in _ (by omega)]; omega
   have q_k8 : IntKind.u64.wrap (8 * (k : Int)) = (k8 : Int) := by rw [IntWalk.u64_in _ (by omega)]; omega
   have q_yk : IntKind.u64.wrap ((up.toNat : Int) + (k8 : Int)) = (yk.toNat : Int) := by rw [IntWalk.u64_in _ (by omega)]; omega
   have HZ1 := qH (show PT.stF 4800 (zeroF 4800 f5 up k) yk 0 = zeroF 4800 f5 up k1 by rw [hk1, hyk]; rfl)
   have HK := qH (And.intro hk1 hlt)
   have d_k : decide ((k : Int) < (M : Int)) = true := decide_eq_true (by omega)
   clear hk1 hk8 hyk eyk hup4 hMs
   go_wp2_with fail
   refine (hT.out.store yk 0 _ 0 rfl rfl).mono ?_
   rintro _ W13 ⟨rfl, S6, hT2, kn⟩
   rw [HZ1.out] at hT2
   replace hst := sT hst kn
   replace hT := qH hT2
   clear kn hT2
   go_wp2_with fail
   go_roundw
   case rel => exact ⟨k1, _, by have := HK.out; omega, rfl, hst, hT⟩
   case measure => simp only [intOf]; clear q_k1 q_k8 q_yk; have h1 := HK.out; omega
  ·have hkM : k = M := by omega
   subst hkM
   have d_k : decide ((k : Int) < (k : Int)) = false := decide_eq_false (by omega)
   go_wp2_with fail
   go_ret2
   have hfin := hW.out.use0 HF3.out rfl rfl
   have hfe : f5 = useF f3 (⟨uo, ⟨us, true, 0⟩, n⟩ : BlockV) := by rw [ef5.out, ef4.out, HU.out.1]; rfl
   refine ⟨rfl, _, _, hT.out, ?_, hst.out⟩
   rw [HU.out.2.1, HU.out.2.2.1, hfe]
   exact hfin
theorem Take_111 {w : World} {t : Nat} {S : Nat → Prop} {f : UInt64 → UInt64} {e : UInt64} {A C : List BlockV} {bo bs bl pd nd rs uo us ro n a c : UInt64} {bw ow : Int} {h1 h2 h3 h4 h5 h6 : Nat} {Ls : Nat → List UInt64} {K : UInt64 → UInt64 → Prop} (hT0 : TxF w t f 4800 S)
  (hW0 : Wd f e (A ++ ⟨bo, ⟨bs, false, bw⟩, bl⟩ :: C) Ls K)
  (hl : Lay e.toNat (A ++ ⟨bo, ⟨bs, false, bw⟩, bl⟩ :: C))
  (hF : Calls Tryz.prog 39 #[.pointer (some ⟨t, 0, none⟩), .int .u64 (n.toNat : Int), .int .u64 (a.toNat : Int)] w fun e' w' => e' = .returned (.tuple #[.agg #[.int .u64 (bo.toNat : Int), .int .u64 (pd.toNat : Int), .int .u64 (nd.toNat : Int)], .int .i64 0]) ∧ Keeps Nil w w')
  (huo : uo = bo + pd)
  (hrs : rs = bs - pd - nd)
  (hp : 0 < pd.toNat)
  (F1 : Fits e.toNat h1 h2 A C ⟨bo, ⟨pd, false, 0⟩, 0⟩)
  (hr : ¬ rs.toNat < 48)
  (hro : ro = uo + nd)
  (hus : us = nd)
  (F2 : Fits e.toNat h3 h4 (A ++ [⟨bo, ⟨pd, false, 0⟩, 0⟩]) C ⟨ro, ⟨rs, false, 0⟩, 0⟩)
  (F3 : Fits e.toNat h5 h6 (A ++ [⟨bo, ⟨pd, false, 0⟩, 0⟩]) (⟨ro, ⟨rs, false, 0⟩, 0⟩ :: C) ⟨uo, ⟨us, true, ow⟩, n⟩)
  (hc : c.toNat < 8)
  (how : ow = (c.toNat : Int) + 1) :
  Calls Tryz.prog 62 #[.pointer (some ⟨t, 0, none⟩), .int .i64 ow, .int .u64 (n.toNat : Int), .int .u64 (a.toNat : Int)] w fun e' w' => e' = .returned (.tuple #[.int .u64 ((uo + 32).toNat : Int), .int .i64 0]) ∧
   ∃ f' S', TxF w' t f' 4800 S' ∧ Wd f' e ((A ++ [⟨bo, ⟨pd, false, 0⟩, 0⟩]) ++ ⟨uo, ⟨us, true, ow⟩, n⟩ :: (⟨ro, ⟨rs, false, 0⟩, 0⟩ :: C)) (updO Ls ⟨uo, ⟨us, true, ow⟩, n⟩) (zeroK ⟨uo, ⟨us, true, ow⟩, n⟩ K) ∧ Step S S' w w' := by
 have hT := qH hT0
 have hW := qH hW0
 have hbm : (⟨bo, ⟨bs, false, bw⟩, bl⟩ : BlockV) ∈ A ++ ⟨bo, ⟨bs, false, bw⟩, bl⟩ :: C := by simp
 obtain ⟨pk, hpk⟩ : ∃ x, x = packU ⟨bs, false, bw⟩ := ⟨_, rfl⟩
 have HPK := qH (show f bo = pk by rw [hpk]; exact (hW0.tags _ hbm).1)
 have HUN := qH (show unpackT pk = ⟨bs, false, bw⟩ ∧ isTag pk = true by rw [hpk]; exact ⟨unpack_pack (hl.ok _ hbm).1.1, isTag_pack (hl.ok _ hbm).1.1⟩)
 have HL := qH hl
 have HF := qH hF
 have HF3 := qH F3
 have HI3 := qH (show mayT ⟨us, true, ow⟩ = true ∧ uo.toNat % 16 = 0 ∧ (⟨uo, ⟨us, true, ow⟩, n⟩ : BlockV).z ≤ 4800 from ⟨F3.ok.1, F3.mod, (F3.lay.nums F3.mem).2.2.2.2.2⟩)
 have hz3 : uo.toNat + us.toNat ≤ 4800 := HI3.out.2.2
 have hm3 : uo.toNat % 16 = 0 := HI3.out.2.1
 have hs3 : 48 ≤ us.toNat := F3.ok.sz.1
 obtain ⟨ys, hys⟩ : ∃ y, y = bs - pd := ⟨_, rfl⟩
 obtain ⟨u8, hu8⟩ : ∃ y, y = uo + 8 := ⟨_, rfl⟩
 obtain ⟨up, hup⟩ : ∃ y, y = uo + 32 := ⟨_, rfl⟩
 obtain ⟨M, hM⟩ : ∃ M, M = wordsN n := ⟨_, rfl⟩
 have hk3 : needB n = true ∧ (needU n).toNat ≤ us.toNat := by have := F3.ok.2; rw [if_pos rfl] at this; exact this
 have hM1 : 40 + 8 * M ≤ us.toNat := by have := (need_words hk3.1).1; rw [hM]; omega
 have eup : up.toNat = uo.toNat + 32 := by rw [hup, UInt64.toNat_add, show (32 : UInt64).toNat = 32 from rfl]; omega
 have q_uo : IntKind.u64.wrap ((bo.toNat : Int) + (pd.toNat : Int)) = (uo.toNat : Int) := by rw [huo]; exact u64_add bo pd
 have q_ys : IntKind.u64.wrap ((bs.toNat : Int) - (pd.toNat : Int)) = (ys.toNat : Int) := by rw [hys]; exact u64_sub bs pd
 have q_rs : IntKind.u64.wrap ((ys.toNat : Int) - (nd.toNat : Int)) = (rs.toNat : Int) := by rw [hrs, ← hys]; exact u64_sub ys nd
 have q_u8 : IntKind.u64.wrap ((uo.toNat : Int) + 8) = (u8.toNat : Int) := by rw [hu8]; exact u64_add uo 8
 have q_up : IntKind.u64.wrap ((uo.toNat : Int) + 32) = (up.toNat : Int) := by rw [hup]; exact u64_add uo 32
 rw [← hup]
 have HU := qH (And.intro hu8 (And.intro hup (And.intro hM (And.intro hM1 (And.intro eup hz3)))))
 have HMM := qH hM.symm
 have HMs := qH (show M ≤ 600 by omega)
 have HF1 := qH F1
 have HP := qH hp
 clear F1
 have HF2 := qH F2
 clear F2
 have q_ro : IntKind.u64.wrap ((uo.toNat : Int) + (nd.toNat : Int)) = (ro.toNat : Int) := by rw [hro]; exact u64_add uo nd
 subst hus
 have hr48 : 48 ≤ rs.toNat := by omega
 have q_ow : wrap64 (ow - 1) = (c.toNat : Int) := by rw [how, show (c.toNat : Int) + 1 - 1 = (c.toNat : Int) by omega]; exact IntWalk.wrap64_in _ (by omega)
 have q_ow2 : IntKind.i64.wrap (ow - 1) = (c.toNat : Int) := by rw [IntWalk.i64_left]; exact q_ow
 have d_o1 : decide (ow < 0) = false := decide_eq_false (by omega)
 have d_o2 : decide (8 < ow) = false := decide_eq_false (by omega)
 have d_o3 : decide (0 < ow) = true := decide_eq_true (by omega)
 have HC := qH (And.intro hc how)
 clear hc how
 clear hT0 hW0 hl hF F3 huo hrs hpk hbm hys hu8 hup hM hk3 hM1 eup hz3 hm3 hs3 hp hr hro
 have hst := qH (Step.refl S w)
 go_enter Tryz.func62, Tryz.ntmps62
 go_wp2_with fail
 refine (HF.out).mono ?_
 rintro _ W1 ⟨rfl, kn⟩
 replace hst := sN hst kn
 replace hT := qH (hT.out.nil kn)
 clear kn
 obtain ⟨W2, hW2⟩ := nm (W1.alloc (.cells #[.int .u64 (bo.toNat : Int), .int .u64 (pd.toNat : Int), .int .u64 (us.toNat : Int)] 57))
 obtain ⟨B1, eB1⟩ := nm (W1.heap.size)
 go_wp2_with fail
 rw [← hW2.out]
 try rw [← eB1.out]
 have k1 := kA hW2
 have e0B1 := eB1.out
 have hB1 := zB hW2 (Bx.new hT.out.lt _ _ e0B1)
 have gB1 := gZ e0B1 hst
 replace hst := sN hst k1
 replace hT := qH (hT.out.nil k1)
 clear k1 e0B1
 refine (hT.out.reads.loadC bo _ rfl).mono ?_
 rintro _ W3 ⟨rfl, kn⟩
 rw [HPK.out]
 replace hst := sN hst kn
 replace hT := qH (hT.out.nil kn)
 replace hB1 := bN hB1 kn
 clear kn
 go_wp2_with fail
 refine (Unpack_any _ pk).mono ?_
 rintro _ W4 ⟨rfl, kn⟩
 rw [HUN.out.1, HUN.out.2, TagV.cells_def]
 replace hst := sN hst kn
 replace hT := qH (hT.out.nil kn)
 replace hB1 := bN hB1 kn
 clear kn
 have c_B1_0 := cB hB1 0
 have l_B1 := hB1.out.lt
 obtain ⟨W5, hW5⟩ := nm (W4.alloc (.cells #[.int .u64 (bs.toNat : Int), .bool false, .int .i64 bw] 35))
 obtain ⟨B2, eB2⟩ := nm (W4.heap.size)
 go_wp2_with fail
 clear c_B1_0 l_B1
 rw [← hW5.out]
 try rw [← eB2.out]
 have k2 := kA hW5
 have e0B2 := eB2.out
 have hB2 := zB hW5 (Bx.new hT.out.lt _ _ e0B2)
 have gB2 := gZ e0B2 hst
 have nB1B2 := nZ e0B2 hB1
 replace hst := sN hst k2
 replace hT := qH (hT.out.nil k2)
 replace hB1 := bN hB1 k2
 clear k2 e0B2
 obtain ⟨fa, ra, hIa, hWa⟩ := hW.out.cut HL.out rfl
 replace hIa := qH hIa
 obtain ⟨f1, ef1⟩ : ∃ g, g = PT.stF 4800 fa 32 ra := ⟨_, rfl⟩
 rw [← ef1] at hWa
 replace hW := qH hWa
 clear hWa
 refine (Delete_any hIa.out hT.out).mono ?_
 rintro _ W6 ⟨rfl, S1, hT2, kn⟩
 rw [if_pos rfl, ← ef1] at hT2
 clear ef1 hIa
 replace hst := sT hst kn
 replace hB1 := bS hB1 kn
 replace hB2 := bS hB2 kn
 replace hT := qH hT2
 clear kn hT2
 go_wp2_with fail
 obtain ⟨W7, hW7⟩ := nm (W6.drew)
 have kn := kD hW7
 replace hst := sN hst kn
 replace hT := qH (hT.out.nil kn)
 replace hB1 := bN hB1 kn
 replace hB2 := bN hB2 kn
 clear kn
 refine wp_region_held_drew (S := fun w' => w'.cell? ⟨B1, 0, none⟩ = some (.int .u64 (bo.toNat : Int)) ∧ w'.cell? ⟨B1, 1, none⟩ = some (.int .u64 (pd.toNat : Int)) ∧ w'.cell? ⟨B1, 2, none⟩ = some (.int .u64 (us.toNat : Int))) (by kernel_rfl) (by rw [← hW7.out]; exact ⟨cB hB1 0, cB hB1 1, cB hB1 2⟩) (fun hHeld => ?_)
 rw [← hW7.out] at hHeld ⊢
 refine fT 0 rfl hHeld ?_
 try simp only [Act.put, List.getElem_toArray, List.getElem_cons_zero, List.setIfInBounds_toArray, List.set_cons_zero, List.set_cons_succ]
 refine fT 1 rfl hHeld ?_; try simp only [sP,sQ]
 refine fT 2 rfl hHeld ?_; try simp only [sP,sQ]
 refine fT 3 rfl hHeld ?_; try simp only [sP,sQ]
 refine fT 4 rfl hHeld ?_; try simp only [sP,sQ]
 refine fT 5 rfl hHeld ?_; try simp only [sP,sQ]
 refine fT 6 rfl hHeld ?_; try simp only [sP,sQ]
 refine fT 7 rfl hHeld ?_; try simp only [sP,sQ]
 refine fT 8 rfl hHeld ?_; try simp only [sP,sQ]
 refine fD ?_
 clear hHeld
 have d1 : decide (0 < pd.toNat) = true := decide_eq_true (HP.out)
 have c_B1_0 := cB hB1 0
 have c_B1_1 := cB hB1 1
 have c_B1_2 := cB hB1 2
 have l_B1 := hB1.out.lt
 go_wp2_with fail
 clear c_B1_0 c_B1_1 c_B1_2 l_B1
 obtain ⟨fb, rb, hIb, hWb⟩ := hW.out.put HF1.out rfl
 have hJb := qH (HF1.out.inT hW.out.e16)
 replace hIb := qH hIb
 obtain ⟨f2, ef2⟩ : ∃ g, g = PT.stF 4800 fb 32 rb := ⟨_, rfl⟩
 rw [← ef2] at hWb
 rw [show ∀ (X Y : List BlockV) (b : BlockV), X ++ b :: Y = (X ++ [b]) ++ Y from fun X Y b => by simp] at hWb
 replace hW := qH hWb
 clear hWb
 refine (cfree_any hT.out bo pd HF1.out.ok.1 hJb.out hIb.out).mono ?_
 rintro _ W8 ⟨rfl, S2, hT2, kn⟩
 rw [← ef2] at hT2
 clear ef2 hIb hJb
 replace hst := sT hst kn
 replace hB1 := bS hB1 kn
 replace hB2 := bS hB2 kn
 replace hT := qH hT2
 clear kn hT2
 have d2 : decide (48 ≤ rs.toNat) = true := decide_eq_true (hr48)
 have c_B1_1 := cB hB1 1
 have c_B1_2 := cB hB1 2
 have l_B1 := hB1.out.lt
 have c_B2_0 := cB hB2 0
 have l_B2 := hB2.out.lt
 go_wp2_with fail
 clear c_B1_1 c_B1_2 l_B1 c_B2_0 l_B2
 obtain ⟨fb, rb, hIb, hWb⟩ := hW.out.put HF2.out rfl
 have hJb := qH (HF2.out.inT hW.out.e16)
 replace hIb := qH hIb
 obtain ⟨f3, ef3⟩ : ∃ g, g = PT.stF 4800 fb 32 rb := ⟨_, rfl⟩
 rw [← ef3] at hWb
 replace hW := qH hWb
 clear hWb
 refine (cfree_any hT.out ro rs HF2.out.ok.1 hJb.out hIb.out).mono ?_
 rintro _ W9 ⟨rfl, S3, hT2, kn⟩
 rw [← ef3] at hT2
 clear ef3 hIb hJb
 replace hst := sT hst kn
 replace hB1 := bS hB1 kn
 replace hB2 := bS hB2 kn
 replace hT := qH hT2
 clear kn hT2
 go_wp2_with fail
 have hJw := qH (HF3.out.inT hW.out.e16)
 obtain ⟨f4, ef4⟩ : ∃ g, g = tagF 4800 f3 uo ⟨us, true, ow⟩ := ⟨_, rfl⟩
 refine (tWrite_any hT.out uo ⟨us, true, ow⟩ HI3.out.1 hJw.out).mono ?_
 rintro _ W10 ⟨rfl, S4, hT2, kn⟩
 rw [← ef4] at hT2
 replace ef4 := qH ef4
 clear hJw
 replace hst := sT hst kn
 replace hB1 := bS hB1 kn
 replace hB2 := bS hB2 kn
 replace hT := qH hT2
 clear kn hT2
 go_wp2_with fail
 obtain ⟨f5, ef5⟩ : ∃ g, g = PT.stF 4800 f4 u8 n := ⟨_, rfl⟩
 refine (hT.out.store u8 n _ _ rfl rfl).mono ?_
 rintro _ W11 ⟨rfl, S5, hT2, kn⟩
 rw [← ef5] at hT2
 replace ef5 := qH ef5
 replace hst := sT hst kn
 replace hB1 := bS hB1 kn
 replace hB2 := bS hB2 kn
 replace hT := qH hT2
 clear kn hT2
 go_wp2_with fail
 obtain ⟨f6, ef6⟩ : ∃ g, g = linkF 4800 f5 c uo := ⟨_, rfl⟩
 refine (Link_any hT.out c uo HC.out.1).mono ?_
 rintro _ W12 ⟨rfl, S6, hT2, kn⟩
 rw [← ef6] at hT2
 replace ef6 := qH ef6
 replace hst := sT hst kn
 replace hB1 := bS hB1 kn
 replace hB2 := bS hB2 kn
 replace hT := qH hT2
 clear kn hT2
 go_wp2_with fail
 refine (Words_any _ n).mono ?_
 rintro _ _ ⟨rfl, rfl⟩
 rw [HMM.out]
 go_wp2_with fail
 clear hB1
 clear hB2
 go_wp2_with fail
 go_loopw [102] (fun i wr => ∃ (k : Nat) (Sa : Nat → Prop), k ≤ M ∧ i = .int .u64 (k : Int) ∧ Hid (Step S Sa w wr) ∧ Hid (TxF wr t (zeroF 4800 f6 up k) 4800 Sa)) (fun i _ => M - (intOf i).toNat)
 case atStart => exact ⟨0, _, Nat.zero_le _, rfl, hst, hT⟩
 case round =>
  clear hst hT
  obtain ⟨k, Sa, hk, rfl, hst, hT⟩ := hrel
  by_cases hlt : k < M
  ·obtain ⟨k1, hk1⟩ : ∃ n, n = k + 1 := ⟨_, rfl⟩
   obtain ⟨k8, hk8⟩ : ∃ n, n = 8 * k := ⟨_, rfl⟩
   obtain ⟨yk, hyk⟩ : ∃ y, y = up + 8 * UInt64.ofNat k := ⟨_, rfl⟩
   have hMs := HMs.out
   have hup4 : up.toNat + 8 * M ≤ 4800 := by have h := HU.out.2.2.2; omega
   have eyk : yk.toNat = up.toNat + k8 := by rw [hyk, UInt64.toNat_add, UInt64.toNat_mul, UInt64.toNat_ofNat', show (8 : UInt64).toNat = 8 from rfl]; omega
   have q_k1 : IntKind.u64.wrap ((k : Int) + 1) = (k1 : Int) := by rw [IntWalk.u64_in _ (by omega)]; omega
   have q_k8 : IntKind.u64.wrap (8 * (k : Int)) = (k8 : Int) := by rw [IntWalk.u64_in _ (by omega)]; omega
   have q_yk : IntKind.u64.wrap ((up.toNat : Int) + (k8 : Int)) = (yk.toNat : Int) := by rw [IntWalk.u64_in _ (by omega)]; omega
   have HZ1 := qH (show PT.stF 4800 (zeroF 4800 f6 up k) yk 0 = zeroF 4800 f6 up k1 by rw [hk1, hyk]; rfl)
   have HK := qH (And.intro hk1 hlt)
   have d_k : decide ((k : Int) < (M : Int)) = true := decide_eq_true (by omega)
   clear hk1 hk8 hyk eyk hup4 hMs
   go_wp2_with fail
   refine (hT.out.store yk 0 _ 0 rfl rfl).mono ?_
   rintro _ W14 ⟨rfl, S7, hT2, kn⟩
   rw [HZ1.out] at hT2
   replace hst := sT hst kn
   replace hT := qH hT2
   clear kn hT2
   go_wp2_with fail
   go_roundw
   case rel => exact ⟨k1, _, by have := HK.out; omega, rfl, hst, hT⟩
   case measure => simp only [intOf]; clear q_k1 q_k8 q_yk; have h1 := HK.out; omega
  ·have hkM : k = M := by omega
   subst hkM
   have d_k : decide ((k : Int) < (k : Int)) = false := decide_eq_false (by omega)
   go_wp2_with fail
   go_ret2
   have hfin := hW.out.useL HF3.out rfl HC.out.1 HC.out.2
   have hfe : f5 = useF f3 (⟨uo, ⟨us, true, ow⟩, n⟩ : BlockV) := by rw [ef5.out, ef4.out, HU.out.1]; rfl
   refine ⟨rfl, _, _, hT.out, ?_, hst.out⟩
   rw [HU.out.2.1, HU.out.2.2.1, ef6.out, hfe]
   exact hfin
end
end Go.Proofs.YtefpbljekfkefaaGreat
