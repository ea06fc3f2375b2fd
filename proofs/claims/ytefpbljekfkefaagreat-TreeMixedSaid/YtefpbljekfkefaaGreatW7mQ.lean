/- carracklaw07: TreeMixed. -/
import Derived.Test.YtefpbljekfkefaaGreatMixPQ
namespace Go.Proofs.YtefpbljekfkefaaGreat
open Go.RowKit PT

set_option maxRecDepth 100000 in
set_option maxHeartbeats 4000000 in
theorem treeMixed_any {w : World} {vl vy : Value} {ps : List PieceV} {ys : List UInt8} (hl : Look kPc w vl ps) (hy : Look kY w vy ys) :
    Calls Tryz.prog 9 #[vl, vy] w fun e w' => e = .returned (.bool true) ∧ Keeps Nil w w' := by
  obtain ⟨X, hX⟩ : ∃ X, X = freeL ps := ⟨_, rfl⟩
  obtain ⟨f0, hf0⟩ : ∃ g, g = layF ps := ⟨_, rfl⟩
  obtain ⟨P, hP⟩ : ∃ P, P = layAll (formW 4800) [] (ps.take 20) := ⟨_, rfl⟩
  obtain ⟨M, hM⟩ : ∃ M, M = X.length := ⟨_, rfl⟩
  obtain ⟨g1, g2, g3⟩ := free_good ps
  have hMs : M ≤ 100 := by rw [hM, hX]; exact free_short ps
  rw [← hX] at g1 g2 g3
  have HQ := Lib.hid (And.intro g1 g3)
  have HXn := Lib.hid g2
  have HF := Lib.hid (And.intro hf0 (And.intro hP hX))
  have HM := Lib.hid hM
  have HL := Lib.hid hl
  obtain ⟨al, lcap, rfl, hlm⟩ := hl.val
  clear hl hlm hX hf0 hP hM g1 g2 g3
  have hM0 : 0 < M := by rw [HM.out, HF.out.2.2]; exact free_some ps
  have HY := Lib.hid hy
  obtain ⟨ay, cy, rfl, hym⟩ := hy.val
  obtain ⟨Y, hYl⟩ : ∃ n, n = ys.length := ⟨_, rfl⟩
  have hYm : Y ≤ 9223372036854775807 := by unfold maxLen at hym; omega
  rw [← hYl]
  have HYL := Lib.hid hYl
  have q_M : ((M : Int) == 0) = false := by simp; omega
  have q_M2 : (M = 0) = False := by simp; omega
  have q_M3 : decide ((0 : Int) < (M : Int)) = true := by simp; omega
  clear hy hym hYl
  by_cases h40 : 40 < Y
  · have hd40 : decide (40 < Y) = true := decide_eq_true h40
    have hst := Lib.hid (Step.refl Nil w)
    go_enter Tryz.func9, Tryz.ntmps9
    go_wp2_with fail
    refine (awake07 _).mono ?_
    rintro _ W1 ⟨rfl, kn⟩
    replace hst := Lib.hid (hst.out.nil kn)
    clear kn
    go_wp2_with fail
    refine (laid07_any (HL.out.keeps_nil hst.out.keeps)).mono ?_
    rintro _ W2 ⟨t, ab, ao, ac, a2, c2, vf, S1, rfl, hT, hX, hF, kn⟩
    replace hT := Lib.hid hT
    replace hX := Lib.hid hX
    replace hT := hT.out
    replace hX := hX.out
    rw [← HF.out.1] at hT
    rw [← HF.out.2.1] at hX ⊢
    rw [← HF.out.2.2] at hF
    obtain ⟨af, cf, rfl, hfm⟩ := hF.val
    rw [← HM.out] at hF ⊢
    have hfm2 := Lib.hid hfm
    clear hfm
    replace hF := Lib.hid hF
    replace hT := Lib.hid hT
    replace hX := Lib.hid hX
    replace hst := Lib.hid (hst.out.trans kn)
    clear kn
    obtain ⟨W3, hW3⟩ : ∃ W, W = W2.alloc (.cells #[.slice (some ⟨ab, ao, none⟩) 600 ac, .slice a2 P.length c2] 71) := ⟨_, rfl⟩
    obtain ⟨B1, eB1⟩ : ∃ B, B = W2.heap.size := ⟨_, rfl⟩
    replace hW3 := Lib.hid hW3
    replace eB1 := Lib.hid eB1
    go_wp2_with fail
    rw [← hW3.out]
    try rw [← eB1.out]
    have k1 : Keeps Nil W2 W3 := by rw [hW3.out]; exact alloc_keeps _ _
    have e0B1 : B1 = W2.heap.size := by rw [eB1.out]
    have hB1 := Lib.hid (show Bx W3 S1 B1 #[.slice (some ⟨ab, ao, none⟩) 600 ac, .slice a2 P.length c2] 71 by rw [hW3.out]; exact Bx.new hT.out.lt _ _ e0B1)
    have gB1 := Lib.hid (show w.heap.size ≤ B1 by rw [e0B1]; exact hst.out.keeps.size)
    replace hst := Lib.hid (hst.out.nil k1)
    replace hX := Lib.hid (hX.out.keeps_nil k1)
    replace hF := Lib.hid (hF.out.keeps_nil k1)
    replace hT := Lib.hid (hT.out.nil k1)
    clear k1 e0B1
    obtain ⟨f1, ef1⟩ : ∃ g, g = PT.stF 4800 f0 32 0 := ⟨_, rfl⟩
    have hZ := Lib.hid (show Stands f0 X f1 [] by rw [ef1]; exact Stands.start HQ.out.1 HQ.out.2 (fun x _ => rfl))
    refine (plantF_any hT.out 0 _ rfl).mono ?_
    rintro _ W4 ⟨rfl, S1, hT2, kn⟩
    rw [← ef1] at hT2
    clear ef1
    replace hst := Lib.hid (hst.out.trans kn)
    replace hX := Lib.hid (hX.out.steps kn)
    replace hF := Lib.hid (hF.out.steps kn)
    replace hB1 := Lib.hid (hB1.out.steps kn)
    replace hT := Lib.hid hT2
    clear kn hT2
    have c_B1_0 := hB1.out.cell 0 _ rfl
    have f_B1_0 := hB1.out.frz 0
    have c_B1_1 := hB1.out.cell 1 _ rfl
    have f_B1_1 := hB1.out.frz 1
    have l_B1 := hB1.out.lt
    go_wp2_with fail
    go_ret
    clear c_B1_0 f_B1_0 c_B1_1 f_B1_1 l_B1
    exact ⟨rfl, hst.out.keeps⟩
  · have hd40 : decide (40 < Y) = false := decide_eq_false h40
    have hY40 : Y ≤ 40 := by omega
    clear h40
    have hst := Lib.hid (Step.refl Nil w)
    go_enter Tryz.func9, Tryz.ntmps9
    go_wp2_with fail
    refine (awake07 _).mono ?_
    rintro _ W1 ⟨rfl, kn⟩
    replace hst := Lib.hid (hst.out.nil kn)
    clear kn
    go_wp2_with fail
    refine (laid07_any (HL.out.keeps_nil hst.out.keeps)).mono ?_
    rintro _ W2 ⟨t, ab, ao, ac, a2, c2, vf, S1, rfl, hT, hX, hF, kn⟩
    replace hT := Lib.hid hT
    replace hX := Lib.hid hX
    replace hT := hT.out
    replace hX := hX.out
    rw [← HF.out.1] at hT
    rw [← HF.out.2.1] at hX ⊢
    rw [← HF.out.2.2] at hF
    obtain ⟨af, cf, rfl, hfm⟩ := hF.val
    rw [← HM.out] at hF ⊢
    have hfm2 := Lib.hid hfm
    clear hfm
    replace hF := Lib.hid hF
    replace hT := Lib.hid hT
    replace hX := Lib.hid hX
    replace hst := Lib.hid (hst.out.trans kn)
    clear kn
    obtain ⟨W3, hW3⟩ : ∃ W, W = W2.alloc (.cells #[.slice (some ⟨ab, ao, none⟩) 600 ac, .slice a2 P.length c2] 71) := ⟨_, rfl⟩
    obtain ⟨B1, eB1⟩ : ∃ B, B = W2.heap.size := ⟨_, rfl⟩
    replace hW3 := Lib.hid hW3
    replace eB1 := Lib.hid eB1
    go_wp2_with fail
    rw [← hW3.out]
    try rw [← eB1.out]
    have k1 : Keeps Nil W2 W3 := by rw [hW3.out]; exact alloc_keeps _ _
    have e0B1 : B1 = W2.heap.size := by rw [eB1.out]
    have hB1 := Lib.hid (show Bx W3 S1 B1 #[.slice (some ⟨ab, ao, none⟩) 600 ac, .slice a2 P.length c2] 71 by rw [hW3.out]; exact Bx.new hT.out.lt _ _ e0B1)
    have gB1 := Lib.hid (show w.heap.size ≤ B1 by rw [e0B1]; exact hst.out.keeps.size)
    replace hst := Lib.hid (hst.out.nil k1)
    replace hX := Lib.hid (hX.out.keeps_nil k1)
    replace hF := Lib.hid (hF.out.keeps_nil k1)
    replace hT := Lib.hid (hT.out.nil k1)
    clear k1 e0B1
    obtain ⟨f1, ef1⟩ : ∃ g, g = PT.stF 4800 f0 32 0 := ⟨_, rfl⟩
    have hZ := Lib.hid (show Stands f0 X f1 [] by rw [ef1]; exact Stands.start HQ.out.1 HQ.out.2 (fun x _ => rfl))
    refine (plantF_any hT.out 0 _ rfl).mono ?_
    rintro _ W4 ⟨rfl, S1, hT2, kn⟩
    rw [← ef1] at hT2
    clear ef1
    replace hst := Lib.hid (hst.out.trans kn)
    replace hX := Lib.hid (hX.out.steps kn)
    replace hF := Lib.hid (hF.out.steps kn)
    replace hB1 := Lib.hid (hB1.out.steps kn)
    replace hT := Lib.hid hT2
    clear kn hT2
    have c_B1_0 := hB1.out.cell 0 _ rfl
    have f_B1_0 := hB1.out.frz 0
    have c_B1_1 := hB1.out.cell 1 _ rfl
    have f_B1_1 := hB1.out.frz 1
    have l_B1 := hB1.out.lt
    go_wp2_with fail
    clear c_B1_0 f_B1_0 c_B1_1 f_B1_1 l_B1
    have hM := Lib.hid (show MixW w t f1 X (.slice af M cf) S1 (.slice none 0 0) W4.heap.size [] W4 from ⟨hst.out, hT.out, hF.out.shut (fun g _ e => e.elim id (fun e => by cases e)), Own.nil _ _ _, (fun g e => by cases e), hst.out.keeps.size, Nat.le_refl _⟩)
    clear hst hT hF hX hB1
    go_wp2_with fail
    go_loopw [9, 10] (fun vin i wr => ∃ (k n : Nat) (S : Nat → Prop) (f : UInt64 → UInt64) (I : List UInt64) (rb : Nat) (a : Option Addr) (c : Nat), k ≤ Y ∧ vin = .slice a n c ∧ i = .int .i64 (k : Int) ∧ Hid (MixW w t f X (.slice af M cf) S (.slice a n c) rb I wr) ∧ Hid (Stands f0 X f I) ∧ Hid (n = I.length ∧ n ≤ k)) (fun vin i _ => Y - (intOf i).toNat)
    case atStart => exact ⟨0, 0, _, _, [], _, none, 0, Nat.zero_le _, rfl, rfl, hM, hZ, Lib.hid ⟨rfl, Nat.zero_le _⟩⟩
    case round =>
      clear hM hZ
      obtain ⟨k, n, S, f, I, rb, a, c, hk, rfl, rfl, hM, hZ, HI⟩ := hrel
      by_cases hlt : k < Y
      · obtain ⟨gy, gyo, cpy, e1, hcy, _, hgy, _, hcly⟩ := HY.out.pos (by rw [← HYL.out]; omega)
        simp only [Value.slice.injEq] at e1
        obtain ⟨rfl, hn1, rfl⟩ := e1
        clear hn1
        obtain ⟨st, hst9⟩ : ∃ s, ys[k]? = some s := ⟨ys[k]'(by rw [← HYL.out]; exact hlt), by simp⟩
        obtain ⟨sn, hsn⟩ : ∃ q : Nat, q = st.toNat := ⟨_, rfl⟩
        have hsn6 : sn ≤ 255 := by rw [hsn]; have := st.toNat_lt; omega
        obtain ⟨gf, gfo, cpf, e2, hcpf, _, _, _, _⟩ := hM.out.fr.pos (by rw [← HM.out]; exact hM0)
        simp only [Value.slice.injEq] at e2
        obtain ⟨rfl, hn2, rfl⟩ := e2
        clear hn2
        obtain ⟨j, hj⟩ : ∃ q : Nat, q = sn % M := ⟨_, rfl⟩
        have hjM : j < M := by rw [hj]; exact Nat.mod_lt _ hM0
        have hjM2 : j ≤ M := Nat.le_of_lt hjM
        obtain ⟨y, hyx⟩ : ∃ y, X[j]? = some y := ⟨X[j]'(by rw [← HM.out]; exact hjM), by simp⟩
        have HYX := Lib.hid (List.mem_of_getElem? hyx)
        have HX1 := Lib.hid hyx
        have HST := Lib.hid hst9
        have HCY := Lib.hid (And.intro hcly (And.intro hgy hsn))
        have HLT := Lib.hid hlt
        have hcM : M ≤ cf := by rw [HM.out]; exact hcpf
        have hcY : Y ≤ cy := by rw [HYL.out]; exact hcy
        have hk40 : k ≤ 40 := by omega
        have hn40 : n ≤ 40 := by have := HI.out.2; omega
        replace hj := Lib.hid hj
        have q_s : IntKind.i64.wrap (sn : Int) = (sn : Int) := by rw [IntWalk.i64_left]; exact IntWalk.wrap64_in _ (by omega)
        have q_j : ((sn : Int) % (M : Int)) = (j : Int) := by rw [hj.out]; rfl
        have q_j2 : Int.tmod (sn : Int) (M : Int) = (j : Int) := by rw [hj.out]; rfl
        clear hyx hst9 hcly hgy hsn hcy hcpf
        have e_s : wr.cell? ⟨gy, gyo + k, none⟩ = some (.int .u8 (sn : Int)) := by rw [HCY.out.2.2]; exact (hM.out.st.keeps.cell HCY.out.2.1 (fun e => e) _).trans (cellY_view HCY.out.1 k st HST.out)
        have l_gy := Nat.lt_of_lt_of_le HCY.out.2.1 hM.out.st.keeps.size
        have e_f : wr.cell? ⟨gf, gfo + j, none⟩ = some (.int .u64 (y.toNat : Int)) := View.cellX hM.out.fr.at.2.2.2.2.2 j y HX1.out
        have l_gf := hM.out.fr.at.2.2.2.1
        go_wp2_with fail
        clear e_s l_gy e_f l_gf
        have hin := Lib.hid (show View kU (fun k => S k ∨ (Value.slice none 0 0).ownBlock = some k) wr (.slice a n c) I from hM.out.own_view.shut (fun g _ e => e.elim id (fun e => by cases e)))
        replace hM := Lib.hid hM.out.fresh
        clear q_s q_j q_j2
        go_loopw [12, 13] (fun vr kv wr => ∃ (m q : Nat) (Q : List UInt64) (rb2 : Nat) (a2 : Option Addr) (c2 : Nat), m ≤ n ∧ vr = .slice a2 q c2 ∧ kv = .int .i64 (m : Int) ∧ Hid (MixW w t f X (.slice (some ⟨gf, gfo, none⟩) M cf) S (.slice a2 q c2) rb2 Q wr) ∧ Hid (View kU (fun k => S k ∨ (Value.slice a2 q c2).ownBlock = some k) wr (.slice a n c) I) ∧ Hid (q = Q.length ∧ Q = (I.take m).filter (fun z => z != y))) (fun vr kv _ => n - (intOf kv).toNat)
        case atStart => exact ⟨0, 0, [], _, none, 0, Nat.zero_le _, rfl, rfl, hM, hin, Lib.hid ⟨rfl, by simp⟩⟩
        case round =>
          clear hM hin
          obtain ⟨m, q, Q, rb2, a2, c2, hm, rfl, rfl, hM, hin, HQ2⟩ := hrel
          by_cases hmt : m < n
          · obtain ⟨gi, gio, cpi, e3, hcpi, _, _, _, _⟩ := hin.out.pos (by rw [← HI.out.1]; omega)
            simp only [Value.slice.injEq] at e3
            obtain ⟨rfl, hn3, rfl⟩ := e3
            clear hn3
            obtain ⟨z, hz⟩ : ∃ z, I[m]? = some z := ⟨I[m]'(by rw [← HI.out.1]; omega), by simp⟩
            have HZ1 := Lib.hid hz
            have hcn : n ≤ c := by rw [HI.out.1]; exact hcpi
            have HMT := Lib.hid hmt
            have hQ6 : Q.length < 4294967296 := by rw [HQ2.out.2]; exact Nat.lt_of_le_of_lt (List.length_filter_le _ _) (by rw [List.length_take]; omega)
            clear hz hcpi
            by_cases hzy : z = y
            · have HZY := Lib.hid hzy
              clear hzy
              have d1 : (((z.toNat : Int) : Int) != ((y.toNat : Int) : Int)) = false := (same_u64 (a := z) (b := y) (HZY.out)).1
              have e_z : wr.cell? ⟨gi, gio + m, none⟩ = some (.int .u64 (z.toNat : Int)) := View.cellX hin.out.at.2.2.2.2.2 m z HZ1.out
              have l_gi := hin.out.at.2.2.2.1
              go_wp2_with fail
              clear e_z l_gi
              go_roundw
              case rel => exact ⟨m + 1, q, Q, _, _, _, by have := HMT.out; omega, rfl, by go_num, hM, hin, Lib.hid ⟨HQ2.out.1, by rw [take_succ' HZ1.out, List.filter_append, ← HQ2.out.2, HZY.out]; simp⟩⟩
              case measure => simp [intOf]; have := HMT.out; omega
            · have HZY := Lib.hid hzy
              clear hzy
              have d1 : (((z.toNat : Int) : Int) != ((y.toNat : Int) : Int)) = true := (unlike_u64 (a := z) (b := y) (HZY.out)).1
              have e_z : wr.cell? ⟨gi, gio + m, none⟩ = some (.int .u64 (z.toNat : Int)) := View.cellX hin.out.at.2.2.2.2.2 m z HZ1.out
              have l_gi := hin.out.at.2.2.2.1
              go_wp2_with (at_builtin
                           refine wpList_append_one kU rfl _ _ rfl hM.out.row rfl (z) _ rfl rfl hQ6 hM.out.base.2 ?_
                           rintro _ W5 ho5 kA5 ⟨g5, cap5, rfl, hg5⟩
                           have hin5 := Lib.hid (hin.out.growN kA5 (own_one (n := Q.length + 1) (c := cap5) hg5))
                           clear hin; have hin := hin5; clear hin5
                           have hM5 := Lib.hid (hM.out.grow ho5 kA5 (own_one hg5))
                           clear ho5 kA5 hg5
                           clear hM; have hM := hM5; clear hM5)
              clear e_z l_gi
              go_roundw
              case rel => exact ⟨m + 1, Q.length + 1, Q ++ [z], _, _, _, by have := HMT.out; omega, rfl, by go_num, hM, hin, Lib.hid ⟨by simp, by rw [take_succ' HZ1.out, List.filter_append, ← HQ2.out.2]; simp [HZY.out]⟩⟩
              case measure => simp [intOf]; have := HMT.out; omega
          · have HQF := Lib.hid (show Q = I.filter (fun z => z != y) by rw [HQ2.out.2, List.take_of_length_le (by rw [← HI.out.1]; omega)])
            have HQL := Lib.hid HQ2.out.1
            have hQ6 : Q.length < 4294967296 := by rw [HQF.out]; exact Nat.lt_of_le_of_lt (List.length_filter_le _ _) (by rw [← HI.out.1]; omega)
            have HQN := Lib.hid (show q ≤ n by rw [HQL.out, HQF.out, HI.out.1]; exact List.length_filter_le _ _)
            clear hin
            by_cases hyi : y ∈ I
            · have HW := Lib.hid (show decide (y ∈ I) = true from decide_eq_true hyi)
              have hqn : q < n := by rw [HQL.out, HQF.out, HI.out.1]; exact filter_short hyi
              have hdq : decide (q < n) = true := decide_eq_true hqn
              clear hyi
              go_wp2_with fail
              obtain ⟨f2a, f2r, hIf2, hZf2⟩ := Stands.cut HQ.out.1 HQ.out.2 hZ.out y
              rw [show decide ((y : UInt64) ∈ (I : List UInt64)) = true from HW.out] at hIf2 hZf2
              obtain ⟨f2, ef2⟩ : ∃ g, g = PT.stF 4800 f2a 32 f2r := ⟨_, rfl⟩
              rw [if_pos rfl, ← ef2, ← HQF.out] at hZf2
              replace hZ := Lib.hid hZf2
              clear hZf2
              replace hIf2 := Lib.hid hIf2
              refine (Delete_any hIf2.out hM.out.tx).mono ?_
              rintro _ W5 ⟨rfl, S2, hT2, kn⟩
              rw [if_pos rfl, ← ef2] at hT2
              replace hM := Lib.hid (hM.out.turn kn hT2)
              clear ef2 hIf2 kn hT2
              go_wp2_with fail
              obtain ⟨T1, hT1a, hT1b, hT1c⟩ := Stands.checks HQ.out.1 hZ.out (k := Q) hZ.out.nodup (fun x hx => HQ.out.1.nz (hZ.out.sub x hx))
              have hT1d : checkT f2 T1 = true := hT1c.2 (fun x => Iff.rfl)
              replace hT1a := Lib.hid (And.intro hT1a (And.intro hT1b hT1d))
              clear hT1b hT1c hT1d
              refine (Check_any hM.out.tx (show View kU S2 _ (.slice a2 q c2) Q from hM.out.own_view) hQ6 hT1a.out.1 hT1a.out.2.1).mono ?_
              rintro _ W6 ⟨rfl, kn⟩
              rw [hT1a.out.2.2]
              clear hT1a
              replace hM := Lib.hid (hM.out.nil kn)
              clear kn
              go_wp2_with fail
              go_roundw
              case rel => exact ⟨k + 1, q, _, _, Q, _, _, _, by have := HLT.out; omega, rfl, by go_num, hM, hZ, Lib.hid ⟨HQL.out, by have := HI.out.2; have := HQN.out; omega⟩⟩
              case measure => simp [intOf]; have := HLT.out; omega
            · have HW := Lib.hid (show decide (y ∈ I) = false from decide_eq_false hyi)
              have hQI : Q = I := by rw [HQF.out]; exact cut_none hyi
              have HNQ := Lib.hid (show y ∉ Q by rw [hQI]; exact hyi)
              have hqn : q = n := by rw [HQL.out, hQI]; exact HI.out.1.symm
              have hdq : decide (q < n) = false := decide_eq_false (by omega)
              clear hyi hQI hqn
              go_wp2_with fail
              obtain ⟨f2a, f2r, hIf2, hZf2⟩ := Stands.cut HQ.out.1 HQ.out.2 hZ.out y
              rw [show decide ((y : UInt64) ∈ (I : List UInt64)) = false from HW.out] at hIf2 hZf2
              obtain ⟨f2, ef2⟩ : ∃ g, g = f2a := ⟨_, rfl⟩
              rw [if_neg (by decide), ← ef2, ← HQF.out] at hZf2
              replace hZ := Lib.hid hZf2
              clear hZf2
              replace hIf2 := Lib.hid hIf2
              refine (Delete_any hIf2.out hM.out.tx).mono ?_
              rintro _ W5 ⟨rfl, S2, hT2, kn⟩
              rw [if_neg (by decide), ← ef2] at hT2
              replace hM := Lib.hid (hM.out.turn kn hT2)
              clear ef2 hIf2 kn hT2
              go_wp2_with fail
              obtain ⟨f3a, f3r, hIf3, hZf3⟩ := Stands.put HQ.out.1 HQ.out.2 hZ.out (off := y) HYX.out HNQ.out
              obtain ⟨f3, ef3⟩ : ∃ g, g = PT.stF 4800 f3a 32 f3r := ⟨_, rfl⟩
              rw [← ef3] at hZf3
              replace hZ := Lib.hid hZf3
              clear hZf3
              replace hIf3 := Lib.hid hIf3
              refine (Insert_any hIf3.out hM.out.tx).mono ?_
              rintro _ W6 ⟨rfl, S3, hT2, kn⟩
              rw [← ef3] at hT2
              replace hM := Lib.hid (hM.out.turn kn hT2)
              clear ef3 hIf3 kn hT2
              go_wp2_with (at_builtin
                           refine wpList_append_one kU rfl _ _ rfl hM.out.row rfl (y) _ rfl rfl hQ6 hM.out.base.2 ?_
                           rintro _ W7 ho7 kA7 ⟨g7, cap7, rfl, hg7⟩
                           have hM7 := Lib.hid (hM.out.grow ho7 kA7 (own_one hg7))
                           clear ho7 kA7 hg7
                           clear hM; have hM := hM7; clear hM7)
              obtain ⟨T1, hT1a, hT1b, hT1c⟩ := Stands.checks HQ.out.1 hZ.out (k := (Q ++ [y])) hZ.out.nodup (fun x hx => HQ.out.1.nz (hZ.out.sub x hx))
              have hT1d : checkT f3 T1 = true := hT1c.2 (fun x => Iff.rfl)
              replace hT1a := Lib.hid (And.intro hT1a (And.intro hT1b hT1d))
              clear hT1b hT1c hT1d
              refine (Check_any hM.out.tx (show View kU S3 _ (.slice (some ⟨g7, 0, none⟩) (Q.length + 1) cap7) (Q ++ [y]) from hM.out.own_view) (by have h1 := HQL.out; have h2 := HQN.out; simp; omega) hT1a.out.1 hT1a.out.2.1).mono ?_
              rintro _ W8 ⟨rfl, kn⟩
              rw [hT1a.out.2.2]
              clear hT1a
              replace hM := Lib.hid (hM.out.nil kn)
              clear kn
              go_wp2_with fail
              go_roundw
              case rel => exact ⟨k + 1, Q.length + 1, _, _, Q ++ [y], _, _, _, by have := HLT.out; omega, rfl, by go_num, hM, hZ, Lib.hid ⟨by simp, by have := HI.out.2; have := HQN.out; have := HQL.out; omega⟩⟩
              case measure => simp [intOf]; have := HLT.out; omega
      · skip
        go_wp2_with fail
        obtain ⟨T9, _, hTb, _, hTd⟩ := hZ.out.told HQ.out.1
        replace hTb := Lib.hid (show T9.list.length = n by rw [hTb, sortF_length]; exact HI.out.1.symm)
        replace hTd := Lib.hid hTd
        refine (All_any hM.out.tx.readsK hM.out.tx.lt hTd.out (by rw [hTb.out]; have := HI.out.2; omega)).mono ?_
        rintro _ W5 ⟨v, rfl, ho, kn⟩
        obtain ⟨a9, c9, rfl⟩ := ho.valN
        rw [hTb.out]
        clear ho hTb hTd
        replace hM := Lib.hid (hM.out.nil kn)
        clear kn
        go_wp2_with fail
        go_ret
        exact ⟨by first | rfl | simp, hM.out.st.keeps⟩
end Go.Proofs.YtefpbljekfkefaaGreat
