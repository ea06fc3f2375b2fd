/- carracklaw06: PhysBeside. -/
import Derived.Test.YtccllkgaakmdhaaW6a
namespace Go.Proofs.Ytccllkgaakmdhaa
open Go.RowKit

set_option maxRecDepth 100000 in
set_option maxHeartbeats 4000000 in
theorem place6_0 (w : World) (a : Option Addr) (c : Nat) (off : UInt64) : Calls Try.prog 110 #[.slice a 0 c, .int .u64 (off.toNat : Int)] w fun e w' => e = .returned (.int .i64 (-1)) ∧ Keeps Nil w w' := by
  have hst := Lib.hid (Step.refl Nil w)
  go_enter Try.func110, Try.ntmps110
  go_wp2_with fail
  go_loopw [5] (fun i wr => i = .int .i64 0 ∧ Keeps Nil w wr) (fun i _ => 0)
  case atStart => exact ⟨rfl, hst.out.keeps⟩
  case round =>
    obtain ⟨rfl, hK0⟩ := hrel
    replace hst := Lib.hid (Step.of_nil (S := Nil) hK0)
    clear hK0
    go_wp2_with fail
    go_ret
    exact ⟨rfl, hst.out.keeps⟩
set_option maxRecDepth 100000 in
set_option maxHeartbeats 4000000 in
theorem rBeside6_0 (w : World) (a : Option Addr) (c : Nat) (off : UInt64) (d : Int) : Calls Try.prog 82 #[.slice a 0 c, .int .u64 (off.toNat : Int), .int .i64 d] w fun e w' => e = .returned (.tuple #[.agg (blockOf (besideO [] off d)).cells, .bool (besideO [] off d).isSome]) ∧ Keeps Nil w w' := by
  have hr : besideO [] off d = none := by unfold besideO; rw [if_pos (.inl (by rw [show idxP (offP off) [] = -1 from rfl]; decide))]
  rw [hr]
  clear hr
  have hst := Lib.hid (Step.refl Nil w)
  go_enter Try.func82, Try.ntmps82
  obtain ⟨W1, hW1⟩ : ∃ W, W = w.alloc (.cells #[.int .u64 0, .int .u64 0, .bool false, .int .i64 0, .int .u64 0] 108) := ⟨_, rfl⟩
  obtain ⟨B1, eB1⟩ : ∃ B, B = w.heap.size := ⟨_, rfl⟩
  replace hW1 := Lib.hid hW1
  replace eB1 := Lib.hid eB1
  go_wp2_with fail
  rw [← hW1.out]
  try rw [← eB1.out]
  have k1 : Keeps Nil w W1 := by rw [hW1.out]; exact alloc_keeps _ _
  have e0B1 : B1 = w.heap.size := by rw [eB1.out]
  have hB1 := Lib.hid (show Bx W1 Nil B1 #[.int .u64 0, .int .u64 0, .bool false, .int .i64 0, .int .u64 0] 108 by rw [hW1.out]; exact Bx.new Nil.lt _ _ e0B1)
  have gB1 := Lib.hid (show w.heap.size ≤ B1 by rw [e0B1]; exact hst.out.keeps.size)
  replace hst := Lib.hid (hst.out.nil k1)
  clear k1 e0B1
  refine (place6_0 _ _ _ off).mono ?_
  rintro _ W2 ⟨rfl, kn⟩
  replace hst := Lib.hid (hst.out.nil kn)
  replace hB1 := Lib.hid (hB1.out.nil kn)
  clear kn
  have c_B1_0 := hB1.out.cell 0 _ rfl
  have f_B1_0 := hB1.out.frz 0
  have c_B1_1 := hB1.out.cell 1 _ rfl
  have f_B1_1 := hB1.out.frz 1
  have c_B1_2 := hB1.out.cell 2 _ rfl
  have f_B1_2 := hB1.out.frz 2
  have c_B1_3 := hB1.out.cell 3 _ rfl
  have f_B1_3 := hB1.out.frz 3
  have c_B1_4 := hB1.out.cell 4 _ rfl
  have f_B1_4 := hB1.out.frz 4
  have l_B1 := hB1.out.lt
  obtain ⟨W3, hW3⟩ : ∃ W, W = (((((W2.setCell ⟨B1, 0, none⟩ (.int .u64 0)).setCell ⟨B1, 1, none⟩ (.int .u64 0)).setCell ⟨B1, 2, none⟩ (.bool false)).setCell ⟨B1, 3, none⟩ (.int .i64 0)).setCell ⟨B1, 4, none⟩ (.int .u64 0)) := ⟨_, rfl⟩
  replace hW3 := Lib.hid hW3
  go_wp2_with fail
  clear c_B1_0 f_B1_0 c_B1_1 f_B1_1 c_B1_2 f_B1_2 c_B1_3 f_B1_3 c_B1_4 f_B1_4 l_B1
  rw [← hW3.out]
  replace hst := Lib.hid (show Step _ Nil w W3 by rw [hW3.out]; exact (((((hst.out.set gB1.out _ _).set gB1.out _ _).set gB1.out _ _).set gB1.out _ _).set gB1.out _ _))
  replace hB1 := Lib.hid (show Bx W3 Nil B1 #[.int .u64 0, .int .u64 0, .bool false, .int .i64 0, .int .u64 0] 108 by rw [hW3.out]; exact (((((hB1.out.set _ _).set _ _).set _ _).set _ _).set _ _))
  refine bodyPost_ret (results_row_tmp rfl rfl hB1.out.1 Try.underlying108 rfl (by kernel_rfl)) rfl ?_
  exact ⟨rfl, hst.out.keeps⟩
set_option maxRecDepth 100000 in
set_option maxHeartbeats 4000000 in
theorem rMerged6_0 (w : World) (a : Option Addr) (c : Nat) : Calls Try.prog 85 #[.slice a 0 c] w fun e w' => e = .returned (.bool (mergedB [])) ∧ Keeps Nil w w' := by
  rw [show mergedB [] = true from rfl]
  have hst := Lib.hid (Step.refl Nil w)
  go_enter Try.func85, Try.ntmps85
  go_wp2_with fail
  go_loopw [3] (fun i wr => i = .int .i64 1 ∧ Keeps Nil w wr) (fun i _ => 0)
  case atStart => exact ⟨rfl, hst.out.keeps⟩
  case round =>
    obtain ⟨rfl, hK0⟩ := hrel
    replace hst := Lib.hid (Step.of_nil (S := Nil) hK0)
    clear hK0
    go_wp2_with fail
    go_ret
    exact ⟨rfl, hst.out.keeps⟩

theorem rBesideL {w : World} {v : Value} {l : List BlockV} (h : Look kRB w v l) (off : UInt64) (d : Int) (hd : -1 ≤ d ∧ d ≤ 1) :
    Calls Try.prog 82 #[v, .int .u64 (off.toNat : Int), .int .i64 d] w fun e w' => e = .returned (.tuple #[.agg (blockOf (besideO l off d)).cells, .bool (besideO l off d).isSome]) ∧ Keeps Nil w w' := by
  rcases h with h | ⟨⟨a, c, rfl⟩, rfl⟩
  · exact rBeside_any h (fun _ e => e) off d hd
  · exact rBeside6_0 w a c off d
theorem rMergedL {w : World} {v : Value} {l : List BlockV} (h : Look kRB w v l) :
    Calls Try.prog 85 #[v] w fun e w' => e = .returned (.bool (mergedB l)) ∧ Keeps Nil w w' := by
  rcases h with h | ⟨⟨a, c, rfl⟩, rfl⟩
  · exact rMerged_any h
  · exact rMerged6_0 w a c

set_option maxRecDepth 100000 in
set_option maxHeartbeats 4000000 in
theorem physBeside_any {w : World} {vl : Value} {l : List BlockV} (off : UInt64) (h : Look kRB w vl l) : Calls Try.prog 24 #[vl, .int .u64 (off.toNat : Int)] w fun e w' => e = .returned (.bool true) ∧ Keeps Nil w w' := by
  obtain ⟨⟨bo, ⟨bs, bu, bw⟩, bl⟩, hb⟩ : ∃ b, b = blockOf (besideO l off (-1)) := ⟨_, rfl⟩
  obtain ⟨is, hi⟩ : ∃ b, b = (besideO l off (-1)).isSome := ⟨_, rfl⟩
  obtain ⟨⟨co, ⟨cs, cu, cw⟩, cl⟩, hc⟩ : ∃ b, b = blockOf (besideO l off 1) := ⟨_, rfl⟩
  obtain ⟨has, hh⟩ : ∃ b, b = (besideO l off 1).isSome := ⟨_, rfl⟩
  obtain ⟨mg, hmg⟩ : ∃ b, b = mergedB l := ⟨_, rfl⟩
  obtain ⟨N, hN⟩ : ∃ N, N = l.length := ⟨_, rfl⟩
  have HE := Lib.hid (And.intro hb (And.intro hi (And.intro hc (And.intro hh hmg))))
  have HL := Lib.hid h
  have HN := Lib.hid hN
  have hgd := blk_gd
  obtain ⟨al, lcap, e, hlm⟩ := h.val
  have hNm : N ≤ 9223372036854775807 := by unfold maxLen at hlm; omega
  rw [← hN] at e
  clear hb hi hc hh hmg h hN hlm
  by_cases h20 : 20 < N
  · subst e
    have hst := Lib.hid (Step.refl Nil w)
    go_enter Try.func24, Try.ntmps24
    go_wp2_with fail
    refine (awake06 _).mono ?_
    rintro _ W1 ⟨rfl, kn⟩
    replace hst := Lib.hid (hst.out.nil kn)
    clear kn
    go_wp2_with fail
    go_ret
    exact ⟨rfl, hst.out.keeps⟩
  · by_cases hp : 0 < N
    · obtain ⟨gb, go, cap, e2, hc, hm, hb, _, hcell⟩ := HL.out.pos (by rw [← HN.out]; exact hp)
      rw [← HN.out] at e2
      obtain rfl := e2
      clear e
      have HC := Lib.hid hcell
      have HGB := Lib.hid hb
      clear hcell hc hm hb
      have hst := Lib.hid (Step.refl Nil w)
      go_enter Try.func24, Try.ntmps24
      go_wp2_with fail
      refine (awake06 _).mono ?_
      rintro _ W1 ⟨rfl, kn⟩
      replace hst := Lib.hid (hst.out.nil kn)
      clear kn
      go_wp2_with fail
      obtain ⟨rb, hrb⟩ : ∃ b, b = W1.heap.size := ⟨_, rfl⟩
      have grb := Lib.hid (show w.heap.size ≤ rb by rw [hrb]; exact hst.out.keeps.size)
      have srb := Lib.hid (show rb ≤ W1.heap.size by rw [hrb]; exact Nat.le_refl _)
      clear hrb
      go_loopw [6, 7] (fun vrow i wr => ∃ (k : Nat) (P : List BlockV) (rv : Value), k ≤ N ∧ rv = vrow ∧ i = .int .i64 (k : Int) ∧ Hid (P = l.take k) ∧ Hid (Keeps Nil w wr) ∧ Hid (Own kB wr rb rv P) ∧ Hid (rb ≤ wr.heap.size)) (fun vrow i _ => N - (intOf i).toNat)
      case atStart => exact ⟨0, [], _, by omega, rfl, rfl, rfl, Lib.hid hst.out.keeps, Own.nil _ _ _, srb⟩
      case round =>
        obtain ⟨k, P, rv, hk, rfl, rfl, HP, hK0, ho, hsb⟩ := hrel
        replace hst := Lib.hid (Step.of_nil (S := Nil) hK0.out)
        clear hK0
        have hPl : P.length < 4294967296 := by rw [HP.out, List.length_take]; omega
        by_cases hlt : k < N
        · obtain ⟨⟨xo, ⟨xs, xu, xw⟩, xl⟩, hx⟩ : ∃ x, l[k]? = some x := ⟨l[k]'(by have := HN.out; omega), by have := HN.out; simp⟩
          have HX := Lib.hid hx
          clear hx
          have e_x0 := (hst.out.keeps.cell HGB.out (fun e => e) _).trans (View.cellB HC.out k _ HX.out).1
          have e_x1 := (hst.out.keeps.cell HGB.out (fun e => e) _).trans (View.cellB HC.out k _ HX.out).2.1
          have e_x2 := (hst.out.keeps.cell HGB.out (fun e => e) _).trans (View.cellB HC.out k _ HX.out).2.2.1
          have e_x3 := (hst.out.keeps.cell HGB.out (fun e => e) _).trans (View.cellB HC.out k _ HX.out).2.2.2.1
          have e_x4 := (hst.out.keeps.cell HGB.out (fun e => e) _).trans (View.cellB HC.out k _ HX.out).2.2.2.2
          go_wp2_with fail
          clear e_x0 e_x1 e_x2 e_x3 e_x4
          refine (made06 _ ⟨xo, ⟨xs, xu, xw⟩, xl⟩).mono ?_
          rintro _ W2 ⟨rfl, kn⟩
          rw [BlockV.cells_def]
          replace hst := Lib.hid (hst.out.nil kn)
          replace ho := Lib.hid (ho.out.keeps_nil kn)
          replace hsb := Lib.hid (Nat.le_trans hsb.out kn.size)
          clear kn
          have e_x0 := (hst.out.keeps.cell HGB.out (fun e => e) _).trans (View.cellB HC.out k _ HX.out).1
          have e_x1 := (hst.out.keeps.cell HGB.out (fun e => e) _).trans (View.cellB HC.out k _ HX.out).2.1
          have e_x2 := (hst.out.keeps.cell HGB.out (fun e => e) _).trans (View.cellB HC.out k _ HX.out).2.2.1
          have e_x3 := (hst.out.keeps.cell HGB.out (fun e => e) _).trans (View.cellB HC.out k _ HX.out).2.2.2.1
          have e_x4 := (hst.out.keeps.cell HGB.out (fun e => e) _).trans (View.cellB HC.out k _ HX.out).2.2.2.2
          go_wp2_with (at_builtin
                       refine wpList_append_one kB rfl _ _ rfl ho.out rfl (⟨xo, ⟨xs, xu, xw⟩, xl⟩) _ rfl rfl hPl hsb.out ?_
                       rintro _ W3 ho3 kA3 ⟨g3, cap3, rfl, hg3⟩
                       have hst3 := Lib.hid (hst.out.own ho.out grb.out kA3)
                       replace ho3 := Lib.hid ho3
                       have hs3 := Lib.hid (Nat.le_trans hsb.out kA3.size)
                       clear kA3)
          clear hst; have hst := hst3; clear hst3
          clear e_x0 e_x1 e_x2 e_x3 e_x4
          go_roundw
          case rel => exact ⟨k + 1, _, _, by omega, rfl, by go_num, Lib.hid (by rw [HP.out]; exact (take_succ' HX.out).symm), Lib.hid hst.out.keeps, ho3, hs3⟩
          case measure => simp [intOf]; omega
        · skip
          have hV := Lib.hid (show View kB Nil wr rv l by have := ho.out.view (S := Nil) (fun g hg e => e); rw [HP.out, List.take_of_length_le (by have := HN.out; omega)] at this; exact this)
          clear ho hsb
          go_wp2_with fail
          refine (pBefore_any hV.out off _ rfl).mono ?_
          rintro _ W2 ⟨rfl, kn⟩
          rw [← HE.out.1, ← HE.out.2.1, BlockV.cells_def]
          replace hst := Lib.hid (hst.out.nil kn)
          replace hV := Lib.hid (hV.out.keeps_nil kn)
          clear kn
          obtain ⟨W3, hW3⟩ : ∃ W, W = W2.alloc (.cells #[.int .u64 (bo.toNat : Int), .int .u64 (bs.toNat : Int), .bool bu, .int .i64 bw, .int .u64 (bl.toNat : Int)] 103) := ⟨_, rfl⟩
          obtain ⟨B1, eB1⟩ : ∃ B, B = W2.heap.size := ⟨_, rfl⟩
          replace hW3 := Lib.hid hW3
          replace eB1 := Lib.hid eB1
          go_wp2_with fail
          rw [← hW3.out]
          try rw [← eB1.out]
          have k1 : Keeps Nil W2 W3 := by rw [hW3.out]; exact alloc_keeps _ _
          have e0B1 : B1 = W2.heap.size := by rw [eB1.out]
          have hB1 := Lib.hid (show Bx W3 Nil B1 #[.int .u64 (bo.toNat : Int), .int .u64 (bs.toNat : Int), .bool bu, .int .i64 bw, .int .u64 (bl.toNat : Int)] 103 by rw [hW3.out]; exact Bx.new Nil.lt _ _ e0B1)
          have gB1 := Lib.hid (show w.heap.size ≤ B1 by rw [e0B1]; exact hst.out.keeps.size)
          replace hst := Lib.hid (hst.out.nil k1)
          replace hV := Lib.hid (hV.out.keeps_nil k1)
          clear k1 e0B1
          refine (rBesideL (HL.out.keeps_nil hst.out.keeps) off (-1) (by decide)).mono ?_
          rintro _ W4 ⟨rfl, kn⟩
          rw [← HE.out.1, ← HE.out.2.1, BlockV.cells_def]
          replace hst := Lib.hid (hst.out.nil kn)
          replace hV := Lib.hid (hV.out.keeps_nil kn)
          replace hB1 := Lib.hid (hB1.out.nil kn)
          clear kn
          have c_B1_0 := hB1.out.cell 0 _ rfl
          have f_B1_0 := hB1.out.frz 0
          have c_B1_1 := hB1.out.cell 1 _ rfl
          have f_B1_1 := hB1.out.frz 1
          have c_B1_2 := hB1.out.cell 2 _ rfl
          have f_B1_2 := hB1.out.frz 2
          have c_B1_3 := hB1.out.cell 3 _ rfl
          have f_B1_3 := hB1.out.frz 3
          have c_B1_4 := hB1.out.cell 4 _ rfl
          have f_B1_4 := hB1.out.frz 4
          have l_B1 := hB1.out.lt
          obtain ⟨W5, hW5⟩ : ∃ W, W = W4.alloc (.cells #[.int .u64 (bo.toNat : Int), .int .u64 (bs.toNat : Int), .bool bu, .int .i64 bw, .int .u64 (bl.toNat : Int)] 108) := ⟨_, rfl⟩
          obtain ⟨B2, eB2⟩ : ∃ B, B = W4.heap.size := ⟨_, rfl⟩
          replace hW5 := Lib.hid hW5
          replace eB2 := Lib.hid eB2
          go_wp2_with fail
          clear c_B1_0 f_B1_0 c_B1_1 f_B1_1 c_B1_2 f_B1_2 c_B1_3 f_B1_3 c_B1_4 f_B1_4 l_B1
          rw [← hW5.out]
          try rw [← eB2.out]
          have k2 : Keeps Nil W4 W5 := by rw [hW5.out]; exact alloc_keeps _ _
          have e0B2 : B2 = W4.heap.size := by rw [eB2.out]
          have hB2 := Lib.hid (show Bx W5 Nil B2 #[.int .u64 (bo.toNat : Int), .int .u64 (bs.toNat : Int), .bool bu, .int .i64 bw, .int .u64 (bl.toNat : Int)] 108 by rw [hW5.out]; exact Bx.new Nil.lt _ _ e0B2)
          have gB2 := Lib.hid (show w.heap.size ≤ B2 by rw [e0B2]; exact hst.out.keeps.size)
          have nB1B2 := Lib.hid (show B1 < B2 by rw [e0B2]; exact hB1.out.lt)
          replace hst := Lib.hid (hst.out.nil k2)
          replace hV := Lib.hid (hV.out.keeps_nil k2)
          replace hB1 := Lib.hid (hB1.out.nil k2)
          clear k2 e0B2
          refine (pAfter_any hV.out off _ rfl).mono ?_
          rintro _ W6 ⟨rfl, kn⟩
          rw [← HE.out.2.2.1, ← HE.out.2.2.2.1, BlockV.cells_def]
          replace hst := Lib.hid (hst.out.nil kn)
          replace hV := Lib.hid (hV.out.keeps_nil kn)
          replace hB1 := Lib.hid (hB1.out.nil kn)
          replace hB2 := Lib.hid (hB2.out.nil kn)
          clear kn
          have c_B1_0 := hB1.out.cell 0 _ rfl
          have f_B1_0 := hB1.out.frz 0
          have c_B1_1 := hB1.out.cell 1 _ rfl
          have f_B1_1 := hB1.out.frz 1
          have c_B1_2 := hB1.out.cell 2 _ rfl
          have f_B1_2 := hB1.out.frz 2
          have c_B1_3 := hB1.out.cell 3 _ rfl
          have f_B1_3 := hB1.out.frz 3
          have c_B1_4 := hB1.out.cell 4 _ rfl
          have f_B1_4 := hB1.out.frz 4
          have l_B1 := hB1.out.lt
          have c_B2_0 := hB2.out.cell 0 _ rfl
          have f_B2_0 := hB2.out.frz 0
          have c_B2_1 := hB2.out.cell 1 _ rfl
          have f_B2_1 := hB2.out.frz 1
          have c_B2_2 := hB2.out.cell 2 _ rfl
          have f_B2_2 := hB2.out.frz 2
          have c_B2_3 := hB2.out.cell 3 _ rfl
          have f_B2_3 := hB2.out.frz 3
          have c_B2_4 := hB2.out.cell 4 _ rfl
          have f_B2_4 := hB2.out.frz 4
          have l_B2 := hB2.out.lt
          obtain ⟨W7, hW7⟩ : ∃ W, W = W6.alloc (.cells #[.int .u64 (co.toNat : Int), .int .u64 (cs.toNat : Int), .bool cu, .int .i64 cw, .int .u64 (cl.toNat : Int)] 103) := ⟨_, rfl⟩
          obtain ⟨B3, eB3⟩ : ∃ B, B = W6.heap.size := ⟨_, rfl⟩
          replace hW7 := Lib.hid hW7
          replace eB3 := Lib.hid eB3
          go_wp2_with fail
          clear c_B1_0 f_B1_0 c_B1_1 f_B1_1 c_B1_2 f_B1_2 c_B1_3 f_B1_3 c_B1_4 f_B1_4 l_B1 c_B2_0 f_B2_0 c_B2_1 f_B2_1 c_B2_2 f_B2_2 c_B2_3 f_B2_3 c_B2_4 f_B2_4 l_B2
          rw [← hW7.out]
          try rw [← eB3.out]
          have k3 : Keeps Nil W6 W7 := by rw [hW7.out]; exact alloc_keeps _ _
          have e0B3 : B3 = W6.heap.size := by rw [eB3.out]
          have hB3 := Lib.hid (show Bx W7 Nil B3 #[.int .u64 (co.toNat : Int), .int .u64 (cs.toNat : Int), .bool cu, .int .i64 cw, .int .u64 (cl.toNat : Int)] 103 by rw [hW7.out]; exact Bx.new Nil.lt _ _ e0B3)
          have gB3 := Lib.hid (show w.heap.size ≤ B3 by rw [e0B3]; exact hst.out.keeps.size)
          have nB1B3 := Lib.hid (show B1 < B3 by rw [e0B3]; exact hB1.out.lt)
          have nB2B3 := Lib.hid (show B2 < B3 by rw [e0B3]; exact hB2.out.lt)
          replace hst := Lib.hid (hst.out.nil k3)
          replace hV := Lib.hid (hV.out.keeps_nil k3)
          replace hB1 := Lib.hid (hB1.out.nil k3)
          replace hB2 := Lib.hid (hB2.out.nil k3)
          clear k3 e0B3
          refine (rBesideL (HL.out.keeps_nil hst.out.keeps) off 1 (by decide)).mono ?_
          rintro _ W8 ⟨rfl, kn⟩
          rw [← HE.out.2.2.1, ← HE.out.2.2.2.1, BlockV.cells_def]
          replace hst := Lib.hid (hst.out.nil kn)
          replace hV := Lib.hid (hV.out.keeps_nil kn)
          replace hB1 := Lib.hid (hB1.out.nil kn)
          replace hB2 := Lib.hid (hB2.out.nil kn)
          replace hB3 := Lib.hid (hB3.out.nil kn)
          clear kn
          have c_B1_0 := hB1.out.cell 0 _ rfl
          have f_B1_0 := hB1.out.frz 0
          have c_B1_1 := hB1.out.cell 1 _ rfl
          have f_B1_1 := hB1.out.frz 1
          have c_B1_2 := hB1.out.cell 2 _ rfl
          have f_B1_2 := hB1.out.frz 2
          have c_B1_3 := hB1.out.cell 3 _ rfl
          have f_B1_3 := hB1.out.frz 3
          have c_B1_4 := hB1.out.cell 4 _ rfl
          have f_B1_4 := hB1.out.frz 4
          have l_B1 := hB1.out.lt
          have c_B2_0 := hB2.out.cell 0 _ rfl
          have f_B2_0 := hB2.out.frz 0
          have c_B2_1 := hB2.out.cell 1 _ rfl
          have f_B2_1 := hB2.out.frz 1
          have c_B2_2 := hB2.out.cell 2 _ rfl
          have f_B2_2 := hB2.out.frz 2
          have c_B2_3 := hB2.out.cell 3 _ rfl
          have f_B2_3 := hB2.out.frz 3
          have c_B2_4 := hB2.out.cell 4 _ rfl
          have f_B2_4 := hB2.out.frz 4
          have l_B2 := hB2.out.lt
          have c_B3_0 := hB3.out.cell 0 _ rfl
          have f_B3_0 := hB3.out.frz 0
          have c_B3_1 := hB3.out.cell 1 _ rfl
          have f_B3_1 := hB3.out.frz 1
          have c_B3_2 := hB3.out.cell 2 _ rfl
          have f_B3_2 := hB3.out.frz 2
          have c_B3_3 := hB3.out.cell 3 _ rfl
          have f_B3_3 := hB3.out.frz 3
          have c_B3_4 := hB3.out.cell 4 _ rfl
          have f_B3_4 := hB3.out.frz 4
          have l_B3 := hB3.out.lt
          obtain ⟨W9, hW9⟩ : ∃ W, W = W8.alloc (.cells #[.int .u64 (co.toNat : Int), .int .u64 (cs.toNat : Int), .bool cu, .int .i64 cw, .int .u64 (cl.toNat : Int)] 108) := ⟨_, rfl⟩
          obtain ⟨B4, eB4⟩ : ∃ B, B = W8.heap.size := ⟨_, rfl⟩
          replace hW9 := Lib.hid hW9
          replace eB4 := Lib.hid eB4
          go_wp2_with fail
          clear c_B1_0 f_B1_0 c_B1_1 f_B1_1 c_B1_2 f_B1_2 c_B1_3 f_B1_3 c_B1_4 f_B1_4 l_B1 c_B2_0 f_B2_0 c_B2_1 f_B2_1 c_B2_2 f_B2_2 c_B2_3 f_B2_3 c_B2_4 f_B2_4 l_B2 c_B3_0 f_B3_0 c_B3_1 f_B3_1 c_B3_2 f_B3_2 c_B3_3 f_B3_3 c_B3_4 f_B3_4 l_B3
          rw [← hW9.out]
          try rw [← eB4.out]
          have k4 : Keeps Nil W8 W9 := by rw [hW9.out]; exact alloc_keeps _ _
          have e0B4 : B4 = W8.heap.size := by rw [eB4.out]
          have hB4 := Lib.hid (show Bx W9 Nil B4 #[.int .u64 (co.toNat : Int), .int .u64 (cs.toNat : Int), .bool cu, .int .i64 cw, .int .u64 (cl.toNat : Int)] 108 by rw [hW9.out]; exact Bx.new Nil.lt _ _ e0B4)
          have gB4 := Lib.hid (show w.heap.size ≤ B4 by rw [e0B4]; exact hst.out.keeps.size)
          have nB1B4 := Lib.hid (show B1 < B4 by rw [e0B4]; exact hB1.out.lt)
          have nB2B4 := Lib.hid (show B2 < B4 by rw [e0B4]; exact hB2.out.lt)
          have nB3B4 := Lib.hid (show B3 < B4 by rw [e0B4]; exact hB3.out.lt)
          replace hst := Lib.hid (hst.out.nil k4)
          replace hV := Lib.hid (hV.out.keeps_nil k4)
          replace hB1 := Lib.hid (hB1.out.nil k4)
          replace hB2 := Lib.hid (hB2.out.nil k4)
          replace hB3 := Lib.hid (hB3.out.nil k4)
          clear k4 e0B4
          obtain ⟨W10, hW10⟩ : ∃ W, W = W9.drew := ⟨_, rfl⟩
          replace hW10 := Lib.hid hW10
          have kn : Keeps Nil W9 W10 := by rw [hW10.out]; exact keeps_drew _
          replace hst := Lib.hid (hst.out.nil kn)
          replace hV := Lib.hid (hV.out.keeps_nil kn)
          replace hB1 := Lib.hid (hB1.out.nil kn)
          replace hB2 := Lib.hid (hB2.out.nil kn)
          replace hB3 := Lib.hid (hB3.out.nil kn)
          replace hB4 := Lib.hid (hB4.out.nil kn)
          clear kn
          refine wp_region_held_drew (S := fun w' => w'.cell? ⟨B1, 0, none⟩ = some (.int .u64 (bo.toNat : Int)) ∧ w'.cell? ⟨B1, 1, none⟩ = some (.int .u64 (bs.toNat : Int)) ∧ w'.cell? ⟨B1, 2, none⟩ = some (.bool bu) ∧ w'.cell? ⟨B1, 3, none⟩ = some (.int .i64 bw) ∧ w'.cell? ⟨B1, 4, none⟩ = some (.int .u64 (bl.toNat : Int)) ∧ w'.cell? ⟨B2, 0, none⟩ = some (.int .u64 (bo.toNat : Int)) ∧ w'.cell? ⟨B2, 1, none⟩ = some (.int .u64 (bs.toNat : Int)) ∧ w'.cell? ⟨B2, 2, none⟩ = some (.bool bu) ∧ w'.cell? ⟨B2, 3, none⟩ = some (.int .i64 bw) ∧ w'.cell? ⟨B2, 4, none⟩ = some (.int .u64 (bl.toNat : Int)) ∧ w'.cell? ⟨B3, 0, none⟩ = some (.int .u64 (co.toNat : Int)) ∧ w'.cell? ⟨B3, 1, none⟩ = some (.int .u64 (cs.toNat : Int)) ∧ w'.cell? ⟨B3, 2, none⟩ = some (.bool cu) ∧ w'.cell? ⟨B3, 3, none⟩ = some (.int .i64 cw) ∧ w'.cell? ⟨B3, 4, none⟩ = some (.int .u64 (cl.toNat : Int)) ∧ w'.cell? ⟨B4, 0, none⟩ = some (.int .u64 (co.toNat : Int)) ∧ w'.cell? ⟨B4, 1, none⟩ = some (.int .u64 (cs.toNat : Int)) ∧ w'.cell? ⟨B4, 2, none⟩ = some (.bool cu) ∧ w'.cell? ⟨B4, 3, none⟩ = some (.int .i64 cw) ∧ w'.cell? ⟨B4, 4, none⟩ = some (.int .u64 (cl.toNat : Int))) (by kernel_rfl) (by rw [← hW10.out]; exact ⟨hB1.out.cell 0 _ rfl, hB1.out.cell 1 _ rfl, hB1.out.cell 2 _ rfl, hB1.out.cell 3 _ rfl, hB1.out.cell 4 _ rfl, hB2.out.cell 0 _ rfl, hB2.out.cell 1 _ rfl, hB2.out.cell 2 _ rfl, hB2.out.cell 3 _ rfl, hB2.out.cell 4 _ rfl, hB3.out.cell 0 _ rfl, hB3.out.cell 1 _ rfl, hB3.out.cell 2 _ rfl, hB3.out.cell 3 _ rfl, hB3.out.cell 4 _ rfl, hB4.out.cell 0 _ rfl, hB4.out.cell 1 _ rfl, hB4.out.cell 2 _ rfl, hB4.out.cell 3 _ rfl, hB4.out.cell 4 _ rfl⟩) (fun hHeld => ?_)
          rw [← hW10.out] at hHeld ⊢
          refine wpAnyH_take (i := 0) (oi := _) (v := ?m22_v) rfl (by kernel_rfl) (by kernel_rfl) (by kernel_rfl) (fun _ _ _ h => h) (Or.inl ⟨by kernel_rfl, ?m22_h⟩) hHeld ?m22_r
          case m22_h => (intro w hSw; (try dsimp only at hSw); go_simp; try with_reducible rfl)
          try simp only [Act.put, List.getElem_toArray, List.getElem_cons_succ, List.getElem_cons_zero, List.setIfInBounds_toArray, List.set_cons_zero, List.set_cons_succ]
          refine wpAnyH_take (i := 1) (oi := _) (v := ?m23_v) rfl (by kernel_rfl) (by kernel_rfl) (by kernel_rfl) (fun _ _ _ h => h) (Or.inl ⟨by kernel_rfl, ?m23_h⟩) hHeld ?m23_r
          case m23_h => (intro w hSw; (try dsimp only at hSw); go_simp; try with_reducible rfl)
          try simp only [Act.put, List.getElem_toArray, List.getElem_cons_succ, List.getElem_cons_zero, List.setIfInBounds_toArray, List.set_cons_zero, List.set_cons_succ]
          refine wpAnyH_take (i := 2) (oi := _) (v := ?m24_v) rfl (by kernel_rfl) (by kernel_rfl) (by kernel_rfl) (fun _ _ _ h => h) (Or.inl ⟨by kernel_rfl, ?m24_h⟩) hHeld ?m24_r
          case m24_h => (intro w hSw; (try dsimp only at hSw); go_simp; try with_reducible rfl)
          try simp only [Act.put, List.getElem_toArray, List.getElem_cons_succ, List.getElem_cons_zero, List.setIfInBounds_toArray, List.set_cons_zero, List.set_cons_succ]
          refine wpAnyH_take (i := 4) (oi := _) (v := ?m25_v) rfl (by kernel_rfl) (by kernel_rfl) (by kernel_rfl) (fun _ _ _ h => h) (Or.inl ⟨by kernel_rfl, ?m25_h⟩) hHeld ?m25_r
          case m25_h => (intro w hSw; (try dsimp only at hSw); go_simp; try with_reducible rfl)
          try simp only [Act.put, List.getElem_toArray, List.getElem_cons_succ, List.getElem_cons_zero, List.setIfInBounds_toArray, List.set_cons_zero, List.set_cons_succ]
          refine wpAnyH_ready (rs := [3]) (by kernel_rfl) (by simp) ?_
          refine (AllReadyH.cons (o := _) rfl (fun K hK => ?_) AllReadyH.nil)
          go_simp
          refine (pMerged_any hV.out).mono ?_
          rintro _ W11 ⟨rfl, kn⟩
          rw [← HE.out.2.2.2.2]
          replace hst := Lib.hid (hst.out.nil kn)
          replace hV := Lib.hid (hV.out.keeps_nil kn)
          replace hB1 := Lib.hid (hB1.out.nil kn)
          replace hB2 := Lib.hid (hB2.out.nil kn)
          replace hB3 := Lib.hid (hB3.out.nil kn)
          replace hB4 := Lib.hid (hB4.out.nil kn)
          clear kn
          refine hK.out _ _ (⟨hB1.out.cell 0 _ rfl, hB1.out.cell 1 _ rfl, hB1.out.cell 2 _ rfl, hB1.out.cell 3 _ rfl, hB1.out.cell 4 _ rfl, hB2.out.cell 0 _ rfl, hB2.out.cell 1 _ rfl, hB2.out.cell 2 _ rfl, hB2.out.cell 3 _ rfl, hB2.out.cell 4 _ rfl, hB3.out.cell 0 _ rfl, hB3.out.cell 1 _ rfl, hB3.out.cell 2 _ rfl, hB3.out.cell 3 _ rfl, hB3.out.cell 4 _ rfl, hB4.out.cell 0 _ rfl, hB4.out.cell 1 _ rfl, hB4.out.cell 2 _ rfl, hB4.out.cell 3 _ rfl, hB4.out.cell 4 _ rfl⟩) (fun hHeld => ?_)
          clear hK K
          try simp only [Act.put, List.getElem_toArray, List.getElem_cons_succ, List.getElem_cons_zero, List.setIfInBounds_toArray, List.set_cons_zero, List.set_cons_succ]
          refine wpAnyH_ready (rs := [5]) (by kernel_rfl) (by simp) ?_
          refine (AllReadyH.cons (o := _) rfl (fun K hK => ?_) AllReadyH.nil)
          go_simp
          refine (rMergedL (HL.out.keeps_nil hst.out.keeps)).mono ?_
          rintro _ W12 ⟨rfl, kn⟩
          rw [← HE.out.2.2.2.2]
          replace hst := Lib.hid (hst.out.nil kn)
          replace hV := Lib.hid (hV.out.keeps_nil kn)
          replace hB1 := Lib.hid (hB1.out.nil kn)
          replace hB2 := Lib.hid (hB2.out.nil kn)
          replace hB3 := Lib.hid (hB3.out.nil kn)
          replace hB4 := Lib.hid (hB4.out.nil kn)
          clear kn
          refine hK.out _ _ (⟨hB1.out.cell 0 _ rfl, hB1.out.cell 1 _ rfl, hB1.out.cell 2 _ rfl, hB1.out.cell 3 _ rfl, hB1.out.cell 4 _ rfl, hB2.out.cell 0 _ rfl, hB2.out.cell 1 _ rfl, hB2.out.cell 2 _ rfl, hB2.out.cell 3 _ rfl, hB2.out.cell 4 _ rfl, hB3.out.cell 0 _ rfl, hB3.out.cell 1 _ rfl, hB3.out.cell 2 _ rfl, hB3.out.cell 3 _ rfl, hB3.out.cell 4 _ rfl, hB4.out.cell 0 _ rfl, hB4.out.cell 1 _ rfl, hB4.out.cell 2 _ rfl, hB4.out.cell 3 _ rfl, hB4.out.cell 4 _ rfl⟩) (fun hHeld => ?_)
          clear hK K
          try simp only [Act.put, List.getElem_toArray, List.getElem_cons_succ, List.getElem_cons_zero, List.setIfInBounds_toArray, List.set_cons_zero, List.set_cons_succ]
          refine wpAnyH_take (i := 6) (oi := _) (v := ?m26_v) rfl (by kernel_rfl) (by kernel_rfl) (by kernel_rfl) (fun _ _ _ h => h) (Or.inl ⟨by kernel_rfl, ?m26_h⟩) hHeld ?m26_r
          case m26_h => (intro w hSw; (try dsimp only at hSw); go_simp; try with_reducible rfl)
          try simp only [Act.put, List.getElem_toArray, List.getElem_cons_succ, List.getElem_cons_zero, List.setIfInBounds_toArray, List.set_cons_zero, List.set_cons_succ]
          refine wpAnyH_take (i := 7) (oi := _) (v := ?m27_v) rfl (by kernel_rfl) (by kernel_rfl) (by kernel_rfl) (fun _ _ _ h => h) (Or.inl ⟨by kernel_rfl, ?m27_h⟩) hHeld ?m27_r
          case m27_h => (intro w hSw; (try dsimp only at hSw); go_simp; try with_reducible rfl)
          try simp only [Act.put, List.getElem_toArray, List.getElem_cons_succ, List.getElem_cons_zero, List.setIfInBounds_toArray, List.set_cons_zero, List.set_cons_succ]
          refine wpAnyH_take (i := 8) (oi := _) (v := ?m28_v) rfl (by kernel_rfl) (by kernel_rfl) (by kernel_rfl) (fun _ _ _ h => h) (Or.inl ⟨by kernel_rfl, ?m28_h⟩) hHeld ?m28_r
          case m28_h => (intro w hSw; (try dsimp only at hSw); go_simp; try with_reducible rfl)
          try simp only [Act.put, List.getElem_toArray, List.getElem_cons_succ, List.getElem_cons_zero, List.setIfInBounds_toArray, List.set_cons_zero, List.set_cons_succ]
          refine wpAnyH_take (i := 9) (oi := _) (v := ?m29_v) rfl (by kernel_rfl) (by kernel_rfl) (by kernel_rfl) (fun _ _ _ h => h) (Or.inl ⟨by kernel_rfl, ?m29_h⟩) hHeld ?m29_r
          case m29_h => (intro w hSw; (try dsimp only at hSw); go_simp; try with_reducible rfl)
          try simp only [Act.put, List.getElem_toArray, List.getElem_cons_succ, List.getElem_cons_zero, List.setIfInBounds_toArray, List.set_cons_zero, List.set_cons_succ]
          refine wpAnyH_take (i := 10) (oi := _) (v := ?m30_v) rfl (by kernel_rfl) (by kernel_rfl) (by kernel_rfl) (fun _ _ _ h => h) (Or.inl ⟨by kernel_rfl, ?m30_h⟩) hHeld ?m30_r
          case m30_h => (intro w hSw; (try dsimp only at hSw); go_simp; try with_reducible rfl)
          try simp only [Act.put, List.getElem_toArray, List.getElem_cons_succ, List.getElem_cons_zero, List.setIfInBounds_toArray, List.set_cons_zero, List.set_cons_succ]
          refine wpAnyH_ready (rs := [11]) (by kernel_rfl) (by simp) ?_
          refine (AllReadyH.cons (o := _) rfl (fun K hK => ?_) AllReadyH.nil)
          go_simp
          refine (made06 _ ⟨bo, ⟨bs, bu, bw⟩, bl⟩).mono ?_
          rintro _ W13 ⟨rfl, kn⟩
          rw [BlockV.cells_def]
          replace hst := Lib.hid (hst.out.nil kn)
          replace hV := Lib.hid (hV.out.keeps_nil kn)
          replace hB1 := Lib.hid (hB1.out.nil kn)
          replace hB2 := Lib.hid (hB2.out.nil kn)
          replace hB3 := Lib.hid (hB3.out.nil kn)
          replace hB4 := Lib.hid (hB4.out.nil kn)
          clear kn
          refine hK.out _ _ (⟨hB1.out.cell 0 _ rfl, hB1.out.cell 1 _ rfl, hB1.out.cell 2 _ rfl, hB1.out.cell 3 _ rfl, hB1.out.cell 4 _ rfl, hB2.out.cell 0 _ rfl, hB2.out.cell 1 _ rfl, hB2.out.cell 2 _ rfl, hB2.out.cell 3 _ rfl, hB2.out.cell 4 _ rfl, hB3.out.cell 0 _ rfl, hB3.out.cell 1 _ rfl, hB3.out.cell 2 _ rfl, hB3.out.cell 3 _ rfl, hB3.out.cell 4 _ rfl, hB4.out.cell 0 _ rfl, hB4.out.cell 1 _ rfl, hB4.out.cell 2 _ rfl, hB4.out.cell 3 _ rfl, hB4.out.cell 4 _ rfl⟩) (fun hHeld => ?_)
          clear hK K
          try simp only [Act.put, List.getElem_toArray, List.getElem_cons_succ, List.getElem_cons_zero, List.setIfInBounds_toArray, List.set_cons_zero, List.set_cons_succ]
          have qs1 : ∀ w, (binOp .eql 103 (.agg #[.int .u64 (bo.toNat : Int), .int .u64 (bs.toNat : Int), .bool bu, .int .i64 bw, .int .u64 (bl.toNat : Int)]) (.agg #[.int .u64 (bo.toNat : Int), .int .u64 (bs.toNat : Int), .bool bu, .int .i64 bw, .int .u64 (bl.toNat : Int)])).run Try.prog w = .ok (.bool true) w := blk_eql_yes rfl
          refine wpAnyH_take (i := 12) (oi := _) (v := ?m31_v) rfl (by kernel_rfl) (by kernel_rfl) (by kernel_rfl) (fun _ _ _ h => h) (Or.inl ⟨by kernel_rfl, ?m31_h⟩) hHeld ?m31_r
          case m31_h => (intro w hSw; (try dsimp only at hSw); go_simp; try with_reducible rfl)
          try simp only [Act.put, List.getElem_toArray, List.getElem_cons_succ, List.getElem_cons_zero, List.setIfInBounds_toArray, List.set_cons_zero, List.set_cons_succ]
          refine wpAnyH_take (i := 13) (oi := _) (v := ?m32_v) rfl (by kernel_rfl) (by kernel_rfl) (by kernel_rfl) (fun _ _ _ h => h) (Or.inl ⟨by kernel_rfl, ?m32_h⟩) hHeld ?m32_r
          case m32_h => (intro w hSw; (try dsimp only at hSw); go_simp; try with_reducible rfl)
          try simp only [Act.put, List.getElem_toArray, List.getElem_cons_succ, List.getElem_cons_zero, List.setIfInBounds_toArray, List.set_cons_zero, List.set_cons_succ]
          refine wpAnyH_take (i := 14) (oi := _) (v := ?m33_v) rfl (by kernel_rfl) (by kernel_rfl) (by kernel_rfl) (fun _ _ _ h => h) (Or.inl ⟨by kernel_rfl, ?m33_h⟩) hHeld ?m33_r
          case m33_h => (intro w hSw; (try dsimp only at hSw); go_simp; try with_reducible rfl)
          try simp only [Act.put, List.getElem_toArray, List.getElem_cons_succ, List.getElem_cons_zero, List.setIfInBounds_toArray, List.set_cons_zero, List.set_cons_succ]
          refine wpAnyH_take (i := 15) (oi := _) (v := ?m34_v) rfl (by kernel_rfl) (by kernel_rfl) (by kernel_rfl) (fun _ _ _ h => h) (Or.inl ⟨by kernel_rfl, ?m34_h⟩) hHeld ?m34_r
          case m34_h => (intro w hSw; (try dsimp only at hSw); go_simp; try with_reducible rfl)
          try simp only [Act.put, List.getElem_toArray, List.getElem_cons_succ, List.getElem_cons_zero, List.setIfInBounds_toArray, List.set_cons_zero, List.set_cons_succ]
          refine wpAnyH_take (i := 16) (oi := _) (v := ?m35_v) rfl (by kernel_rfl) (by kernel_rfl) (by kernel_rfl) (fun _ _ _ h => h) (Or.inl ⟨by kernel_rfl, ?m35_h⟩) hHeld ?m35_r
          case m35_h => (intro w hSw; (try dsimp only at hSw); go_simp; try with_reducible rfl)
          try simp only [Act.put, List.getElem_toArray, List.getElem_cons_succ, List.getElem_cons_zero, List.setIfInBounds_toArray, List.set_cons_zero, List.set_cons_succ]
          refine wpAnyH_take (i := 17) (oi := _) (v := ?m36_v) rfl (by kernel_rfl) (by kernel_rfl) (by kernel_rfl) (fun _ _ _ h => h) (Or.inl ⟨by kernel_rfl, ?m36_h⟩) hHeld ?m36_r
          case m36_h => (intro w hSw; (try dsimp only at hSw); go_simp; try with_reducible rfl)
          try simp only [Act.put, List.getElem_toArray, List.getElem_cons_succ, List.getElem_cons_zero, List.setIfInBounds_toArray, List.set_cons_zero, List.set_cons_succ]
          refine wpAnyH_take (i := 18) (oi := _) (v := ?m37_v) rfl (by kernel_rfl) (by kernel_rfl) (by kernel_rfl) (fun _ _ _ h => h) (Or.inl ⟨by kernel_rfl, ?m37_h⟩) hHeld ?m37_r
          case m37_h => (intro w hSw; (try dsimp only at hSw); go_simp; try with_reducible rfl)
          try simp only [Act.put, List.getElem_toArray, List.getElem_cons_succ, List.getElem_cons_zero, List.setIfInBounds_toArray, List.set_cons_zero, List.set_cons_succ]
          refine wpAnyH_take (i := 19) (oi := _) (v := ?m38_v) rfl (by kernel_rfl) (by kernel_rfl) (by kernel_rfl) (fun _ _ _ h => h) (Or.inl ⟨by kernel_rfl, ?m38_h⟩) hHeld ?m38_r
          case m38_h => (intro w hSw; (try dsimp only at hSw); go_simp; try with_reducible rfl)
          try simp only [Act.put, List.getElem_toArray, List.getElem_cons_succ, List.getElem_cons_zero, List.setIfInBounds_toArray, List.set_cons_zero, List.set_cons_succ]
          refine wpAnyH_take (i := 20) (oi := _) (v := ?m39_v) rfl (by kernel_rfl) (by kernel_rfl) (by kernel_rfl) (fun _ _ _ h => h) (Or.inl ⟨by kernel_rfl, ?m39_h⟩) hHeld ?m39_r
          case m39_h => (intro w hSw; (try dsimp only at hSw); go_simp; try with_reducible rfl)
          try simp only [Act.put, List.getElem_toArray, List.getElem_cons_succ, List.getElem_cons_zero, List.setIfInBounds_toArray, List.set_cons_zero, List.set_cons_succ]
          refine wpAnyH_take (i := 21) (oi := _) (v := ?m40_v) rfl (by kernel_rfl) (by kernel_rfl) (by kernel_rfl) (fun _ _ _ h => h) (Or.inl ⟨by kernel_rfl, ?m40_h⟩) hHeld ?m40_r
          case m40_h => (intro w hSw; (try dsimp only at hSw); go_simp; try with_reducible rfl)
          try simp only [Act.put, List.getElem_toArray, List.getElem_cons_succ, List.getElem_cons_zero, List.setIfInBounds_toArray, List.set_cons_zero, List.set_cons_succ]
          refine wpAnyH_ready (rs := [22]) (by kernel_rfl) (by simp) ?_
          refine (AllReadyH.cons (o := _) rfl (fun K hK => ?_) AllReadyH.nil)
          go_simp
          refine (made06 _ ⟨co, ⟨cs, cu, cw⟩, cl⟩).mono ?_
          rintro _ W14 ⟨rfl, kn⟩
          rw [BlockV.cells_def]
          replace hst := Lib.hid (hst.out.nil kn)
          replace hV := Lib.hid (hV.out.keeps_nil kn)
          replace hB1 := Lib.hid (hB1.out.nil kn)
          replace hB2 := Lib.hid (hB2.out.nil kn)
          replace hB3 := Lib.hid (hB3.out.nil kn)
          replace hB4 := Lib.hid (hB4.out.nil kn)
          clear kn
          refine hK.out _ _ (⟨hB1.out.cell 0 _ rfl, hB1.out.cell 1 _ rfl, hB1.out.cell 2 _ rfl, hB1.out.cell 3 _ rfl, hB1.out.cell 4 _ rfl, hB2.out.cell 0 _ rfl, hB2.out.cell 1 _ rfl, hB2.out.cell 2 _ rfl, hB2.out.cell 3 _ rfl, hB2.out.cell 4 _ rfl, hB3.out.cell 0 _ rfl, hB3.out.cell 1 _ rfl, hB3.out.cell 2 _ rfl, hB3.out.cell 3 _ rfl, hB3.out.cell 4 _ rfl, hB4.out.cell 0 _ rfl, hB4.out.cell 1 _ rfl, hB4.out.cell 2 _ rfl, hB4.out.cell 3 _ rfl, hB4.out.cell 4 _ rfl⟩) (fun hHeld => ?_)
          clear hK K
          try simp only [Act.put, List.getElem_toArray, List.getElem_cons_succ, List.getElem_cons_zero, List.setIfInBounds_toArray, List.set_cons_zero, List.set_cons_succ]
          have qs2 : ∀ w, (binOp .eql 103 (.agg #[.int .u64 (co.toNat : Int), .int .u64 (cs.toNat : Int), .bool cu, .int .i64 cw, .int .u64 (cl.toNat : Int)]) (.agg #[.int .u64 (co.toNat : Int), .int .u64 (cs.toNat : Int), .bool cu, .int .i64 cw, .int .u64 (cl.toNat : Int)])).run Try.prog w = .ok (.bool true) w := blk_eql_yes rfl
          refine wpAnyH_take (i := 23) (oi := _) (v := ?m41_v) rfl (by kernel_rfl) (by kernel_rfl) (by kernel_rfl) (fun _ _ _ h => h) (Or.inl ⟨by kernel_rfl, ?m41_h⟩) hHeld ?m41_r
          case m41_h => (intro w hSw; (try dsimp only at hSw); go_simp; try with_reducible rfl)
          try simp only [Act.put, List.getElem_toArray, List.getElem_cons_succ, List.getElem_cons_zero, List.setIfInBounds_toArray, List.set_cons_zero, List.set_cons_succ]
          refine wpAnyH_take (i := 24) (oi := _) (v := ?m42_v) rfl (by kernel_rfl) (by kernel_rfl) (by kernel_rfl) (fun _ _ _ h => h) (Or.inl ⟨by kernel_rfl, ?m42_h⟩) hHeld ?m42_r
          case m42_h => (intro w hSw; (try dsimp only at hSw); go_simp; try with_reducible rfl)
          try simp only [Act.put, List.getElem_toArray, List.getElem_cons_succ, List.getElem_cons_zero, List.setIfInBounds_toArray, List.set_cons_zero, List.set_cons_succ]
          refine wpAnyH_take (i := 25) (oi := _) (v := ?m43_v) rfl (by kernel_rfl) (by kernel_rfl) (by kernel_rfl) (fun _ _ _ h => h) (Or.inl ⟨by kernel_rfl, ?m43_h⟩) hHeld ?m43_r
          case m43_h => (intro w hSw; (try dsimp only at hSw); go_simp; try with_reducible rfl)
          try simp only [Act.put, List.getElem_toArray, List.getElem_cons_succ, List.getElem_cons_zero, List.setIfInBounds_toArray, List.set_cons_zero, List.set_cons_succ]
          refine wpAnyH_take (i := 26) (oi := _) (v := ?m44_v) rfl (by kernel_rfl) (by kernel_rfl) (by kernel_rfl) (fun _ _ _ h => h) (Or.inl ⟨by kernel_rfl, ?m44_h⟩) hHeld ?m44_r
          case m44_h => (intro w hSw; (try dsimp only at hSw); go_simp; try with_reducible rfl)
          try simp only [Act.put, List.getElem_toArray, List.getElem_cons_succ, List.getElem_cons_zero, List.setIfInBounds_toArray, List.set_cons_zero, List.set_cons_succ]
          refine wpAnyH_take (i := 27) (oi := _) (v := ?m45_v) rfl (by kernel_rfl) (by kernel_rfl) (by kernel_rfl) (fun _ _ _ h => h) (Or.inl ⟨by kernel_rfl, ?m45_h⟩) hHeld ?m45_r
          case m45_h => (intro w hSw; (try dsimp only at hSw); go_simp; try with_reducible rfl)
          try simp only [Act.put, List.getElem_toArray, List.getElem_cons_succ, List.getElem_cons_zero, List.setIfInBounds_toArray, List.set_cons_zero, List.set_cons_succ]
          refine wpAnyH_take (i := 28) (oi := _) (v := ?m46_v) rfl (by kernel_rfl) (by kernel_rfl) (by kernel_rfl) (fun _ _ _ h => h) (Or.inl ⟨by kernel_rfl, ?m46_h⟩) hHeld ?m46_r
          case m46_h => (intro w hSw; (try dsimp only at hSw); go_simp; try with_reducible rfl)
          try simp only [Act.put, List.getElem_toArray, List.getElem_cons_succ, List.getElem_cons_zero, List.setIfInBounds_toArray, List.set_cons_zero, List.set_cons_succ]
          refine wpAnyH_take (i := 29) (oi := _) (v := ?m47_v) rfl (by kernel_rfl) (by kernel_rfl) (by kernel_rfl) (fun _ _ _ h => h) (Or.inl ⟨by kernel_rfl, ?m47_h⟩) hHeld ?m47_r
          case m47_h => (intro w hSw; (try dsimp only at hSw); go_simp; try with_reducible rfl)
          try simp only [Act.put, List.getElem_toArray, List.getElem_cons_succ, List.getElem_cons_zero, List.setIfInBounds_toArray, List.set_cons_zero, List.set_cons_succ]
          refine wpAnyH_take (i := 30) (oi := _) (v := ?m48_v) rfl (by kernel_rfl) (by kernel_rfl) (by kernel_rfl) (fun _ _ _ h => h) (Or.inl ⟨by kernel_rfl, ?m48_h⟩) hHeld ?m48_r
          case m48_h => (intro w hSw; (try dsimp only at hSw); go_simp; try with_reducible rfl)
          try simp only [Act.put, List.getElem_toArray, List.getElem_cons_succ, List.getElem_cons_zero, List.setIfInBounds_toArray, List.set_cons_zero, List.set_cons_succ]
          refine wpAnyH_done (by kernel_rfl) ?_ _
          clear hHeld
          have c_B1_0 := hB1.out.cell 0 _ rfl
          have f_B1_0 := hB1.out.frz 0
          have c_B1_1 := hB1.out.cell 1 _ rfl
          have f_B1_1 := hB1.out.frz 1
          have c_B1_2 := hB1.out.cell 2 _ rfl
          have f_B1_2 := hB1.out.frz 2
          have c_B1_3 := hB1.out.cell 3 _ rfl
          have f_B1_3 := hB1.out.frz 3
          have c_B1_4 := hB1.out.cell 4 _ rfl
          have f_B1_4 := hB1.out.frz 4
          have l_B1 := hB1.out.lt
          have c_B2_0 := hB2.out.cell 0 _ rfl
          have f_B2_0 := hB2.out.frz 0
          have c_B2_1 := hB2.out.cell 1 _ rfl
          have f_B2_1 := hB2.out.frz 1
          have c_B2_2 := hB2.out.cell 2 _ rfl
          have f_B2_2 := hB2.out.frz 2
          have c_B2_3 := hB2.out.cell 3 _ rfl
          have f_B2_3 := hB2.out.frz 3
          have c_B2_4 := hB2.out.cell 4 _ rfl
          have f_B2_4 := hB2.out.frz 4
          have l_B2 := hB2.out.lt
          have c_B3_0 := hB3.out.cell 0 _ rfl
          have f_B3_0 := hB3.out.frz 0
          have c_B3_1 := hB3.out.cell 1 _ rfl
          have f_B3_1 := hB3.out.frz 1
          have c_B3_2 := hB3.out.cell 2 _ rfl
          have f_B3_2 := hB3.out.frz 2
          have c_B3_3 := hB3.out.cell 3 _ rfl
          have f_B3_3 := hB3.out.frz 3
          have c_B3_4 := hB3.out.cell 4 _ rfl
          have f_B3_4 := hB3.out.frz 4
          have l_B3 := hB3.out.lt
          have c_B4_0 := hB4.out.cell 0 _ rfl
          have f_B4_0 := hB4.out.frz 0
          have c_B4_1 := hB4.out.cell 1 _ rfl
          have f_B4_1 := hB4.out.frz 1
          have c_B4_2 := hB4.out.cell 2 _ rfl
          have f_B4_2 := hB4.out.frz 2
          have c_B4_3 := hB4.out.cell 3 _ rfl
          have f_B4_3 := hB4.out.frz 3
          have c_B4_4 := hB4.out.cell 4 _ rfl
          have f_B4_4 := hB4.out.frz 4
          have l_B4 := hB4.out.lt
          go_wp2_with fail
          go_ret
          clear c_B1_0 f_B1_0 c_B1_1 f_B1_1 c_B1_2 f_B1_2 c_B1_3 f_B1_3 c_B1_4 f_B1_4 l_B1 c_B2_0 f_B2_0 c_B2_1 f_B2_1 c_B2_2 f_B2_2 c_B2_3 f_B2_3 c_B2_4 f_B2_4 l_B2 c_B3_0 f_B3_0 c_B3_1 f_B3_1 c_B3_2 f_B3_2 c_B3_3 f_B3_3 c_B3_4 f_B3_4 l_B3 c_B4_0 f_B4_0 c_B4_1 f_B4_1 c_B4_2 f_B4_2 c_B4_3 f_B4_3 c_B4_4 f_B4_4 l_B4
          exact ⟨rfl, hst.out.keeps⟩
    · obtain rfl : N = 0 := by omega
      obtain rfl : l = [] := List.eq_nil_of_length_eq_zero HN.out.symm
      subst e
      have hV := Lib.hid ((Own.nil kB w 0).view (S := Nil) (fun g hg e => e))
      clear hp h20
      have hst := Lib.hid (Step.refl Nil w)
      go_enter Try.func24, Try.ntmps24
      go_wp2_with fail
      refine (awake06 _).mono ?_
      rintro _ W1 ⟨rfl, kn⟩
      replace hst := Lib.hid (hst.out.nil kn)
      replace hV := Lib.hid (hV.out.keeps_nil kn)
      clear kn
      go_wp2_with fail
      go_loopw [6, 7] (fun vrow i wr => vrow = .slice none 0 0 ∧ i = .int .i64 0 ∧ Hid (Keeps Nil w wr) ∧ Hid (View kB Nil wr (.slice none 0 0) [])) (fun vrow i _ => 0)
      case atStart => exact ⟨rfl, rfl, Lib.hid hst.out.keeps, hV⟩
      case round =>
        obtain ⟨rfl, rfl, hK0, hV⟩ := hrel
        replace hst := Lib.hid (Step.of_nil (S := Nil) hK0.out)
        clear hK0
        go_wp2_with fail
        refine (pBefore_any hV.out off _ rfl).mono ?_
        rintro _ W2 ⟨rfl, kn⟩
        rw [← HE.out.1, ← HE.out.2.1, BlockV.cells_def]
        replace hst := Lib.hid (hst.out.nil kn)
        replace hV := Lib.hid (hV.out.keeps_nil kn)
        clear kn
        obtain ⟨W3, hW3⟩ : ∃ W, W = W2.alloc (.cells #[.int .u64 (bo.toNat : Int), .int .u64 (bs.toNat : Int), .bool bu, .int .i64 bw, .int .u64 (bl.toNat : Int)] 103) := ⟨_, rfl⟩
        obtain ⟨B1, eB1⟩ : ∃ B, B = W2.heap.size := ⟨_, rfl⟩
        replace hW3 := Lib.hid hW3
        replace eB1 := Lib.hid eB1
        go_wp2_with fail
        rw [← hW3.out]
        try rw [← eB1.out]
        have k1 : Keeps Nil W2 W3 := by rw [hW3.out]; exact alloc_keeps _ _
        have e0B1 : B1 = W2.heap.size := by rw [eB1.out]
        have hB1 := Lib.hid (show Bx W3 Nil B1 #[.int .u64 (bo.toNat : Int), .int .u64 (bs.toNat : Int), .bool bu, .int .i64 bw, .int .u64 (bl.toNat : Int)] 103 by rw [hW3.out]; exact Bx.new Nil.lt _ _ e0B1)
        have gB1 := Lib.hid (show w.heap.size ≤ B1 by rw [e0B1]; exact hst.out.keeps.size)
        replace hst := Lib.hid (hst.out.nil k1)
        replace hV := Lib.hid (hV.out.keeps_nil k1)
        clear k1 e0B1
        refine (rBesideL (HL.out.keeps_nil hst.out.keeps) off (-1) (by decide)).mono ?_
        rintro _ W4 ⟨rfl, kn⟩
        rw [← HE.out.1, ← HE.out.2.1, BlockV.cells_def]
        replace hst := Lib.hid (hst.out.nil kn)
        replace hV := Lib.hid (hV.out.keeps_nil kn)
        replace hB1 := Lib.hid (hB1.out.nil kn)
        clear kn
        have c_B1_0 := hB1.out.cell 0 _ rfl
        have f_B1_0 := hB1.out.frz 0
        have c_B1_1 := hB1.out.cell 1 _ rfl
        have f_B1_1 := hB1.out.frz 1
        have c_B1_2 := hB1.out.cell 2 _ rfl
        have f_B1_2 := hB1.out.frz 2
        have c_B1_3 := hB1.out.cell 3 _ rfl
        have f_B1_3 := hB1.out.frz 3
        have c_B1_4 := hB1.out.cell 4 _ rfl
        have f_B1_4 := hB1.out.frz 4
        have l_B1 := hB1.out.lt
        obtain ⟨W5, hW5⟩ : ∃ W, W = W4.alloc (.cells #[.int .u64 (bo.toNat : Int), .int .u64 (bs.toNat : Int), .bool bu, .int .i64 bw, .int .u64 (bl.toNat : Int)] 108) := ⟨_, rfl⟩
        obtain ⟨B2, eB2⟩ : ∃ B, B = W4.heap.size := ⟨_, rfl⟩
        replace hW5 := Lib.hid hW5
        replace eB2 := Lib.hid eB2
        go_wp2_with fail
        clear c_B1_0 f_B1_0 c_B1_1 f_B1_1 c_B1_2 f_B1_2 c_B1_3 f_B1_3 c_B1_4 f_B1_4 l_B1
        rw [← hW5.out]
        try rw [← eB2.out]
        have k2 : Keeps Nil W4 W5 := by rw [hW5.out]; exact alloc_keeps _ _
        have e0B2 : B2 = W4.heap.size := by rw [eB2.out]
        have hB2 := Lib.hid (show Bx W5 Nil B2 #[.int .u64 (bo.toNat : Int), .int .u64 (bs.toNat : Int), .bool bu, .int .i64 bw, .int .u64 (bl.toNat : Int)] 108 by rw [hW5.out]; exact Bx.new Nil.lt _ _ e0B2)
        have gB2 := Lib.hid (show w.heap.size ≤ B2 by rw [e0B2]; exact hst.out.keeps.size)
        have nB1B2 := Lib.hid (show B1 < B2 by rw [e0B2]; exact hB1.out.lt)
        replace hst := Lib.hid (hst.out.nil k2)
        replace hV := Lib.hid (hV.out.keeps_nil k2)
        replace hB1 := Lib.hid (hB1.out.nil k2)
        clear k2 e0B2
        refine (pAfter_any hV.out off _ rfl).mono ?_
        rintro _ W6 ⟨rfl, kn⟩
        rw [← HE.out.2.2.1, ← HE.out.2.2.2.1, BlockV.cells_def]
        replace hst := Lib.hid (hst.out.nil kn)
        replace hV := Lib.hid (hV.out.keeps_nil kn)
        replace hB1 := Lib.hid (hB1.out.nil kn)
        replace hB2 := Lib.hid (hB2.out.nil kn)
        clear kn
        have c_B1_0 := hB1.out.cell 0 _ rfl
        have f_B1_0 := hB1.out.frz 0
        have c_B1_1 := hB1.out.cell 1 _ rfl
        have f_B1_1 := hB1.out.frz 1
        have c_B1_2 := hB1.out.cell 2 _ rfl
        have f_B1_2 := hB1.out.frz 2
        have c_B1_3 := hB1.out.cell 3 _ rfl
        have f_B1_3 := hB1.out.frz 3
        have c_B1_4 := hB1.out.cell 4 _ rfl
        have f_B1_4 := hB1.out.frz 4
        have l_B1 := hB1.out.lt
        have c_B2_0 := hB2.out.cell 0 _ rfl
        have f_B2_0 := hB2.out.frz 0
        have c_B2_1 := hB2.out.cell 1 _ rfl
        have f_B2_1 := hB2.out.frz 1
        have c_B2_2 := hB2.out.cell 2 _ rfl
        have f_B2_2 := hB2.out.frz 2
        have c_B2_3 := hB2.out.cell 3 _ rfl
        have f_B2_3 := hB2.out.frz 3
        have c_B2_4 := hB2.out.cell 4 _ rfl
        have f_B2_4 := hB2.out.frz 4
        have l_B2 := hB2.out.lt
        obtain ⟨W7, hW7⟩ : ∃ W, W = W6.alloc (.cells #[.int .u64 (co.toNat : Int), .int .u64 (cs.toNat : Int), .bool cu, .int .i64 cw, .int .u64 (cl.toNat : Int)] 103) := ⟨_, rfl⟩
        obtain ⟨B3, eB3⟩ : ∃ B, B = W6.heap.size := ⟨_, rfl⟩
        replace hW7 := Lib.hid hW7
        replace eB3 := Lib.hid eB3
        go_wp2_with fail
        clear c_B1_0 f_B1_0 c_B1_1 f_B1_1 c_B1_2 f_B1_2 c_B1_3 f_B1_3 c_B1_4 f_B1_4 l_B1 c_B2_0 f_B2_0 c_B2_1 f_B2_1 c_B2_2 f_B2_2 c_B2_3 f_B2_3 c_B2_4 f_B2_4 l_B2
        rw [← hW7.out]
        try rw [← eB3.out]
        have k3 : Keeps Nil W6 W7 := by rw [hW7.out]; exact alloc_keeps _ _
        have e0B3 : B3 = W6.heap.size := by rw [eB3.out]
        have hB3 := Lib.hid (show Bx W7 Nil B3 #[.int .u64 (co.toNat : Int), .int .u64 (cs.toNat : Int), .bool cu, .int .i64 cw, .int .u64 (cl.toNat : Int)] 103 by rw [hW7.out]; exact Bx.new Nil.lt _ _ e0B3)
        have gB3 := Lib.hid (show w.heap.size ≤ B3 by rw [e0B3]; exact hst.out.keeps.size)
        have nB1B3 := Lib.hid (show B1 < B3 by rw [e0B3]; exact hB1.out.lt)
        have nB2B3 := Lib.hid (show B2 < B3 by rw [e0B3]; exact hB2.out.lt)
        replace hst := Lib.hid (hst.out.nil k3)
        replace hV := Lib.hid (hV.out.keeps_nil k3)
        replace hB1 := Lib.hid (hB1.out.nil k3)
        replace hB2 := Lib.hid (hB2.out.nil k3)
        clear k3 e0B3
        refine (rBesideL (HL.out.keeps_nil hst.out.keeps) off 1 (by decide)).mono ?_
        rintro _ W8 ⟨rfl, kn⟩
        rw [← HE.out.2.2.1, ← HE.out.2.2.2.1, BlockV.cells_def]
        replace hst := Lib.hid (hst.out.nil kn)
        replace hV := Lib.hid (hV.out.keeps_nil kn)
        replace hB1 := Lib.hid (hB1.out.nil kn)
        replace hB2 := Lib.hid (hB2.out.nil kn)
        replace hB3 := Lib.hid (hB3.out.nil kn)
        clear kn
        have c_B1_0 := hB1.out.cell 0 _ rfl
        have f_B1_0 := hB1.out.frz 0
        have c_B1_1 := hB1.out.cell 1 _ rfl
        have f_B1_1 := hB1.out.frz 1
        have c_B1_2 := hB1.out.cell 2 _ rfl
        have f_B1_2 := hB1.out.frz 2
        have c_B1_3 := hB1.out.cell 3 _ rfl
        have f_B1_3 := hB1.out.frz 3
        have c_B1_4 := hB1.out.cell 4 _ rfl
        have f_B1_4 := hB1.out.frz 4
        have l_B1 := hB1.out.lt
        have c_B2_0 := hB2.out.cell 0 _ rfl
        have f_B2_0 := hB2.out.frz 0
        have c_B2_1 := hB2.out.cell 1 _ rfl
        have f_B2_1 := hB2.out.frz 1
        have c_B2_2 := hB2.out.cell 2 _ rfl
        have f_B2_2 := hB2.out.frz 2
        have c_B2_3 := hB2.out.cell 3 _ rfl
        have f_B2_3 := hB2.out.frz 3
        have c_B2_4 := hB2.out.cell 4 _ rfl
        have f_B2_4 := hB2.out.frz 4
        have l_B2 := hB2.out.lt
        have c_B3_0 := hB3.out.cell 0 _ rfl
        have f_B3_0 := hB3.out.frz 0
        have c_B3_1 := hB3.out.cell 1 _ rfl
        have f_B3_1 := hB3.out.frz 1
        have c_B3_2 := hB3.out.cell 2 _ rfl
        have f_B3_2 := hB3.out.frz 2
        have c_B3_3 := hB3.out.cell 3 _ rfl
        have f_B3_3 := hB3.out.frz 3
        have c_B3_4 := hB3.out.cell 4 _ rfl
        have f_B3_4 := hB3.out.frz 4
        have l_B3 := hB3.out.lt
        obtain ⟨W9, hW9⟩ : ∃ W, W = W8.alloc (.cells #[.int .u64 (co.toNat : Int), .int .u64 (cs.toNat : Int), .bool cu, .int .i64 cw, .int .u64 (cl.toNat : Int)] 108) := ⟨_, rfl⟩
        obtain ⟨B4, eB4⟩ : ∃ B, B = W8.heap.size := ⟨_, rfl⟩
        replace hW9 := Lib.hid hW9
        replace eB4 := Lib.hid eB4
        go_wp2_with fail
        clear c_B1_0 f_B1_0 c_B1_1 f_B1_1 c_B1_2 f_B1_2 c_B1_3 f_B1_3 c_B1_4 f_B1_4 l_B1 c_B2_0 f_B2_0 c_B2_1 f_B2_1 c_B2_2 f_B2_2 c_B2_3 f_B2_3 c_B2_4 f_B2_4 l_B2 c_B3_0 f_B3_0 c_B3_1 f_B3_1 c_B3_2 f_B3_2 c_B3_3 f_B3_3 c_B3_4 f_B3_4 l_B3
        rw [← hW9.out]
        try rw [← eB4.out]
        have k4 : Keeps Nil W8 W9 := by rw [hW9.out]; exact alloc_keeps _ _
        have e0B4 : B4 = W8.heap.size := by rw [eB4.out]
        have hB4 := Lib.hid (show Bx W9 Nil B4 #[.int .u64 (co.toNat : Int), .int .u64 (cs.toNat : Int), .bool cu, .int .i64 cw, .int .u64 (cl.toNat : Int)] 108 by rw [hW9.out]; exact Bx.new Nil.lt _ _ e0B4)
        have gB4 := Lib.hid (show w.heap.size ≤ B4 by rw [e0B4]; exact hst.out.keeps.size)
        have nB1B4 := Lib.hid (show B1 < B4 by rw [e0B4]; exact hB1.out.lt)
        have nB2B4 := Lib.hid (show B2 < B4 by rw [e0B4]; exact hB2.out.lt)
        have nB3B4 := Lib.hid (show B3 < B4 by rw [e0B4]; exact hB3.out.lt)
        replace hst := Lib.hid (hst.out.nil k4)
        replace hV := Lib.hid (hV.out.keeps_nil k4)
        replace hB1 := Lib.hid (hB1.out.nil k4)
        replace hB2 := Lib.hid (hB2.out.nil k4)
        replace hB3 := Lib.hid (hB3.out.nil k4)
        clear k4 e0B4
        obtain ⟨W10, hW10⟩ : ∃ W, W = W9.drew := ⟨_, rfl⟩
        replace hW10 := Lib.hid hW10
        have kn : Keeps Nil W9 W10 := by rw [hW10.out]; exact keeps_drew _
        replace hst := Lib.hid (hst.out.nil kn)
        replace hV := Lib.hid (hV.out.keeps_nil kn)
        replace hB1 := Lib.hid (hB1.out.nil kn)
        replace hB2 := Lib.hid (hB2.out.nil kn)
        replace hB3 := Lib.hid (hB3.out.nil kn)
        replace hB4 := Lib.hid (hB4.out.nil kn)
        clear kn
        refine wp_region_held_drew (S := fun w' => w'.cell? ⟨B1, 0, none⟩ = some (.int .u64 (bo.toNat : Int)) ∧ w'.cell? ⟨B1, 1, none⟩ = some (.int .u64 (bs.toNat : Int)) ∧ w'.cell? ⟨B1, 2, none⟩ = some (.bool bu) ∧ w'.cell? ⟨B1, 3, none⟩ = some (.int .i64 bw) ∧ w'.cell? ⟨B1, 4, none⟩ = some (.int .u64 (bl.toNat : Int)) ∧ w'.cell? ⟨B2, 0, none⟩ = some (.int .u64 (bo.toNat : Int)) ∧ w'.cell? ⟨B2, 1, none⟩ = some (.int .u64 (bs.toNat : Int)) ∧ w'.cell? ⟨B2, 2, none⟩ = some (.bool bu) ∧ w'.cell? ⟨B2, 3, none⟩ = some (.int .i64 bw) ∧ w'.cell? ⟨B2, 4, none⟩ = some (.int .u64 (bl.toNat : Int)) ∧ w'.cell? ⟨B3, 0, none⟩ = some (.int .u64 (co.toNat : Int)) ∧ w'.cell? ⟨B3, 1, none⟩ = some (.int .u64 (cs.toNat : Int)) ∧ w'.cell? ⟨B3, 2, none⟩ = some (.bool cu) ∧ w'.cell? ⟨B3, 3, none⟩ = some (.int .i64 cw) ∧ w'.cell? ⟨B3, 4, none⟩ = some (.int .u64 (cl.toNat : Int)) ∧ w'.cell? ⟨B4, 0, none⟩ = some (.int .u64 (co.toNat : Int)) ∧ w'.cell? ⟨B4, 1, none⟩ = some (.int .u64 (cs.toNat : Int)) ∧ w'.cell? ⟨B4, 2, none⟩ = some (.bool cu) ∧ w'.cell? ⟨B4, 3, none⟩ = some (.int .i64 cw) ∧ w'.cell? ⟨B4, 4, none⟩ = some (.int .u64 (cl.toNat : Int))) (by kernel_rfl) (by rw [← hW10.out]; exact ⟨hB1.out.cell 0 _ rfl, hB1.out.cell 1 _ rfl, hB1.out.cell 2 _ rfl, hB1.out.cell 3 _ rfl, hB1.out.cell 4 _ rfl, hB2.out.cell 0 _ rfl, hB2.out.cell 1 _ rfl, hB2.out.cell 2 _ rfl, hB2.out.cell 3 _ rfl, hB2.out.cell 4 _ rfl, hB3.out.cell 0 _ rfl, hB3.out.cell 1 _ rfl, hB3.out.cell 2 _ rfl, hB3.out.cell 3 _ rfl, hB3.out.cell 4 _ rfl, hB4.out.cell 0 _ rfl, hB4.out.cell 1 _ rfl, hB4.out.cell 2 _ rfl, hB4.out.cell 3 _ rfl, hB4.out.cell 4 _ rfl⟩) (fun hHeld => ?_)
        rw [← hW10.out] at hHeld ⊢
        refine wpAnyH_take (i := 0) (oi := _) (v := ?m49_v) rfl (by kernel_rfl) (by kernel_rfl) (by kernel_rfl) (fun _ _ _ h => h) (Or.inl ⟨by kernel_rfl, ?m49_h⟩) hHeld ?m49_r
        case m49_h => (intro w hSw; (try dsimp only at hSw); go_simp; try with_reducible rfl)
        try simp only [Act.put, List.getElem_toArray, List.getElem_cons_succ, List.getElem_cons_zero, List.setIfInBounds_toArray, List.set_cons_zero, List.set_cons_succ]
        refine wpAnyH_take (i := 1) (oi := _) (v := ?m50_v) rfl (by kernel_rfl) (by kernel_rfl) (by kernel_rfl) (fun _ _ _ h => h) (Or.inl ⟨by kernel_rfl, ?m50_h⟩) hHeld ?m50_r
        case m50_h => (intro w hSw; (try dsimp only at hSw); go_simp; try with_reducible rfl)
        try simp only [Act.put, List.getElem_toArray, List.getElem_cons_succ, List.getElem_cons_zero, List.setIfInBounds_toArray, List.set_cons_zero, List.set_cons_succ]
        refine wpAnyH_take (i := 2) (oi := _) (v := ?m51_v) rfl (by kernel_rfl) (by kernel_rfl) (by kernel_rfl) (fun _ _ _ h => h) (Or.inl ⟨by kernel_rfl, ?m51_h⟩) hHeld ?m51_r
        case m51_h => (intro w hSw; (try dsimp only at hSw); go_simp; try with_reducible rfl)
        try simp only [Act.put, List.getElem_toArray, List.getElem_cons_succ, List.getElem_cons_zero, List.setIfInBounds_toArray, List.set_cons_zero, List.set_cons_succ]
        refine wpAnyH_take (i := 4) (oi := _) (v := ?m52_v) rfl (by kernel_rfl) (by kernel_rfl) (by kernel_rfl) (fun _ _ _ h => h) (Or.inl ⟨by kernel_rfl, ?m52_h⟩) hHeld ?m52_r
        case m52_h => (intro w hSw; (try dsimp only at hSw); go_simp; try with_reducible rfl)
        try simp only [Act.put, List.getElem_toArray, List.getElem_cons_succ, List.getElem_cons_zero, List.setIfInBounds_toArray, List.set_cons_zero, List.set_cons_succ]
        refine wpAnyH_ready (rs := [3]) (by kernel_rfl) (by simp) ?_
        refine (AllReadyH.cons (o := _) rfl (fun K hK => ?_) AllReadyH.nil)
        go_simp
        refine (pMerged_any hV.out).mono ?_
        rintro _ W11 ⟨rfl, kn⟩
        rw [← HE.out.2.2.2.2]
        replace hst := Lib.hid (hst.out.nil kn)
        replace hV := Lib.hid (hV.out.keeps_nil kn)
        replace hB1 := Lib.hid (hB1.out.nil kn)
        replace hB2 := Lib.hid (hB2.out.nil kn)
        replace hB3 := Lib.hid (hB3.out.nil kn)
        replace hB4 := Lib.hid (hB4.out.nil kn)
        clear kn
        refine hK.out _ _ (⟨hB1.out.cell 0 _ rfl, hB1.out.cell 1 _ rfl, hB1.out.cell 2 _ rfl, hB1.out.cell 3 _ rfl, hB1.out.cell 4 _ rfl, hB2.out.cell 0 _ rfl, hB2.out.cell 1 _ rfl, hB2.out.cell 2 _ rfl, hB2.out.cell 3 _ rfl, hB2.out.cell 4 _ rfl, hB3.out.cell 0 _ rfl, hB3.out.cell 1 _ rfl, hB3.out.cell 2 _ rfl, hB3.out.cell 3 _ rfl, hB3.out.cell 4 _ rfl, hB4.out.cell 0 _ rfl, hB4.out.cell 1 _ rfl, hB4.out.cell 2 _ rfl, hB4.out.cell 3 _ rfl, hB4.out.cell 4 _ rfl⟩) (fun hHeld => ?_)
        clear hK K
        try simp only [Act.put, List.getElem_toArray, List.getElem_cons_succ, List.getElem_cons_zero, List.setIfInBounds_toArray, List.set_cons_zero, List.set_cons_succ]
        refine wpAnyH_ready (rs := [5]) (by kernel_rfl) (by simp) ?_
        refine (AllReadyH.cons (o := _) rfl (fun K hK => ?_) AllReadyH.nil)
        go_simp
        refine (rMergedL (HL.out.keeps_nil hst.out.keeps)).mono ?_
        rintro _ W12 ⟨rfl, kn⟩
        rw [← HE.out.2.2.2.2]
        replace hst := Lib.hid (hst.out.nil kn)
        replace hV := Lib.hid (hV.out.keeps_nil kn)
        replace hB1 := Lib.hid (hB1.out.nil kn)
        replace hB2 := Lib.hid (hB2.out.nil kn)
        replace hB3 := Lib.hid (hB3.out.nil kn)
        replace hB4 := Lib.hid (hB4.out.nil kn)
        clear kn
        refine hK.out _ _ (⟨hB1.out.cell 0 _ rfl, hB1.out.cell 1 _ rfl, hB1.out.cell 2 _ rfl, hB1.out.cell 3 _ rfl, hB1.out.cell 4 _ rfl, hB2.out.cell 0 _ rfl, hB2.out.cell 1 _ rfl, hB2.out.cell 2 _ rfl, hB2.out.cell 3 _ rfl, hB2.out.cell 4 _ rfl, hB3.out.cell 0 _ rfl, hB3.out.cell 1 _ rfl, hB3.out.cell 2 _ rfl, hB3.out.cell 3 _ rfl, hB3.out.cell 4 _ rfl, hB4.out.cell 0 _ rfl, hB4.out.cell 1 _ rfl, hB4.out.cell 2 _ rfl, hB4.out.cell 3 _ rfl, hB4.out.cell 4 _ rfl⟩) (fun hHeld => ?_)
        clear hK K
        try simp only [Act.put, List.getElem_toArray, List.getElem_cons_succ, List.getElem_cons_zero, List.setIfInBounds_toArray, List.set_cons_zero, List.set_cons_succ]
        refine wpAnyH_take (i := 6) (oi := _) (v := ?m53_v) rfl (by kernel_rfl) (by kernel_rfl) (by kernel_rfl) (fun _ _ _ h => h) (Or.inl ⟨by kernel_rfl, ?m53_h⟩) hHeld ?m53_r
        case m53_h => (intro w hSw; (try dsimp only at hSw); go_simp; try with_reducible rfl)
        try simp only [Act.put, List.getElem_toArray, List.getElem_cons_succ, List.getElem_cons_zero, List.setIfInBounds_toArray, List.set_cons_zero, List.set_cons_succ]
        refine wpAnyH_take (i := 7) (oi := _) (v := ?m54_v) rfl (by kernel_rfl) (by kernel_rfl) (by kernel_rfl) (fun _ _ _ h => h) (Or.inl ⟨by kernel_rfl, ?m54_h⟩) hHeld ?m54_r
        case m54_h => (intro w hSw; (try dsimp only at hSw); go_simp; try with_reducible rfl)
        try simp only [Act.put, List.getElem_toArray, List.getElem_cons_succ, List.getElem_cons_zero, List.setIfInBounds_toArray, List.set_cons_zero, List.set_cons_succ]
        refine wpAnyH_take (i := 8) (oi := _) (v := ?m55_v) rfl (by kernel_rfl) (by kernel_rfl) (by kernel_rfl) (fun _ _ _ h => h) (Or.inl ⟨by kernel_rfl, ?m55_h⟩) hHeld ?m55_r
        case m55_h => (intro w hSw; (try dsimp only at hSw); go_simp; try with_reducible rfl)
        try simp only [Act.put, List.getElem_toArray, List.getElem_cons_succ, List.getElem_cons_zero, List.setIfInBounds_toArray, List.set_cons_zero, List.set_cons_succ]
        refine wpAnyH_take (i := 9) (oi := _) (v := ?m56_v) rfl (by kernel_rfl) (by kernel_rfl) (by kernel_rfl) (fun _ _ _ h => h) (Or.inl ⟨by kernel_rfl, ?m56_h⟩) hHeld ?m56_r
        case m56_h => (intro w hSw; (try dsimp only at hSw); go_simp; try with_reducible rfl)
        try simp only [Act.put, List.getElem_toArray, List.getElem_cons_succ, List.getElem_cons_zero, List.setIfInBounds_toArray, List.set_cons_zero, List.set_cons_succ]
        refine wpAnyH_take (i := 10) (oi := _) (v := ?m57_v) rfl (by kernel_rfl) (by kernel_rfl) (by kernel_rfl) (fun _ _ _ h => h) (Or.inl ⟨by kernel_rfl, ?m57_h⟩) hHeld ?m57_r
        case m57_h => (intro w hSw; (try dsimp only at hSw); go_simp; try with_reducible rfl)
        try simp only [Act.put, List.getElem_toArray, List.getElem_cons_succ, List.getElem_cons_zero, List.setIfInBounds_toArray, List.set_cons_zero, List.set_cons_succ]
        refine wpAnyH_ready (rs := [11]) (by kernel_rfl) (by simp) ?_
        refine (AllReadyH.cons (o := _) rfl (fun K hK => ?_) AllReadyH.nil)
        go_simp
        refine (made06 _ ⟨bo, ⟨bs, bu, bw⟩, bl⟩).mono ?_
        rintro _ W13 ⟨rfl, kn⟩
        rw [BlockV.cells_def]
        replace hst := Lib.hid (hst.out.nil kn)
        replace hV := Lib.hid (hV.out.keeps_nil kn)
        replace hB1 := Lib.hid (hB1.out.nil kn)
        replace hB2 := Lib.hid (hB2.out.nil kn)
        replace hB3 := Lib.hid (hB3.out.nil kn)
        replace hB4 := Lib.hid (hB4.out.nil kn)
        clear kn
        refine hK.out _ _ (⟨hB1.out.cell 0 _ rfl, hB1.out.cell 1 _ rfl, hB1.out.cell 2 _ rfl, hB1.out.cell 3 _ rfl, hB1.out.cell 4 _ rfl, hB2.out.cell 0 _ rfl, hB2.out.cell 1 _ rfl, hB2.out.cell 2 _ rfl, hB2.out.cell 3 _ rfl, hB2.out.cell 4 _ rfl, hB3.out.cell 0 _ rfl, hB3.out.cell 1 _ rfl, hB3.out.cell 2 _ rfl, hB3.out.cell 3 _ rfl, hB3.out.cell 4 _ rfl, hB4.out.cell 0 _ rfl, hB4.out.cell 1 _ rfl, hB4.out.cell 2 _ rfl, hB4.out.cell 3 _ rfl, hB4.out.cell 4 _ rfl⟩) (fun hHeld => ?_)
        clear hK K
        try simp only [Act.put, List.getElem_toArray, List.getElem_cons_succ, List.getElem_cons_zero, List.setIfInBounds_toArray, List.set_cons_zero, List.set_cons_succ]
        have qs1 : ∀ w, (binOp .eql 103 (.agg #[.int .u64 (bo.toNat : Int), .int .u64 (bs.toNat : Int), .bool bu, .int .i64 bw, .int .u64 (bl.toNat : Int)]) (.agg #[.int .u64 (bo.toNat : Int), .int .u64 (bs.toNat : Int), .bool bu, .int .i64 bw, .int .u64 (bl.toNat : Int)])).run Try.prog w = .ok (.bool true) w := blk_eql_yes rfl
        refine wpAnyH_take (i := 12) (oi := _) (v := ?m58_v) rfl (by kernel_rfl) (by kernel_rfl) (by kernel_rfl) (fun _ _ _ h => h) (Or.inl ⟨by kernel_rfl, ?m58_h⟩) hHeld ?m58_r
        case m58_h => (intro w hSw; (try dsimp only at hSw); go_simp; try with_reducible rfl)
        try simp only [Act.put, List.getElem_toArray, List.getElem_cons_succ, List.getElem_cons_zero, List.setIfInBounds_toArray, List.set_cons_zero, List.set_cons_succ]
        refine wpAnyH_take (i := 13) (oi := _) (v := ?m59_v) rfl (by kernel_rfl) (by kernel_rfl) (by kernel_rfl) (fun _ _ _ h => h) (Or.inl ⟨by kernel_rfl, ?m59_h⟩) hHeld ?m59_r
        case m59_h => (intro w hSw; (try dsimp only at hSw); go_simp; try with_reducible rfl)
        try simp only [Act.put, List.getElem_toArray, List.getElem_cons_succ, List.getElem_cons_zero, List.setIfInBounds_toArray, List.set_cons_zero, List.set_cons_succ]
        refine wpAnyH_take (i := 14) (oi := _) (v := ?m60_v) rfl (by kernel_rfl) (by kernel_rfl) (by kernel_rfl) (fun _ _ _ h => h) (Or.inl ⟨by kernel_rfl, ?m60_h⟩) hHeld ?m60_r
        case m60_h => (intro w hSw; (try dsimp only at hSw); go_simp; try with_reducible rfl)
        try simp only [Act.put, List.getElem_toArray, List.getElem_cons_succ, List.getElem_cons_zero, List.setIfInBounds_toArray, List.set_cons_zero, List.set_cons_succ]
        refine wpAnyH_take (i := 15) (oi := _) (v := ?m61_v) rfl (by kernel_rfl) (by kernel_rfl) (by kernel_rfl) (fun _ _ _ h => h) (Or.inl ⟨by kernel_rfl, ?m61_h⟩) hHeld ?m61_r
        case m61_h => (intro w hSw; (try dsimp only at hSw); go_simp; try with_reducible rfl)
        try simp only [Act.put, List.getElem_toArray, List.getElem_cons_succ, List.getElem_cons_zero, List.setIfInBounds_toArray, List.set_cons_zero, List.set_cons_succ]
        refine wpAnyH_take (i := 16) (oi := _) (v := ?m62_v) rfl (by kernel_rfl) (by kernel_rfl) (by kernel_rfl) (fun _ _ _ h => h) (Or.inl ⟨by kernel_rfl, ?m62_h⟩) hHeld ?m62_r
        case m62_h => (intro w hSw; (try dsimp only at hSw); go_simp; try with_reducible rfl)
        try simp only [Act.put, List.getElem_toArray, List.getElem_cons_succ, List.getElem_cons_zero, List.setIfInBounds_toArray, List.set_cons_zero, List.set_cons_succ]
        refine wpAnyH_take (i := 17) (oi := _) (v := ?m63_v) rfl (by kernel_rfl) (by kernel_rfl) (by kernel_rfl) (fun _ _ _ h => h) (Or.inl ⟨by kernel_rfl, ?m63_h⟩) hHeld ?m63_r
        case m63_h => (intro w hSw; (try dsimp only at hSw); go_simp; try with_reducible rfl)
        try simp only [Act.put, List.getElem_toArray, List.getElem_cons_succ, List.getElem_cons_zero, List.setIfInBounds_toArray, List.set_cons_zero, List.set_cons_succ]
        refine wpAnyH_take (i := 18) (oi := _) (v := ?m64_v) rfl (by kernel_rfl) (by kernel_rfl) (by kernel_rfl) (fun _ _ _ h => h) (Or.inl ⟨by kernel_rfl, ?m64_h⟩) hHeld ?m64_r
        case m64_h => (intro w hSw; (try dsimp only at hSw); go_simp; try with_reducible rfl)
        try simp only [Act.put, List.getElem_toArray, List.getElem_cons_succ, List.getElem_cons_zero, List.setIfInBounds_toArray, List.set_cons_zero, List.set_cons_succ]
        refine wpAnyH_take (i := 19) (oi := _) (v := ?m65_v) rfl (by kernel_rfl) (by kernel_rfl) (by kernel_rfl) (fun _ _ _ h => h) (Or.inl ⟨by kernel_rfl, ?m65_h⟩) hHeld ?m65_r
        case m65_h => (intro w hSw; (try dsimp only at hSw); go_simp; try with_reducible rfl)
        try simp only [Act.put, List.getElem_toArray, List.getElem_cons_succ, List.getElem_cons_zero, List.setIfInBounds_toArray, List.set_cons_zero, List.set_cons_succ]
        refine wpAnyH_take (i := 20) (oi := _) (v := ?m66_v) rfl (by kernel_rfl) (by kernel_rfl) (by kernel_rfl) (fun _ _ _ h => h) (Or.inl ⟨by kernel_rfl, ?m66_h⟩) hHeld ?m66_r
        case m66_h => (intro w hSw; (try dsimp only at hSw); go_simp; try with_reducible rfl)
        try simp only [Act.put, List.getElem_toArray, List.getElem_cons_succ, List.getElem_cons_zero, List.setIfInBounds_toArray, List.set_cons_zero, List.set_cons_succ]
        refine wpAnyH_take (i := 21) (oi := _) (v := ?m67_v) rfl (by kernel_rfl) (by kernel_rfl) (by kernel_rfl) (fun _ _ _ h => h) (Or.inl ⟨by kernel_rfl, ?m67_h⟩) hHeld ?m67_r
        case m67_h => (intro w hSw; (try dsimp only at hSw); go_simp; try with_reducible rfl)
        try simp only [Act.put, List.getElem_toArray, List.getElem_cons_succ, List.getElem_cons_zero, List.setIfInBounds_toArray, List.set_cons_zero, List.set_cons_succ]
        refine wpAnyH_ready (rs := [22]) (by kernel_rfl) (by simp) ?_
        refine (AllReadyH.cons (o := _) rfl (fun K hK => ?_) AllReadyH.nil)
        go_simp
        refine (made06 _ ⟨co, ⟨cs, cu, cw⟩, cl⟩).mono ?_
        rintro _ W14 ⟨rfl, kn⟩
        rw [BlockV.cells_def]
        replace hst := Lib.hid (hst.out.nil kn)
        replace hV := Lib.hid (hV.out.keeps_nil kn)
        replace hB1 := Lib.hid (hB1.out.nil kn)
        replace hB2 := Lib.hid (hB2.out.nil kn)
        replace hB3 := Lib.hid (hB3.out.nil kn)
        replace hB4 := Lib.hid (hB4.out.nil kn)
        clear kn
        refine hK.out _ _ (⟨hB1.out.cell 0 _ rfl, hB1.out.cell 1 _ rfl, hB1.out.cell 2 _ rfl, hB1.out.cell 3 _ rfl, hB1.out.cell 4 _ rfl, hB2.out.cell 0 _ rfl, hB2.out.cell 1 _ rfl, hB2.out.cell 2 _ rfl, hB2.out.cell 3 _ rfl, hB2.out.cell 4 _ rfl, hB3.out.cell 0 _ rfl, hB3.out.cell 1 _ rfl, hB3.out.cell 2 _ rfl, hB3.out.cell 3 _ rfl, hB3.out.cell 4 _ rfl, hB4.out.cell 0 _ rfl, hB4.out.cell 1 _ rfl, hB4.out.cell 2 _ rfl, hB4.out.cell 3 _ rfl, hB4.out.cell 4 _ rfl⟩) (fun hHeld => ?_)
        clear hK K
        try simp only [Act.put, List.getElem_toArray, List.getElem_cons_succ, List.getElem_cons_zero, List.setIfInBounds_toArray, List.set_cons_zero, List.set_cons_succ]
        have qs2 : ∀ w, (binOp .eql 103 (.agg #[.int .u64 (co.toNat : Int), .int .u64 (cs.toNat : Int), .bool cu, .int .i64 cw, .int .u64 (cl.toNat : Int)]) (.agg #[.int .u64 (co.toNat : Int), .int .u64 (cs.toNat : Int), .bool cu, .int .i64 cw, .int .u64 (cl.toNat : Int)])).run Try.prog w = .ok (.bool true) w := blk_eql_yes rfl
        refine wpAnyH_take (i := 23) (oi := _) (v := ?m68_v) rfl (by kernel_rfl) (by kernel_rfl) (by kernel_rfl) (fun _ _ _ h => h) (Or.inl ⟨by kernel_rfl, ?m68_h⟩) hHeld ?m68_r
        case m68_h => (intro w hSw; (try dsimp only at hSw); go_simp; try with_reducible rfl)
        try simp only [Act.put, List.getElem_toArray, List.getElem_cons_succ, List.getElem_cons_zero, List.setIfInBounds_toArray, List.set_cons_zero, List.set_cons_succ]
        refine wpAnyH_take (i := 24) (oi := _) (v := ?m69_v) rfl (by kernel_rfl) (by kernel_rfl) (by kernel_rfl) (fun _ _ _ h => h) (Or.inl ⟨by kernel_rfl, ?m69_h⟩) hHeld ?m69_r
        case m69_h => (intro w hSw; (try dsimp only at hSw); go_simp; try with_reducible rfl)
        try simp only [Act.put, List.getElem_toArray, List.getElem_cons_succ, List.getElem_cons_zero, List.setIfInBounds_toArray, List.set_cons_zero, List.set_cons_succ]
        refine wpAnyH_take (i := 25) (oi := _) (v := ?m70_v) rfl (by kernel_rfl) (by kernel_rfl) (by kernel_rfl) (fun _ _ _ h => h) (Or.inl ⟨by kernel_rfl, ?m70_h⟩) hHeld ?m70_r
        case m70_h => (intro w hSw; (try dsimp only at hSw); go_simp; try with_reducible rfl)
        try simp only [Act.put, List.getElem_toArray, List.getElem_cons_succ, List.getElem_cons_zero, List.setIfInBounds_toArray, List.set_cons_zero, List.set_cons_succ]
        refine wpAnyH_take (i := 26) (oi := _) (v := ?m71_v) rfl (by kernel_rfl) (by kernel_rfl) (by kernel_rfl) (fun _ _ _ h => h) (Or.inl ⟨by kernel_rfl, ?m71_h⟩) hHeld ?m71_r
        case m71_h => (intro w hSw; (try dsimp only at hSw); go_simp; try with_reducible rfl)
        try simp only [Act.put, List.getElem_toArray, List.getElem_cons_succ, List.getElem_cons_zero, List.setIfInBounds_toArray, List.set_cons_zero, List.set_cons_succ]
        refine wpAnyH_take (i := 27) (oi := _) (v := ?m72_v) rfl (by kernel_rfl) (by kernel_rfl) (by kernel_rfl) (fun _ _ _ h => h) (Or.inl ⟨by kernel_rfl, ?m72_h⟩) hHeld ?m72_r
        case m72_h => (intro w hSw; (try dsimp only at hSw); go_simp; try with_reducible rfl)
        try simp only [Act.put, List.getElem_toArray, List.getElem_cons_succ, List.getElem_cons_zero, List.setIfInBounds_toArray, List.set_cons_zero, List.set_cons_succ]
        refine wpAnyH_take (i := 28) (oi := _) (v := ?m73_v) rfl (by kernel_rfl) (by kernel_rfl) (by kernel_rfl) (fun _ _ _ h => h) (Or.inl ⟨by kernel_rfl, ?m73_h⟩) hHeld ?m73_r
        case m73_h => (intro w hSw; (try dsimp only at hSw); go_simp; try with_reducible rfl)
        try simp only [Act.put, List.getElem_toArray, List.getElem_cons_succ, List.getElem_cons_zero, List.setIfInBounds_toArray, List.set_cons_zero, List.set_cons_succ]
        refine wpAnyH_take (i := 29) (oi := _) (v := ?m74_v) rfl (by kernel_rfl) (by kernel_rfl) (by kernel_rfl) (fun _ _ _ h => h) (Or.inl ⟨by kernel_rfl, ?m74_h⟩) hHeld ?m74_r
        case m74_h => (intro w hSw; (try dsimp only at hSw); go_simp; try with_reducible rfl)
        try simp only [Act.put, List.getElem_toArray, List.getElem_cons_succ, List.getElem_cons_zero, List.setIfInBounds_toArray, List.set_cons_zero, List.set_cons_succ]
        refine wpAnyH_take (i := 30) (oi := _) (v := ?m75_v) rfl (by kernel_rfl) (by kernel_rfl) (by kernel_rfl) (fun _ _ _ h => h) (Or.inl ⟨by kernel_rfl, ?m75_h⟩) hHeld ?m75_r
        case m75_h => (intro w hSw; (try dsimp only at hSw); go_simp; try with_reducible rfl)
        try simp only [Act.put, List.getElem_toArray, List.getElem_cons_succ, List.getElem_cons_zero, List.setIfInBounds_toArray, List.set_cons_zero, List.set_cons_succ]
        refine wpAnyH_done (by kernel_rfl) ?_ _
        clear hHeld
        have c_B1_0 := hB1.out.cell 0 _ rfl
        have f_B1_0 := hB1.out.frz 0
        have c_B1_1 := hB1.out.cell 1 _ rfl
        have f_B1_1 := hB1.out.frz 1
        have c_B1_2 := hB1.out.cell 2 _ rfl
        have f_B1_2 := hB1.out.frz 2
        have c_B1_3 := hB1.out.cell 3 _ rfl
        have f_B1_3 := hB1.out.frz 3
        have c_B1_4 := hB1.out.cell 4 _ rfl
        have f_B1_4 := hB1.out.frz 4
        have l_B1 := hB1.out.lt
        have c_B2_0 := hB2.out.cell 0 _ rfl
        have f_B2_0 := hB2.out.frz 0
        have c_B2_1 := hB2.out.cell 1 _ rfl
        have f_B2_1 := hB2.out.frz 1
        have c_B2_2 := hB2.out.cell 2 _ rfl
        have f_B2_2 := hB2.out.frz 2
        have c_B2_3 := hB2.out.cell 3 _ rfl
        have f_B2_3 := hB2.out.frz 3
        have c_B2_4 := hB2.out.cell 4 _ rfl
        have f_B2_4 := hB2.out.frz 4
        have l_B2 := hB2.out.lt
        have c_B3_0 := hB3.out.cell 0 _ rfl
        have f_B3_0 := hB3.out.frz 0
        have c_B3_1 := hB3.out.cell 1 _ rfl
        have f_B3_1 := hB3.out.frz 1
        have c_B3_2 := hB3.out.cell 2 _ rfl
        have f_B3_2 := hB3.out.frz 2
        have c_B3_3 := hB3.out.cell 3 _ rfl
        have f_B3_3 := hB3.out.frz 3
        have c_B3_4 := hB3.out.cell 4 _ rfl
        have f_B3_4 := hB3.out.frz 4
        have l_B3 := hB3.out.lt
        have c_B4_0 := hB4.out.cell 0 _ rfl
        have f_B4_0 := hB4.out.frz 0
        have c_B4_1 := hB4.out.cell 1 _ rfl
        have f_B4_1 := hB4.out.frz 1
        have c_B4_2 := hB4.out.cell 2 _ rfl
        have f_B4_2 := hB4.out.frz 2
        have c_B4_3 := hB4.out.cell 3 _ rfl
        have f_B4_3 := hB4.out.frz 3
        have c_B4_4 := hB4.out.cell 4 _ rfl
        have f_B4_4 := hB4.out.frz 4
        have l_B4 := hB4.out.lt
        go_wp2_with fail
        go_ret
        clear c_B1_0 f_B1_0 c_B1_1 f_B1_1 c_B1_2 f_B1_2 c_B1_3 f_B1_3 c_B1_4 f_B1_4 l_B1 c_B2_0 f_B2_0 c_B2_1 f_B2_1 c_B2_2 f_B2_2 c_B2_3 f_B2_3 c_B2_4 f_B2_4 l_B2 c_B3_0 f_B3_0 c_B3_1 f_B3_1 c_B3_2 f_B3_2 c_B3_3 f_B3_3 c_B3_4 f_B3_4 l_B3 c_B4_0 f_B4_0 c_B4_1 f_B4_1 c_B4_2 f_B4_2 c_B4_3 f_B4_3 c_B4_4 f_B4_4 l_B4
        exact ⟨rfl, hst.out.keeps⟩
end Go.Proofs.Ytccllkgaakmdhaa
