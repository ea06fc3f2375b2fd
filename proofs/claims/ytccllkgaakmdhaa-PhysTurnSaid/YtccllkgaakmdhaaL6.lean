/- carracklaw06: made, same. -/
import Derived.Test.YtccllkgaakmdhaaPhysFind
namespace Go.Proofs.Ytccllkgaakmdhaa
open Go.RowKit

theorem blk_eq (p q : BlockV) (w : World) : (Op.equalIn 10000 103 (.agg p.cells) (.agg q.cells)).run Try.prog w = .ok (((p.off.toNat : Int) == (q.off.toNat : Int)) && (((((p.tag.size.toNat : Int) == (q.tag.size.toNat : Int)) && ((p.tag.used == q.tag.used) && ((p.tag.owner == q.tag.owner) && true)))) && (((p.len.toNat : Int) == (q.len.toNat : Int)) && true))) w := by
  obtain ⟨a, ⟨s, u, o⟩, n⟩ := p
  obtain ⟨b, ⟨t, v, r⟩, m⟩ := q
  rw [BlockV.cells_def, BlockV.cells_def]
  dsimp only
  refine equalIn_fields (d := 9999) Try.underlying103 (by kernel_rfl) ?_
  refine eqFields_one (by decide) (a := .int .u64 (a.toNat : Int)) (b := .int .u64 (b.toNat : Int)) (by kernel_rfl) (by kernel_rfl) (equalIn_int (d := 9998) Try.underlying36) ?_
  refine eqFields_one (by decide) (a := .agg #[.int .u64 (s.toNat : Int), .bool u, .int .i64 o]) (b := .agg #[.int .u64 (t.toNat : Int), .bool v, .int .i64 r]) (by kernel_rfl) (by kernel_rfl) ?_ ?_
  · refine equalIn_fields (d := 9998) Try.underlying70 (by kernel_rfl) ?_
    refine eqFields_one (by decide) (a := .int .u64 (s.toNat : Int)) (b := .int .u64 (t.toNat : Int)) (by kernel_rfl) (by kernel_rfl) (equalIn_int (d := 9997) Try.underlying36) ?_
    refine eqFields_one (by decide) (a := .bool u) (b := .bool v) (by kernel_rfl) (by kernel_rfl) (equalIn_bool (d := 9997) Try.underlying4) ?_
    exact eqFields_one (by decide) (a := .int .i64 o) (b := .int .i64 r) (by kernel_rfl) (by kernel_rfl) (equalIn_int (d := 9997) Try.underlying3) eqFields_none
  · exact eqFields_one (by decide) (a := .int .u64 (n.toNat : Int)) (b := .int .u64 (m.toNat : Int)) (by kernel_rfl) (by kernel_rfl) (equalIn_int (d := 9998) Try.underlying36) eqFields_none
theorem blk_beq (p q : BlockV) : (((p.off.toNat : Int) == (q.off.toNat : Int)) && (((((p.tag.size.toNat : Int) == (q.tag.size.toNat : Int)) && ((p.tag.used == q.tag.used) && ((p.tag.owner == q.tag.owner) && true)))) && (((p.len.toNat : Int) == (q.len.toNat : Int)) && true))) = decide (p = q) := by
  obtain ⟨a, ⟨s, u, o⟩, n⟩ := p
  obtain ⟨b, ⟨t, v, r⟩, m⟩ := q
  rw [Bool.eq_iff_iff, decide_eq_true_iff]
  have hi : ∀ x y : UInt64, ((x.toNat : Int) = (y.toNat : Int)) ↔ x = y := fun x y => ⟨fun h => UInt64.toNat_inj.1 (by omega), fun h => by rw [h]⟩
  simp [hi, and_assoc]
theorem blk_eql (p q : BlockV) (w : World) : (binOp .eql 103 (.agg p.cells) (.agg q.cells)).run Try.prog w = .ok (.bool (decide (p = q))) w := by
  rw [run_eql_struct, blk_eq, blk_beq]; simp [Result.andThen]
theorem blk_neq (p q : BlockV) (w : World) : (binOp .neq 103 (.agg p.cells) (.agg q.cells)).run Try.prog w = .ok (.bool (!decide (p = q))) w := by
  rw [run_neq_struct, blk_eq, blk_beq]; simp [Result.andThen]
theorem blk_gd : Try.prog.eqGuardType Try.prog.depth 103 = false := by kernel_rfl
theorem blk_eql_yes {a s n b t m : UInt64} {u v : Bool} {o r : Int} (h : (⟨a, ⟨s, u, o⟩, n⟩ : BlockV) = ⟨b, ⟨t, v, r⟩, m⟩) (w : World) :
    (binOp .eql 103 (.agg #[.int .u64 (a.toNat : Int), .int .u64 (s.toNat : Int), .bool u, .int .i64 o, .int .u64 (n.toNat : Int)]) (.agg #[.int .u64 (b.toNat : Int), .int .u64 (t.toNat : Int), .bool v, .int .i64 r, .int .u64 (m.toNat : Int)])).run Try.prog w = .ok (.bool true) w := by
  have := blk_eql ⟨a, ⟨s, u, o⟩, n⟩ ⟨b, ⟨t, v, r⟩, m⟩ w
  rw [decide_eq_true h] at this; exact this
theorem blk_eql_no {a s n b t m : UInt64} {u v : Bool} {o r : Int} (h : (⟨a, ⟨s, u, o⟩, n⟩ : BlockV) ≠ ⟨b, ⟨t, v, r⟩, m⟩) (w : World) :
    (binOp .eql 103 (.agg #[.int .u64 (a.toNat : Int), .int .u64 (s.toNat : Int), .bool u, .int .i64 o, .int .u64 (n.toNat : Int)]) (.agg #[.int .u64 (b.toNat : Int), .int .u64 (t.toNat : Int), .bool v, .int .i64 r, .int .u64 (m.toNat : Int)])).run Try.prog w = .ok (.bool false) w := by
  have := blk_eql ⟨a, ⟨s, u, o⟩, n⟩ ⟨b, ⟨t, v, r⟩, m⟩ w
  rw [decide_eq_false h] at this; exact this
theorem blk_neq_no {a s n b t m : UInt64} {u v : Bool} {o r : Int} (h : (⟨a, ⟨s, u, o⟩, n⟩ : BlockV) = ⟨b, ⟨t, v, r⟩, m⟩) (w : World) :
    (binOp .neq 103 (.agg #[.int .u64 (a.toNat : Int), .int .u64 (s.toNat : Int), .bool u, .int .i64 o, .int .u64 (n.toNat : Int)]) (.agg #[.int .u64 (b.toNat : Int), .int .u64 (t.toNat : Int), .bool v, .int .i64 r, .int .u64 (m.toNat : Int)])).run Try.prog w = .ok (.bool false) w := by
  have := blk_neq ⟨a, ⟨s, u, o⟩, n⟩ ⟨b, ⟨t, v, r⟩, m⟩ w
  rw [decide_eq_true h] at this; exact this

set_option maxRecDepth 100000 in
set_option maxHeartbeats 4000000 in
theorem made06 (w : World) (b : BlockV) : Calls Try.prog 80 #[.agg b.cells] w fun e w' => e = .returned (.agg b.cells) ∧ Keeps Nil w w' := by
  obtain ⟨bo, ⟨bs, bu, bw⟩, bl⟩ := b
  rw [BlockV.cells_def]
  have hst := Lib.hid (Step.refl Nil w)
  go_enter Try.func80, Try.ntmps80
  obtain ⟨W1, hW1⟩ : ∃ W, W = w.alloc (.cells #[.int .u64 (bo.toNat : Int), .int .u64 (bs.toNat : Int), .bool bu, .int .i64 bw, .int .u64 (bl.toNat : Int)] 108) := ⟨_, rfl⟩
  obtain ⟨B1, eB1⟩ : ∃ B, B = w.heap.size := ⟨_, rfl⟩
  replace hW1 := Lib.hid hW1
  replace eB1 := Lib.hid eB1
  obtain ⟨W2, hW2⟩ : ∃ W, W = W1.alloc (.cells #[.int .u64 (bo.toNat : Int), .int .u64 (bs.toNat : Int), .bool bu, .int .i64 bw, .int .u64 (bl.toNat : Int)] 103) := ⟨_, rfl⟩
  obtain ⟨B2, eB2⟩ : ∃ B, B = w.heap.size + 1 := ⟨_, rfl⟩
  replace hW2 := Lib.hid hW2
  replace eB2 := Lib.hid eB2
  go_wp2_with fail
  rw [← hW1.out]
  rw [← hW2.out]
  try rw [← eB2.out]
  try rw [← eB1.out]
  have k1 : Keeps Nil w W1 := by rw [hW1.out]; exact alloc_keeps _ _
  have e0B1 : B1 = w.heap.size := by rw [eB1.out]
  have hB1 := Lib.hid (show Bx W1 Nil B1 #[.int .u64 (bo.toNat : Int), .int .u64 (bs.toNat : Int), .bool bu, .int .i64 bw, .int .u64 (bl.toNat : Int)] 108 by rw [hW1.out]; exact Bx.new Nil.lt _ _ e0B1)
  have gB1 := Lib.hid (show w.heap.size ≤ B1 by rw [e0B1]; exact hst.out.keeps.size)
  replace hst := Lib.hid (hst.out.nil k1)
  clear k1 e0B1
  have k2 : Keeps Nil W1 W2 := by rw [hW2.out]; exact alloc_keeps _ _
  have e0B2 : B2 = W1.heap.size := by rw [eB2.out, hW1.out]; simp [World.setCell]
  have hB2 := Lib.hid (show Bx W2 Nil B2 #[.int .u64 (bo.toNat : Int), .int .u64 (bs.toNat : Int), .bool bu, .int .i64 bw, .int .u64 (bl.toNat : Int)] 103 by rw [hW2.out]; exact Bx.new Nil.lt _ _ e0B2)
  have gB2 := Lib.hid (show w.heap.size ≤ B2 by rw [e0B2]; exact hst.out.keeps.size)
  have nB1B2 := Lib.hid (show B1 < B2 by rw [e0B2]; exact hB1.out.lt)
  replace hst := Lib.hid (hst.out.nil k2)
  replace hB1 := Lib.hid (hB1.out.nil k2)
  clear k2 e0B2
  refine bodyPost_ret (results_row rfl rfl hB2.out.1 Try.underlying103 rfl (by kernel_rfl)) rfl ?_
  exact ⟨rfl, hst.out.keeps⟩
set_option maxRecDepth 100000 in
set_option maxHeartbeats 4000000 in
theorem same06 {S S2 : Nat → Prop} {w : World} {v v2 : Value} {l : List BlockV} (h1 : View kB S w v l) (h2 : View kB S2 w v2 l) :
    Calls Try.prog 76 #[v, v2] w fun e w' => e = .returned (.bool true) ∧ Keeps Nil w w' := by
  have hgd := blk_gd
  by_cases hn : 0 < l.length
  · obtain ⟨gb, go, cap, rfl, hc, hm, hb, _, hcell⟩ := h1.pos hn
    obtain ⟨hb2, ho2, cap2, rfl, _, _, hbb, _, hcell2⟩ := h2.pos hn
    obtain ⟨N, hN⟩ : ∃ N, N = l.length := ⟨_, rfl⟩
    have hNm : N ≤ 9223372036854775807 := by unfold maxLen at hm; omega
    rw [← hN]
    have HC := Lib.hid hcell
    have HC2 := Lib.hid hcell2
    have HGB := Lib.hid hb
    have HGB2 := Lib.hid hbb
    have HL := Lib.hid hN
    clear hcell hcell2 hc hm hn h1 h2 hN hb hbb
    have hst := Lib.hid (Step.refl Nil w)
    go_enter Try.func76, Try.ntmps76
    go_wp2_with fail
    go_loopw [5] (fun i wr => ∃ k : Nat, k ≤ N ∧ i = .int .i64 (k : Int) ∧ Hid (Keeps Nil w wr)) (fun i _ => N - (intOf i).toNat)
    case atStart => exact ⟨0, by omega, rfl, Lib.hid hst.out.keeps⟩
    case round =>
      obtain ⟨k, hk, rfl, hK0⟩ := hrel
      replace hst := Lib.hid (Step.of_nil (S := Nil) hK0.out)
      clear hK0
      by_cases hlt : k < N
      · obtain ⟨⟨bo, ⟨bs, bu, bw⟩, bl⟩, hx⟩ : ∃ x, l[k]? = some x := ⟨l[k]'(by have := HL.out; omega), by have := HL.out; simp⟩
        have HX := Lib.hid hx
        clear hx
        have e_x0 := (hst.out.keeps.cell HGB.out (fun e => e) _).trans (View.cellB HC.out k _ HX.out).1
        have e_x1 := (hst.out.keeps.cell HGB.out (fun e => e) _).trans (View.cellB HC.out k _ HX.out).2.1
        have e_x2 := (hst.out.keeps.cell HGB.out (fun e => e) _).trans (View.cellB HC.out k _ HX.out).2.2.1
        have e_x3 := (hst.out.keeps.cell HGB.out (fun e => e) _).trans (View.cellB HC.out k _ HX.out).2.2.2.1
        have e_x4 := (hst.out.keeps.cell HGB.out (fun e => e) _).trans (View.cellB HC.out k _ HX.out).2.2.2.2
        have e_y0 := (hst.out.keeps.cell HGB2.out (fun e => e) _).trans (View.cellB HC2.out k _ HX.out).1
        have e_y1 := (hst.out.keeps.cell HGB2.out (fun e => e) _).trans (View.cellB HC2.out k _ HX.out).2.1
        have e_y2 := (hst.out.keeps.cell HGB2.out (fun e => e) _).trans (View.cellB HC2.out k _ HX.out).2.2.1
        have e_y3 := (hst.out.keeps.cell HGB2.out (fun e => e) _).trans (View.cellB HC2.out k _ HX.out).2.2.2.1
        have e_y4 := (hst.out.keeps.cell HGB2.out (fun e => e) _).trans (View.cellB HC2.out k _ HX.out).2.2.2.2
        go_wp2_with fail
        clear e_x0 e_x1 e_x2 e_x3 e_x4 e_y0 e_y1 e_y2 e_y3 e_y4
        obtain ⟨W1, hW1⟩ : ∃ W, W = wr.drew := ⟨_, rfl⟩
        replace hW1 := Lib.hid hW1
        have kn : Keeps Nil wr W1 := by rw [hW1.out]; exact keeps_drew _
        replace hst := Lib.hid (hst.out.nil kn)
        clear kn
        refine wp_region_held_drew (S := fun w' => w'.cell? ⟨gb, go + k * 5, none⟩ = some (.int .u64 (bo.toNat : Int)) ∧ w'.cell? ⟨gb, go + k * 5 + 1, none⟩ = some (.int .u64 (bs.toNat : Int)) ∧ w'.cell? ⟨gb, go + k * 5 + 2, none⟩ = some (.bool bu) ∧ w'.cell? ⟨gb, go + k * 5 + 3, none⟩ = some (.int .i64 bw) ∧ w'.cell? ⟨gb, go + k * 5 + 4, none⟩ = some (.int .u64 (bl.toNat : Int)) ∧ w'.cell? ⟨hb2, ho2 + k * 5, none⟩ = some (.int .u64 (bo.toNat : Int)) ∧ w'.cell? ⟨hb2, ho2 + k * 5 + 1, none⟩ = some (.int .u64 (bs.toNat : Int)) ∧ w'.cell? ⟨hb2, ho2 + k * 5 + 2, none⟩ = some (.bool bu) ∧ w'.cell? ⟨hb2, ho2 + k * 5 + 3, none⟩ = some (.int .i64 bw) ∧ w'.cell? ⟨hb2, ho2 + k * 5 + 4, none⟩ = some (.int .u64 (bl.toNat : Int))) (by kernel_rfl) (by rw [← hW1.out]; exact ⟨(hst.out.keeps.cell HGB.out (fun e => e) _).trans (View.cellB HC.out k _ HX.out).1, (hst.out.keeps.cell HGB.out (fun e => e) _).trans (View.cellB HC.out k _ HX.out).2.1, (hst.out.keeps.cell HGB.out (fun e => e) _).trans (View.cellB HC.out k _ HX.out).2.2.1, (hst.out.keeps.cell HGB.out (fun e => e) _).trans (View.cellB HC.out k _ HX.out).2.2.2.1, (hst.out.keeps.cell HGB.out (fun e => e) _).trans (View.cellB HC.out k _ HX.out).2.2.2.2, (hst.out.keeps.cell HGB2.out (fun e => e) _).trans (View.cellB HC2.out k _ HX.out).1, (hst.out.keeps.cell HGB2.out (fun e => e) _).trans (View.cellB HC2.out k _ HX.out).2.1, (hst.out.keeps.cell HGB2.out (fun e => e) _).trans (View.cellB HC2.out k _ HX.out).2.2.1, (hst.out.keeps.cell HGB2.out (fun e => e) _).trans (View.cellB HC2.out k _ HX.out).2.2.2.1, (hst.out.keeps.cell HGB2.out (fun e => e) _).trans (View.cellB HC2.out k _ HX.out).2.2.2.2⟩) (fun hHeld => ?_)
        rw [← hW1.out] at hHeld ⊢
        refine wpAnyH_take (i := 0) (oi := _) (v := ?m85_v) rfl (by kernel_rfl) (by kernel_rfl) (by kernel_rfl) (fun _ _ _ h => h) (Or.inl ⟨by kernel_rfl, ?m85_h⟩) hHeld ?m85_r
        case m85_h => (intro w hSw; (try dsimp only at hSw); go_simp; try with_reducible rfl)
        try simp only [Act.put, List.getElem_toArray, List.getElem_cons_succ, List.getElem_cons_zero, List.setIfInBounds_toArray, List.set_cons_zero, List.set_cons_succ]
        refine wpAnyH_take (i := 1) (oi := _) (v := ?m86_v) rfl (by kernel_rfl) (by kernel_rfl) (by kernel_rfl) (fun _ _ _ h => h) (Or.inl ⟨by kernel_rfl, ?m86_h⟩) hHeld ?m86_r
        case m86_h => (intro w hSw; (try dsimp only at hSw); go_simp; try with_reducible rfl)
        try simp only [Act.put, List.getElem_toArray, List.getElem_cons_succ, List.getElem_cons_zero, List.setIfInBounds_toArray, List.set_cons_zero, List.set_cons_succ]
        refine wpAnyH_take (i := 2) (oi := _) (v := ?m87_v) rfl (by kernel_rfl) (by kernel_rfl) (by kernel_rfl) (fun _ _ _ h => h) (Or.inl ⟨by kernel_rfl, ?m87_h⟩) hHeld ?m87_r
        case m87_h => (intro w hSw; (try dsimp only at hSw); go_simp; try with_reducible rfl)
        try simp only [Act.put, List.getElem_toArray, List.getElem_cons_succ, List.getElem_cons_zero, List.setIfInBounds_toArray, List.set_cons_zero, List.set_cons_succ]
        refine wpAnyH_take (i := 3) (oi := _) (v := ?m88_v) rfl (by kernel_rfl) (by kernel_rfl) (by kernel_rfl) (fun _ _ _ h => h) (Or.inl ⟨by kernel_rfl, ?m88_h⟩) hHeld ?m88_r
        case m88_h => (intro w hSw; (try dsimp only at hSw); go_simp; try with_reducible rfl)
        try simp only [Act.put, List.getElem_toArray, List.getElem_cons_succ, List.getElem_cons_zero, List.setIfInBounds_toArray, List.set_cons_zero, List.set_cons_succ]
        refine wpAnyH_take (i := 4) (oi := _) (v := ?m89_v) rfl (by kernel_rfl) (by kernel_rfl) (by kernel_rfl) (fun _ _ _ h => h) (Or.inl ⟨by kernel_rfl, ?m89_h⟩) hHeld ?m89_r
        case m89_h => (intro w hSw; (try dsimp only at hSw); go_simp; try with_reducible rfl)
        try simp only [Act.put, List.getElem_toArray, List.getElem_cons_succ, List.getElem_cons_zero, List.setIfInBounds_toArray, List.set_cons_zero, List.set_cons_succ]
        refine wpAnyH_take (i := 5) (oi := _) (v := ?m90_v) rfl (by kernel_rfl) (by kernel_rfl) (by kernel_rfl) (fun _ _ _ h => h) (Or.inl ⟨by kernel_rfl, ?m90_h⟩) hHeld ?m90_r
        case m90_h => (intro w hSw; (try dsimp only at hSw); go_simp; try with_reducible rfl)
        try simp only [Act.put, List.getElem_toArray, List.getElem_cons_succ, List.getElem_cons_zero, List.setIfInBounds_toArray, List.set_cons_zero, List.set_cons_succ]
        refine wpAnyH_take (i := 6) (oi := _) (v := ?m91_v) rfl (by kernel_rfl) (by kernel_rfl) (by kernel_rfl) (fun _ _ _ h => h) (Or.inl ⟨by kernel_rfl, ?m91_h⟩) hHeld ?m91_r
        case m91_h => (intro w hSw; (try dsimp only at hSw); go_simp; try with_reducible rfl)
        try simp only [Act.put, List.getElem_toArray, List.getElem_cons_succ, List.getElem_cons_zero, List.setIfInBounds_toArray, List.set_cons_zero, List.set_cons_succ]
        refine wpAnyH_take (i := 7) (oi := _) (v := ?m92_v) rfl (by kernel_rfl) (by kernel_rfl) (by kernel_rfl) (fun _ _ _ h => h) (Or.inl ⟨by kernel_rfl, ?m92_h⟩) hHeld ?m92_r
        case m92_h => (intro w hSw; (try dsimp only at hSw); go_simp; try with_reducible rfl)
        try simp only [Act.put, List.getElem_toArray, List.getElem_cons_succ, List.getElem_cons_zero, List.setIfInBounds_toArray, List.set_cons_zero, List.set_cons_succ]
        refine wpAnyH_ready (rs := [8]) (by kernel_rfl) (by simp) ?_
        refine (AllReadyH.cons (o := _) rfl (fun K hK => ?_) AllReadyH.nil)
        go_simp
        refine (made06 _ ⟨bo, ⟨bs, bu, bw⟩, bl⟩).mono ?_
        rintro _ W2 ⟨rfl, kn⟩
        rw [BlockV.cells_def]
        replace hst := Lib.hid (hst.out.nil kn)
        clear kn
        refine hK.out _ _ (⟨(hst.out.keeps.cell HGB.out (fun e => e) _).trans (View.cellB HC.out k _ HX.out).1, (hst.out.keeps.cell HGB.out (fun e => e) _).trans (View.cellB HC.out k _ HX.out).2.1, (hst.out.keeps.cell HGB.out (fun e => e) _).trans (View.cellB HC.out k _ HX.out).2.2.1, (hst.out.keeps.cell HGB.out (fun e => e) _).trans (View.cellB HC.out k _ HX.out).2.2.2.1, (hst.out.keeps.cell HGB.out (fun e => e) _).trans (View.cellB HC.out k _ HX.out).2.2.2.2, (hst.out.keeps.cell HGB2.out (fun e => e) _).trans (View.cellB HC2.out k _ HX.out).1, (hst.out.keeps.cell HGB2.out (fun e => e) _).trans (View.cellB HC2.out k _ HX.out).2.1, (hst.out.keeps.cell HGB2.out (fun e => e) _).trans (View.cellB HC2.out k _ HX.out).2.2.1, (hst.out.keeps.cell HGB2.out (fun e => e) _).trans (View.cellB HC2.out k _ HX.out).2.2.2.1, (hst.out.keeps.cell HGB2.out (fun e => e) _).trans (View.cellB HC2.out k _ HX.out).2.2.2.2⟩) (fun hHeld => ?_)
        clear hK K
        try simp only [Act.put, List.getElem_toArray, List.getElem_cons_succ, List.getElem_cons_zero, List.setIfInBounds_toArray, List.set_cons_zero, List.set_cons_succ]
        have qs1 : ∀ w, (binOp .neq 103 (.agg #[.int .u64 (bo.toNat : Int), .int .u64 (bs.toNat : Int), .bool bu, .int .i64 bw, .int .u64 (bl.toNat : Int)]) (.agg #[.int .u64 (bo.toNat : Int), .int .u64 (bs.toNat : Int), .bool bu, .int .i64 bw, .int .u64 (bl.toNat : Int)])).run Try.prog w = .ok (.bool false) w := blk_neq_no rfl
        refine wpAnyH_take (i := 9) (oi := _) (v := ?m93_v) rfl (by kernel_rfl) (by kernel_rfl) (by kernel_rfl) (fun _ _ _ h => h) (Or.inl ⟨by kernel_rfl, ?m93_h⟩) hHeld ?m93_r
        case m93_h => (intro w hSw; (try dsimp only at hSw); go_simp; try with_reducible rfl)
        try simp only [Act.put, List.getElem_toArray, List.getElem_cons_succ, List.getElem_cons_zero, List.setIfInBounds_toArray, List.set_cons_zero, List.set_cons_succ]
        refine wpAnyH_done (by kernel_rfl) ?_ _
        clear hHeld
        have e_x0 := (hst.out.keeps.cell HGB.out (fun e => e) _).trans (View.cellB HC.out k _ HX.out).1
        have e_x1 := (hst.out.keeps.cell HGB.out (fun e => e) _).trans (View.cellB HC.out k _ HX.out).2.1
        have e_x2 := (hst.out.keeps.cell HGB.out (fun e => e) _).trans (View.cellB HC.out k _ HX.out).2.2.1
        have e_x3 := (hst.out.keeps.cell HGB.out (fun e => e) _).trans (View.cellB HC.out k _ HX.out).2.2.2.1
        have e_x4 := (hst.out.keeps.cell HGB.out (fun e => e) _).trans (View.cellB HC.out k _ HX.out).2.2.2.2
        have e_y0 := (hst.out.keeps.cell HGB2.out (fun e => e) _).trans (View.cellB HC2.out k _ HX.out).1
        have e_y1 := (hst.out.keeps.cell HGB2.out (fun e => e) _).trans (View.cellB HC2.out k _ HX.out).2.1
        have e_y2 := (hst.out.keeps.cell HGB2.out (fun e => e) _).trans (View.cellB HC2.out k _ HX.out).2.2.1
        have e_y3 := (hst.out.keeps.cell HGB2.out (fun e => e) _).trans (View.cellB HC2.out k _ HX.out).2.2.2.1
        have e_y4 := (hst.out.keeps.cell HGB2.out (fun e => e) _).trans (View.cellB HC2.out k _ HX.out).2.2.2.2
        go_wp2_with fail
        clear e_x0 e_x1 e_x2 e_x3 e_x4 e_y0 e_y1 e_y2 e_y3 e_y4
        go_roundw
        case rel => exact ⟨k + 1, by omega, by go_num, Lib.hid hst.out.keeps⟩
        case measure => simp [intOf]; omega
      · skip
        go_wp2_with fail
        go_ret
        exact ⟨rfl, hst.out.keeps⟩
  · obtain ⟨al, cap, rfl, _⟩ := h1.val
    obtain ⟨al2, cap2, rfl, _⟩ := h2.val
    have e1 : l = [] := List.eq_nil_of_length_eq_zero (by omega)
    subst e1
    clear h1 h2 hn
    have hst := Lib.hid (Step.refl Nil w)
    go_enter Try.func76, Try.ntmps76
    go_wp2_with fail
    go_loopw [5] (fun i wr => i = .int .i64 0 ∧ Hid (Keeps Nil w wr)) (fun i _ => 0)
    case atStart => exact ⟨rfl, Lib.hid hst.out.keeps⟩
    case round =>
      obtain ⟨rfl, hK0⟩ := hrel
      replace hst := Lib.hid (Step.of_nil (S := Nil) hK0.out)
      clear hK0
      skip
      go_wp2_with fail
      go_ret
      exact ⟨rfl, hst.out.keeps⟩
end Go.Proofs.Ytccllkgaakmdhaa
