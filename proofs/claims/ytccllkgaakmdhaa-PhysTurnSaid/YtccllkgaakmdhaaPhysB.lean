/- Lists of blocks: the program's and the document's. -/
import Derived.Test.YtccllkgaakmdhaaPhysFind
namespace Go.Proofs.Ytccllkgaakmdhaa
open Go.RowKit

theorem View.toB {S : Nat → Prop} {w : World} {v : Value} {l : List BlockV} (h : View kRB S w v l) : View kB S w v l := h
def offP (off : UInt64) (x : BlockV) : Bool := x.off == off

set_option maxRecDepth 100000 in
set_option maxHeartbeats 4000000 in
theorem place_any {S : Nat → Prop} {w : World} {v : Value} {l : List BlockV} (h0 : View kRB S w v l) (off : UInt64) (x : Int) (hx : x = (off.toNat : Int)) :
    Calls Try.prog 110 #[v, .int .u64 x] w fun e w' => e = .returned (.int .i64 (idxP (offP off) l)) ∧ Keeps Nil w w' := by
  subst hx
  have h := h0.toB
  clear h0
  by_cases hn : 0 < l.length
  · obtain ⟨gb, go, cap, rfl, hc, hm, hb, _, hcell⟩ := h.pos hn
    obtain ⟨N, hN⟩ : ∃ N, N = l.length := ⟨_, rfl⟩
    have hNm : N ≤ 9223372036854775807 := by unfold maxLen at hm; omega
    rw [← hN]
    have HC := Lib.hid hcell
    have HGB := Lib.hid hb
    have HL := Lib.hid hN
    clear hcell hc hm hn h hN hb
    have hst := Lib.hid (Step.refl Nil w)
    go_enter Try.func110, Try.ntmps110
    go_wp2_with fail
    go_loopw [5] (fun i wr => ∃ k : Nat, k ≤ N ∧ i = .int .i64 (k : Int) ∧ Keeps Nil w wr ∧ Hid (∀ j y, j < k → l[j]? = some y → offP off y = false)) (fun i _ => N - (intOf i).toNat)
    case atStart => exact ⟨0, by omega, rfl, hst.out.keeps, fun j y hj => by omega⟩
    case round =>
      obtain ⟨k, hk, rfl, hK0, HS⟩ := hrel
      replace hst := Lib.hid (Step.of_nil (S := Nil) hK0)
      by_cases hlt : k < N
      · obtain ⟨⟨bo, ⟨bs, bu, bw⟩, bl⟩, hx⟩ : ∃ x, l[k]? = some x := ⟨l[k]'(by have := HL.out; omega), by have := HL.out; simp⟩
        have HX := Lib.hid hx
        clear hx hK0
        by_cases hp : bo = off
        · have HP := Lib.hid hp
          clear hp
          have d1 : (((bo.toNat : Int) : Int) == ((off.toNat : Int) : Int)) = true := (same_u64 (a := bo) (b := off) (HP.out)).2
          have e_x_0 := (hst.out.keeps.cell HGB.out (fun e => e) _).trans (View.cellB HC.out k ⟨bo, ⟨bs, bu, bw⟩, bl⟩ HX.out).1
          have e_x_1 := (hst.out.keeps.cell HGB.out (fun e => e) _).trans (View.cellB HC.out k ⟨bo, ⟨bs, bu, bw⟩, bl⟩ HX.out).2.1
          have e_x_2 := (hst.out.keeps.cell HGB.out (fun e => e) _).trans (View.cellB HC.out k ⟨bo, ⟨bs, bu, bw⟩, bl⟩ HX.out).2.2.1
          have e_x_3 := (hst.out.keeps.cell HGB.out (fun e => e) _).trans (View.cellB HC.out k ⟨bo, ⟨bs, bu, bw⟩, bl⟩ HX.out).2.2.2.1
          have e_x_4 := (hst.out.keeps.cell HGB.out (fun e => e) _).trans (View.cellB HC.out k ⟨bo, ⟨bs, bu, bw⟩, bl⟩ HX.out).2.2.2.2
          go_wp2_with fail
          go_ret
          clear e_x_0 e_x_1 e_x_2 e_x_3 e_x_4
          exact ⟨by rw [idxP_some HX.out (by simpa [offP] using HP.out) HS.out]; rfl, hst.out.keeps⟩
        · have HP := Lib.hid hp
          clear hp
          have d1 : (((bo.toNat : Int) : Int) == ((off.toNat : Int) : Int)) = false := (unlike_u64 (a := bo) (b := off) (HP.out)).2
          have e_x_0 := (hst.out.keeps.cell HGB.out (fun e => e) _).trans (View.cellB HC.out k ⟨bo, ⟨bs, bu, bw⟩, bl⟩ HX.out).1
          have e_x_1 := (hst.out.keeps.cell HGB.out (fun e => e) _).trans (View.cellB HC.out k ⟨bo, ⟨bs, bu, bw⟩, bl⟩ HX.out).2.1
          have e_x_2 := (hst.out.keeps.cell HGB.out (fun e => e) _).trans (View.cellB HC.out k ⟨bo, ⟨bs, bu, bw⟩, bl⟩ HX.out).2.2.1
          have e_x_3 := (hst.out.keeps.cell HGB.out (fun e => e) _).trans (View.cellB HC.out k ⟨bo, ⟨bs, bu, bw⟩, bl⟩ HX.out).2.2.2.1
          have e_x_4 := (hst.out.keeps.cell HGB.out (fun e => e) _).trans (View.cellB HC.out k ⟨bo, ⟨bs, bu, bw⟩, bl⟩ HX.out).2.2.2.2
          go_wp2_with fail
          clear e_x_0 e_x_1 e_x_2 e_x_3 e_x_4
          go_roundw
          case rel => exact ⟨k + 1, by omega, by go_num, hst.out.keeps, fun j y hj hy => by
            by_cases e : j = k
            · subst e; rw [HX.out] at hy; cases hy; simpa [offP] using HP.out
            · exact HS.out j y (by omega) hy⟩
          case measure => simp [intOf]; omega
      · clear hK0
        go_wp2_with fail
        go_ret
        exact ⟨by rw [idxP_none (fun j y hj hy => HS.out j y (by have := HL.out; omega) hy)]; rfl, hst.out.keeps⟩
  · obtain ⟨al, cap, rfl, _⟩ := h.val
    have e1 : l = [] := List.eq_nil_of_length_eq_zero (by omega)
    subst e1
    clear h hn
    have hst := Lib.hid (Step.refl Nil w)
    go_enter Try.func110, Try.ntmps110
    go_wp2_with fail
    go_loopw [5] (fun i wr => i = .int .i64 0 ∧ Keeps Nil w wr) (fun i _ => 0)
    case atStart => exact ⟨rfl, hst.out.keeps⟩
    case round =>
      obtain ⟨rfl, hK0⟩ := hrel
      replace hst := Lib.hid (Step.of_nil (S := Nil) hK0)
      clear hK0
      go_wp2_with fail
      go_ret
      exact ⟨rfl, hst.out.keeps⟩

/-- the block so many places behind one -/
def besideO (l : List BlockV) (off : UInt64) (d : Int) : Option BlockV := if idxP (offP off) l < 0 ∨ idxP (offP off) l + d < 0 ∨ (l.length : Int) ≤ idxP (offP off) l + d then none else l[(idxP (offP off) l + d).toNat]?
theorem idx_cases (p : BlockV → Bool) (l : List BlockV) : idxP p l = -1 ∨ ∃ k : Nat, idxP p l = (k : Int) ∧ k < l.length := by
  rcases find_idx (p := p) (l := l) with ⟨h, _⟩ | ⟨k, x, h, hx, _⟩
  · exact .inl h
  · exact .inr ⟨k, h, (List.getElem?_eq_some_iff.1 hx).1⟩

set_option maxRecDepth 100000 in
set_option maxHeartbeats 4000000 in
theorem beside1_any {w : World} {P : Nat} {off : UInt64} (hP : Bx w Nil P #[.int .u64 (off.toNat : Int)] 36) (x : BlockV) :
    Calls Try.prog 120 #[.agg x.cells, .pointer (some ⟨P, 0, none⟩)] w fun e w' => e = .returned (.bool (offP off x)) ∧ Keeps Nil w w' := by
  obtain ⟨bo, ⟨bs, bu, bw⟩, bl⟩ := x
  rw [BlockV.cells_def]
  replace hP := Lib.hid hP
  by_cases h : bo = off
  · have H := Lib.hid h
    have hr : offP off ⟨bo, ⟨bs, bu, bw⟩, bl⟩ = true := by simp [offP, h]
    rw [hr]
    clear h hr
    have hst := Lib.hid (Step.refl Nil w)
    go_enter Try.func120, Try.ntmps120
    have d1 : (((bo.toNat : Int) : Int) == ((off.toNat : Int) : Int)) = true := (same_u64 (a := bo) (b := off) (H.out)).2
    have c_P_0 := hP.out.cell 0 _ rfl
    have f_P_0 := hP.out.frz 0
    have l_P := hP.out.lt
    obtain ⟨W1, hW1⟩ : ∃ W, W = w.alloc (.cells #[.int .u64 (bo.toNat : Int), .int .u64 (bs.toNat : Int), .bool bu, .int .i64 bw, .int .u64 (bl.toNat : Int)] 103) := ⟨_, rfl⟩
    obtain ⟨B1, eB1⟩ : ∃ B, B = w.heap.size := ⟨_, rfl⟩
    replace hW1 := Lib.hid hW1
    replace eB1 := Lib.hid eB1
    go_wp2_with fail
    go_ret
    clear c_P_0 f_P_0 l_P
    rw [← hW1.out]
    try rw [← eB1.out]
    have k1 : Keeps Nil w W1 := by rw [hW1.out]; exact alloc_keeps _ _
    have e0B1 : B1 = w.heap.size := by rw [eB1.out]
    have hB1 := Lib.hid (show Bx W1 Nil B1 #[.int .u64 (bo.toNat : Int), .int .u64 (bs.toNat : Int), .bool bu, .int .i64 bw, .int .u64 (bl.toNat : Int)] 103 by rw [hW1.out]; exact Bx.new Nil.lt _ _ e0B1)
    have gB1 := Lib.hid (show w.heap.size ≤ B1 by rw [e0B1]; exact hst.out.keeps.size)
    have nPB1 := Lib.hid (show P < B1 by rw [e0B1]; exact hP.out.lt)
    replace hst := Lib.hid (hst.out.nil k1)
    replace hP := Lib.hid (hP.out.nil k1)
    clear k1 e0B1
    exact ⟨rfl, hst.out.keeps⟩
  · have H := Lib.hid h
    have hr : offP off ⟨bo, ⟨bs, bu, bw⟩, bl⟩ = false := by simp [offP, h]
    rw [hr]
    clear h hr
    have hst := Lib.hid (Step.refl Nil w)
    go_enter Try.func120, Try.ntmps120
    have d1 : (((bo.toNat : Int) : Int) == ((off.toNat : Int) : Int)) = false := (unlike_u64 (a := bo) (b := off) (H.out)).2
    have c_P_0 := hP.out.cell 0 _ rfl
    have f_P_0 := hP.out.frz 0
    have l_P := hP.out.lt
    obtain ⟨W1, hW1⟩ : ∃ W, W = w.alloc (.cells #[.int .u64 (bo.toNat : Int), .int .u64 (bs.toNat : Int), .bool bu, .int .i64 bw, .int .u64 (bl.toNat : Int)] 103) := ⟨_, rfl⟩
    obtain ⟨B1, eB1⟩ : ∃ B, B = w.heap.size := ⟨_, rfl⟩
    replace hW1 := Lib.hid hW1
    replace eB1 := Lib.hid eB1
    go_wp2_with fail
    go_ret
    clear c_P_0 f_P_0 l_P
    rw [← hW1.out]
    try rw [← eB1.out]
    have k1 : Keeps Nil w W1 := by rw [hW1.out]; exact alloc_keeps _ _
    have e0B1 : B1 = w.heap.size := by rw [eB1.out]
    have hB1 := Lib.hid (show Bx W1 Nil B1 #[.int .u64 (bo.toNat : Int), .int .u64 (bs.toNat : Int), .bool bu, .int .i64 bw, .int .u64 (bl.toNat : Int)] 103 by rw [hW1.out]; exact Bx.new Nil.lt _ _ e0B1)
    have gB1 := Lib.hid (show w.heap.size ≤ B1 by rw [e0B1]; exact hst.out.keeps.size)
    have nPB1 := Lib.hid (show P < B1 by rw [e0B1]; exact hP.out.lt)
    replace hst := Lib.hid (hst.out.nil k1)
    replace hP := Lib.hid (hP.out.nil k1)
    clear k1 e0B1
    exact ⟨rfl, hst.out.keeps⟩
set_option maxRecDepth 100000 in
set_option maxHeartbeats 4000000 in
theorem beside_any {S : Nat → Prop} {w : World} {v : Value} {l : List BlockV} (h : View kB S w v l) (hS : ∀ k, S k → False) (off : UInt64) (d : Int) (hd : -1 ≤ d ∧ d ≤ 1) :
    Calls Try.prog 109 #[v, .int .u64 (off.toNat : Int), .int .i64 d] w fun e w' => e = .returned (.tuple #[.agg (blockOf (besideO l off d)).cells, .bool (besideO l off d).isSome]) ∧ Keeps Nil w w' := by
  have hbl : (l.length : Int) ≤ 9223372036854775807 := by have := h.val; obtain ⟨_, _, _, hm⟩ := this; unfold maxLen at hm; omega
  rcases idx_cases (offP off) l with hi | ⟨k, hi, hk⟩
  · have hr : besideO l off d = none := by unfold besideO; rw [hi, if_pos (.inl (by decide))]
    rw [hr]
    obtain ⟨al, cl, rfl, _⟩ := h.val
    have HI := Lib.hid hi
    have hV := Lib.hid h
    have HS := Lib.hid (And.intro hS hbl)
    clear hi hr h hd hbl
    have hst := Lib.hid (Step.refl Nil w)
    go_enter Try.func109, Try.ntmps109
    obtain ⟨W1, hW1⟩ : ∃ W, W = w.alloc (.cells #[.int .u64 (off.toNat : Int)] 36) := ⟨_, rfl⟩
    obtain ⟨B1, eB1⟩ : ∃ B, B = w.heap.size := ⟨_, rfl⟩
    replace hW1 := Lib.hid hW1
    replace eB1 := Lib.hid eB1
    obtain ⟨W2, hW2⟩ : ∃ W, W = W1.alloc (.cells #[.int .u64 0, .int .u64 0, .bool false, .int .i64 0, .int .u64 0] 103) := ⟨_, rfl⟩
    obtain ⟨B2, eB2⟩ : ∃ B, B = w.heap.size + 1 := ⟨_, rfl⟩
    replace hW2 := Lib.hid hW2
    replace eB2 := Lib.hid eB2
    go_wp2_with fail
    rw [← hW1.out]
    rw [← hW2.out]
    try rw [← eB2.out]
    try rw [← eB1.out]
    have k1 : Keeps Nil w W1 := by rw [hW1.out]; exact alloc_keeps _ _
    have e0B1 : B1 = w.heap.size := by rw [eB1.out]
    have hB1 := Lib.hid (show Bx W1 Nil B1 #[.int .u64 (off.toNat : Int)] 36 by rw [hW1.out]; exact Bx.new Nil.lt _ _ e0B1)
    have gB1 := Lib.hid (show w.heap.size ≤ B1 by rw [e0B1]; exact hst.out.keeps.size)
    replace hst := Lib.hid (hst.out.nil k1)
    clear k1 e0B1
    have k2 : Keeps Nil W1 W2 := by rw [hW2.out]; exact alloc_keeps _ _
    have e0B2 : B2 = W1.heap.size := by rw [eB2.out, hW1.out]; simp [World.setCell]
    have hB2 := Lib.hid (show Bx W2 Nil B2 #[.int .u64 0, .int .u64 0, .bool false, .int .i64 0, .int .u64 0] 103 by rw [hW2.out]; exact Bx.new Nil.lt _ _ e0B2)
    have gB2 := Lib.hid (show w.heap.size ≤ B2 by rw [e0B2]; exact hst.out.keeps.size)
    have nB1B2 := Lib.hid (show B1 < B2 by rw [e0B2]; exact hB1.out.lt)
    replace hst := Lib.hid (hst.out.nil k2)
    replace hB1 := Lib.hid (hB1.out.nil k2)
    clear k2 e0B2
    refine (IndexFunc_any (hV.out.keeps_nil hst.out.keeps) 120 #[.pointer (some ⟨B1, 0, none⟩)] (offP off) (enters_of Try.func120 (by kernel_rfl) rfl) (fun w2 y k2 => beside1_any (hB1.out.nil k2) y)).mono ?_
    rintro _ W3 ⟨rfl, kn⟩
    rw [HI.out]
    replace hst := Lib.hid (hst.out.nil kn)
    replace hB1 := Lib.hid (hB1.out.nil kn)
    replace hB2 := Lib.hid (hB2.out.nil kn)
    clear kn
    have c_B1_0 := hB1.out.cell 0 _ rfl
    have f_B1_0 := hB1.out.frz 0
    have l_B1 := hB1.out.lt
    have c_B2_0 := hB2.out.cell 0 _ rfl
    have f_B2_0 := hB2.out.frz 0
    have c_B2_1 := hB2.out.cell 1 _ rfl
    have f_B2_1 := hB2.out.frz 1
    have c_B2_2 := hB2.out.cell 2 _ rfl
    have f_B2_2 := hB2.out.frz 2
    have c_B2_3 := hB2.out.cell 3 _ rfl
    have f_B2_3 := hB2.out.frz 3
    have c_B2_4 := hB2.out.cell 4 _ rfl
    have f_B2_4 := hB2.out.frz 4
    have l_B2 := hB2.out.lt
    have ne_B1_B2 : (B1 = B2) = False := eq_false (Nat.ne_of_lt nB1B2.out)
    have ne_B2_B1 : (B2 = B1) = False := eq_false (Ne.symm (Nat.ne_of_lt nB1B2.out))
    obtain ⟨W4, hW4⟩ : ∃ W, W = (((((W3.setCell ⟨B2, 0, none⟩ (.int .u64 0)).setCell ⟨B2, 1, none⟩ (.int .u64 0)).setCell ⟨B2, 2, none⟩ (.bool false)).setCell ⟨B2, 3, none⟩ (.int .i64 0)).setCell ⟨B2, 4, none⟩ (.int .u64 0)) := ⟨_, rfl⟩
    replace hW4 := Lib.hid hW4
    go_wp2_with fail
    clear c_B1_0 f_B1_0 l_B1 c_B2_0 f_B2_0 c_B2_1 f_B2_1 c_B2_2 f_B2_2 c_B2_3 f_B2_3 c_B2_4 f_B2_4 l_B2 ne_B1_B2 ne_B2_B1
    rw [← hW4.out]
    replace hst := Lib.hid (show Step _ Nil w W4 by rw [hW4.out]; exact (((((hst.out.set gB2.out _ _).set gB2.out _ _).set gB2.out _ _).set gB2.out _ _).set gB2.out _ _))
    replace hB1 := Lib.hid (show Bx W4 Nil B1 #[.int .u64 (off.toNat : Int)] 36 by rw [hW4.out]; exact (((((hB1.out.other (Nat.ne_of_lt nB1B2.out) _ _).other (Nat.ne_of_lt nB1B2.out) _ _).other (Nat.ne_of_lt nB1B2.out) _ _).other (Nat.ne_of_lt nB1B2.out) _ _).other (Nat.ne_of_lt nB1B2.out) _ _))
    replace hB2 := Lib.hid (show Bx W4 Nil B2 #[.int .u64 0, .int .u64 0, .bool false, .int .i64 0, .int .u64 0] 103 by rw [hW4.out]; exact (((((hB2.out.set _ _).set _ _).set _ _).set _ _).set _ _))
    refine bodyPost_ret (results_row_tmp rfl rfl hB2.out.1 Try.underlying103 rfl (by kernel_rfl)) rfl ?_
    exact ⟨rfl, hst.out.keeps⟩
  · obtain ⟨m, hm⟩ : ∃ m : Int, m = (k : Int) + d := ⟨_, rfl⟩
    have qm : wrap64 ((k : Int) + d) = m := by rw [hm]; exact IntWalk.wrap64_in _ (by omega)
    obtain ⟨gb, go, cl, rfl, _, _, hgb, _, hcell⟩ := h.pos (Nat.lt_of_le_of_lt (Nat.zero_le _) hk)
    have HI := Lib.hid hi
    have hV := Lib.hid h
    have HC := Lib.hid hcell
    have HGB := Lib.hid hgb
    have HM := Lib.hid (And.intro hm (And.intro hk hd))
    have HS := Lib.hid (And.intro hS hbl)
    clear hi h hd hcell hgb hm hk hbl
    by_cases h1 : m < 0
    · have hr : besideO l off d = none := by unfold besideO; rw [HI.out, if_pos (.inr (.inl (by rw [← HM.out.1]; exact h1)))]
      rw [hr]
      clear hr
      have hst := Lib.hid (Step.refl Nil w)
      go_enter Try.func109, Try.ntmps109
      obtain ⟨W1, hW1⟩ : ∃ W, W = w.alloc (.cells #[.int .u64 (off.toNat : Int)] 36) := ⟨_, rfl⟩
      obtain ⟨B1, eB1⟩ : ∃ B, B = w.heap.size := ⟨_, rfl⟩
      replace hW1 := Lib.hid hW1
      replace eB1 := Lib.hid eB1
      obtain ⟨W2, hW2⟩ : ∃ W, W = W1.alloc (.cells #[.int .u64 0, .int .u64 0, .bool false, .int .i64 0, .int .u64 0] 103) := ⟨_, rfl⟩
      obtain ⟨B2, eB2⟩ : ∃ B, B = w.heap.size + 1 := ⟨_, rfl⟩
      replace hW2 := Lib.hid hW2
      replace eB2 := Lib.hid eB2
      go_wp2_with fail
      rw [← hW1.out]
      rw [← hW2.out]
      try rw [← eB2.out]
      try rw [← eB1.out]
      have k1 : Keeps Nil w W1 := by rw [hW1.out]; exact alloc_keeps _ _
      have e0B1 : B1 = w.heap.size := by rw [eB1.out]
      have hB1 := Lib.hid (show Bx W1 Nil B1 #[.int .u64 (off.toNat : Int)] 36 by rw [hW1.out]; exact Bx.new Nil.lt _ _ e0B1)
      have gB1 := Lib.hid (show w.heap.size ≤ B1 by rw [e0B1]; exact hst.out.keeps.size)
      replace hst := Lib.hid (hst.out.nil k1)
      clear k1 e0B1
      have k2 : Keeps Nil W1 W2 := by rw [hW2.out]; exact alloc_keeps _ _
      have e0B2 : B2 = W1.heap.size := by rw [eB2.out, hW1.out]; simp [World.setCell]
      have hB2 := Lib.hid (show Bx W2 Nil B2 #[.int .u64 0, .int .u64 0, .bool false, .int .i64 0, .int .u64 0] 103 by rw [hW2.out]; exact Bx.new Nil.lt _ _ e0B2)
      have gB2 := Lib.hid (show w.heap.size ≤ B2 by rw [e0B2]; exact hst.out.keeps.size)
      have nB1B2 := Lib.hid (show B1 < B2 by rw [e0B2]; exact hB1.out.lt)
      replace hst := Lib.hid (hst.out.nil k2)
      replace hB1 := Lib.hid (hB1.out.nil k2)
      clear k2 e0B2
      refine (IndexFunc_any (hV.out.keeps_nil hst.out.keeps) 120 #[.pointer (some ⟨B1, 0, none⟩)] (offP off) (enters_of Try.func120 (by kernel_rfl) rfl) (fun w2 y k2 => beside1_any (hB1.out.nil k2) y)).mono ?_
      rintro _ W3 ⟨rfl, kn⟩
      rw [HI.out]
      replace hst := Lib.hid (hst.out.nil kn)
      replace hB1 := Lib.hid (hB1.out.nil kn)
      replace hB2 := Lib.hid (hB2.out.nil kn)
      clear kn
      have c_B1_0 := hB1.out.cell 0 _ rfl
      have f_B1_0 := hB1.out.frz 0
      have l_B1 := hB1.out.lt
      have c_B2_0 := hB2.out.cell 0 _ rfl
      have f_B2_0 := hB2.out.frz 0
      have c_B2_1 := hB2.out.cell 1 _ rfl
      have f_B2_1 := hB2.out.frz 1
      have c_B2_2 := hB2.out.cell 2 _ rfl
      have f_B2_2 := hB2.out.frz 2
      have c_B2_3 := hB2.out.cell 3 _ rfl
      have f_B2_3 := hB2.out.frz 3
      have c_B2_4 := hB2.out.cell 4 _ rfl
      have f_B2_4 := hB2.out.frz 4
      have l_B2 := hB2.out.lt
      have ne_B1_B2 : (B1 = B2) = False := eq_false (Nat.ne_of_lt nB1B2.out)
      have ne_B2_B1 : (B2 = B1) = False := eq_false (Ne.symm (Nat.ne_of_lt nB1B2.out))
      obtain ⟨W4, hW4⟩ : ∃ W, W = (((((W3.setCell ⟨B2, 0, none⟩ (.int .u64 0)).setCell ⟨B2, 1, none⟩ (.int .u64 0)).setCell ⟨B2, 2, none⟩ (.bool false)).setCell ⟨B2, 3, none⟩ (.int .i64 0)).setCell ⟨B2, 4, none⟩ (.int .u64 0)) := ⟨_, rfl⟩
      replace hW4 := Lib.hid hW4
      go_wp2_with fail
      clear c_B1_0 f_B1_0 l_B1 c_B2_0 f_B2_0 c_B2_1 f_B2_1 c_B2_2 f_B2_2 c_B2_3 f_B2_3 c_B2_4 f_B2_4 l_B2 ne_B1_B2 ne_B2_B1
      rw [← hW4.out]
      replace hst := Lib.hid (show Step _ Nil w W4 by rw [hW4.out]; exact (((((hst.out.set gB2.out _ _).set gB2.out _ _).set gB2.out _ _).set gB2.out _ _).set gB2.out _ _))
      replace hB1 := Lib.hid (show Bx W4 Nil B1 #[.int .u64 (off.toNat : Int)] 36 by rw [hW4.out]; exact (((((hB1.out.other (Nat.ne_of_lt nB1B2.out) _ _).other (Nat.ne_of_lt nB1B2.out) _ _).other (Nat.ne_of_lt nB1B2.out) _ _).other (Nat.ne_of_lt nB1B2.out) _ _).other (Nat.ne_of_lt nB1B2.out) _ _))
      replace hB2 := Lib.hid (show Bx W4 Nil B2 #[.int .u64 0, .int .u64 0, .bool false, .int .i64 0, .int .u64 0] 103 by rw [hW4.out]; exact (((((hB2.out.set _ _).set _ _).set _ _).set _ _).set _ _))
      refine bodyPost_ret (results_row_tmp rfl rfl hB2.out.1 Try.underlying103 rfl (by kernel_rfl)) rfl ?_
      exact ⟨rfl, hst.out.keeps⟩
    · by_cases h2 : (l.length : Int) ≤ m
      · have hr : besideO l off d = none := by unfold besideO; rw [HI.out, if_pos (.inr (.inr (by rw [← HM.out.1]; exact h2)))]
        rw [hr]
        clear hr
        have hst := Lib.hid (Step.refl Nil w)
        go_enter Try.func109, Try.ntmps109
        obtain ⟨W1, hW1⟩ : ∃ W, W = w.alloc (.cells #[.int .u64 (off.toNat : Int)] 36) := ⟨_, rfl⟩
        obtain ⟨B1, eB1⟩ : ∃ B, B = w.heap.size := ⟨_, rfl⟩
        replace hW1 := Lib.hid hW1
        replace eB1 := Lib.hid eB1
        obtain ⟨W2, hW2⟩ : ∃ W, W = W1.alloc (.cells #[.int .u64 0, .int .u64 0, .bool false, .int .i64 0, .int .u64 0] 103) := ⟨_, rfl⟩
        obtain ⟨B2, eB2⟩ : ∃ B, B = w.heap.size + 1 := ⟨_, rfl⟩
        replace hW2 := Lib.hid hW2
        replace eB2 := Lib.hid eB2
        go_wp2_with fail
        rw [← hW1.out]
        rw [← hW2.out]
        try rw [← eB2.out]
        try rw [← eB1.out]
        have k1 : Keeps Nil w W1 := by rw [hW1.out]; exact alloc_keeps _ _
        have e0B1 : B1 = w.heap.size := by rw [eB1.out]
        have hB1 := Lib.hid (show Bx W1 Nil B1 #[.int .u64 (off.toNat : Int)] 36 by rw [hW1.out]; exact Bx.new Nil.lt _ _ e0B1)
        have gB1 := Lib.hid (show w.heap.size ≤ B1 by rw [e0B1]; exact hst.out.keeps.size)
        replace hst := Lib.hid (hst.out.nil k1)
        clear k1 e0B1
        have k2 : Keeps Nil W1 W2 := by rw [hW2.out]; exact alloc_keeps _ _
        have e0B2 : B2 = W1.heap.size := by rw [eB2.out, hW1.out]; simp [World.setCell]
        have hB2 := Lib.hid (show Bx W2 Nil B2 #[.int .u64 0, .int .u64 0, .bool false, .int .i64 0, .int .u64 0] 103 by rw [hW2.out]; exact Bx.new Nil.lt _ _ e0B2)
        have gB2 := Lib.hid (show w.heap.size ≤ B2 by rw [e0B2]; exact hst.out.keeps.size)
        have nB1B2 := Lib.hid (show B1 < B2 by rw [e0B2]; exact hB1.out.lt)
        replace hst := Lib.hid (hst.out.nil k2)
        replace hB1 := Lib.hid (hB1.out.nil k2)
        clear k2 e0B2
        refine (IndexFunc_any (hV.out.keeps_nil hst.out.keeps) 120 #[.pointer (some ⟨B1, 0, none⟩)] (offP off) (enters_of Try.func120 (by kernel_rfl) rfl) (fun w2 y k2 => beside1_any (hB1.out.nil k2) y)).mono ?_
        rintro _ W3 ⟨rfl, kn⟩
        rw [HI.out]
        replace hst := Lib.hid (hst.out.nil kn)
        replace hB1 := Lib.hid (hB1.out.nil kn)
        replace hB2 := Lib.hid (hB2.out.nil kn)
        clear kn
        have c_B1_0 := hB1.out.cell 0 _ rfl
        have f_B1_0 := hB1.out.frz 0
        have l_B1 := hB1.out.lt
        have c_B2_0 := hB2.out.cell 0 _ rfl
        have f_B2_0 := hB2.out.frz 0
        have c_B2_1 := hB2.out.cell 1 _ rfl
        have f_B2_1 := hB2.out.frz 1
        have c_B2_2 := hB2.out.cell 2 _ rfl
        have f_B2_2 := hB2.out.frz 2
        have c_B2_3 := hB2.out.cell 3 _ rfl
        have f_B2_3 := hB2.out.frz 3
        have c_B2_4 := hB2.out.cell 4 _ rfl
        have f_B2_4 := hB2.out.frz 4
        have l_B2 := hB2.out.lt
        have ne_B1_B2 : (B1 = B2) = False := eq_false (Nat.ne_of_lt nB1B2.out)
        have ne_B2_B1 : (B2 = B1) = False := eq_false (Ne.symm (Nat.ne_of_lt nB1B2.out))
        obtain ⟨W4, hW4⟩ : ∃ W, W = (((((W3.setCell ⟨B2, 0, none⟩ (.int .u64 0)).setCell ⟨B2, 1, none⟩ (.int .u64 0)).setCell ⟨B2, 2, none⟩ (.bool false)).setCell ⟨B2, 3, none⟩ (.int .i64 0)).setCell ⟨B2, 4, none⟩ (.int .u64 0)) := ⟨_, rfl⟩
        replace hW4 := Lib.hid hW4
        go_wp2_with fail
        clear c_B1_0 f_B1_0 l_B1 c_B2_0 f_B2_0 c_B2_1 f_B2_1 c_B2_2 f_B2_2 c_B2_3 f_B2_3 c_B2_4 f_B2_4 l_B2 ne_B1_B2 ne_B2_B1
        rw [← hW4.out]
        replace hst := Lib.hid (show Step _ Nil w W4 by rw [hW4.out]; exact (((((hst.out.set gB2.out _ _).set gB2.out _ _).set gB2.out _ _).set gB2.out _ _).set gB2.out _ _))
        replace hB1 := Lib.hid (show Bx W4 Nil B1 #[.int .u64 (off.toNat : Int)] 36 by rw [hW4.out]; exact (((((hB1.out.other (Nat.ne_of_lt nB1B2.out) _ _).other (Nat.ne_of_lt nB1B2.out) _ _).other (Nat.ne_of_lt nB1B2.out) _ _).other (Nat.ne_of_lt nB1B2.out) _ _).other (Nat.ne_of_lt nB1B2.out) _ _))
        replace hB2 := Lib.hid (show Bx W4 Nil B2 #[.int .u64 0, .int .u64 0, .bool false, .int .i64 0, .int .u64 0] 103 by rw [hW4.out]; exact (((((hB2.out.set _ _).set _ _).set _ _).set _ _).set _ _))
        refine bodyPost_ret (results_row_tmp rfl rfl hB2.out.1 Try.underlying103 rfl (by kernel_rfl)) rfl ?_
        exact ⟨rfl, hst.out.keeps⟩
      · obtain ⟨j, hj⟩ : ∃ j : Nat, m = (j : Int) := ⟨m.toNat, by omega⟩
        subst hj
        obtain ⟨⟨bo, ⟨bs, bu, bw⟩, bl⟩, hx⟩ : ∃ x, l[j]? = some x := ⟨l[j]'(by omega), by simp⟩
        have hr : besideO l off d = some ⟨bo, ⟨bs, bu, bw⟩, bl⟩ := by unfold besideO; rw [HI.out, ← HM.out.1, if_neg (by omega)]; simpa using hx
        rw [hr]
        have HX := Lib.hid hx
        have hjl : j < l.length := by omega
        clear hr hx h1
        have hst := Lib.hid (Step.refl Nil w)
        go_enter Try.func109, Try.ntmps109
        have e_x_0 := (hst.out.keeps.cell HGB.out (fun e => e) _).trans (View.cellB HC.out j ⟨bo, ⟨bs, bu, bw⟩, bl⟩ HX.out).1
        have e_x_1 := (hst.out.keeps.cell HGB.out (fun e => e) _).trans (View.cellB HC.out j ⟨bo, ⟨bs, bu, bw⟩, bl⟩ HX.out).2.1
        have e_x_2 := (hst.out.keeps.cell HGB.out (fun e => e) _).trans (View.cellB HC.out j ⟨bo, ⟨bs, bu, bw⟩, bl⟩ HX.out).2.2.1
        have e_x_3 := (hst.out.keeps.cell HGB.out (fun e => e) _).trans (View.cellB HC.out j ⟨bo, ⟨bs, bu, bw⟩, bl⟩ HX.out).2.2.2.1
        have e_x_4 := (hst.out.keeps.cell HGB.out (fun e => e) _).trans (View.cellB HC.out j ⟨bo, ⟨bs, bu, bw⟩, bl⟩ HX.out).2.2.2.2
        obtain ⟨W1, hW1⟩ : ∃ W, W = w.alloc (.cells #[.int .u64 (off.toNat : Int)] 36) := ⟨_, rfl⟩
        obtain ⟨B1, eB1⟩ : ∃ B, B = w.heap.size := ⟨_, rfl⟩
        replace hW1 := Lib.hid hW1
        replace eB1 := Lib.hid eB1
        obtain ⟨W2, hW2⟩ : ∃ W, W = W1.alloc (.cells #[.int .u64 0, .int .u64 0, .bool false, .int .i64 0, .int .u64 0] 103) := ⟨_, rfl⟩
        obtain ⟨B2, eB2⟩ : ∃ B, B = w.heap.size + 1 := ⟨_, rfl⟩
        replace hW2 := Lib.hid hW2
        replace eB2 := Lib.hid eB2
        go_wp2_with fail
        clear e_x_0 e_x_1 e_x_2 e_x_3 e_x_4
        rw [← hW1.out]
        rw [← hW2.out]
        try rw [← eB2.out]
        try rw [← eB1.out]
        have k1 : Keeps Nil w W1 := by rw [hW1.out]; exact alloc_keeps _ _
        have e0B1 : B1 = w.heap.size := by rw [eB1.out]
        have hB1 := Lib.hid (show Bx W1 Nil B1 #[.int .u64 (off.toNat : Int)] 36 by rw [hW1.out]; exact Bx.new Nil.lt _ _ e0B1)
        have gB1 := Lib.hid (show w.heap.size ≤ B1 by rw [e0B1]; exact hst.out.keeps.size)
        replace hst := Lib.hid (hst.out.nil k1)
        clear k1 e0B1
        have k2 : Keeps Nil W1 W2 := by rw [hW2.out]; exact alloc_keeps _ _
        have e0B2 : B2 = W1.heap.size := by rw [eB2.out, hW1.out]; simp [World.setCell]
        have hB2 := Lib.hid (show Bx W2 Nil B2 #[.int .u64 0, .int .u64 0, .bool false, .int .i64 0, .int .u64 0] 103 by rw [hW2.out]; exact Bx.new Nil.lt _ _ e0B2)
        have gB2 := Lib.hid (show w.heap.size ≤ B2 by rw [e0B2]; exact hst.out.keeps.size)
        have nB1B2 := Lib.hid (show B1 < B2 by rw [e0B2]; exact hB1.out.lt)
        replace hst := Lib.hid (hst.out.nil k2)
        replace hB1 := Lib.hid (hB1.out.nil k2)
        clear k2 e0B2
        refine (IndexFunc_any (hV.out.keeps_nil hst.out.keeps) 120 #[.pointer (some ⟨B1, 0, none⟩)] (offP off) (enters_of Try.func120 (by kernel_rfl) rfl) (fun w2 y k2 => beside1_any (hB1.out.nil k2) y)).mono ?_
        rintro _ W3 ⟨rfl, kn⟩
        rw [HI.out]
        replace hst := Lib.hid (hst.out.nil kn)
        replace hB1 := Lib.hid (hB1.out.nil kn)
        replace hB2 := Lib.hid (hB2.out.nil kn)
        clear kn
        have c_B1_0 := hB1.out.cell 0 _ rfl
        have f_B1_0 := hB1.out.frz 0
        have l_B1 := hB1.out.lt
        have c_B2_0 := hB2.out.cell 0 _ rfl
        have f_B2_0 := hB2.out.frz 0
        have c_B2_1 := hB2.out.cell 1 _ rfl
        have f_B2_1 := hB2.out.frz 1
        have c_B2_2 := hB2.out.cell 2 _ rfl
        have f_B2_2 := hB2.out.frz 2
        have c_B2_3 := hB2.out.cell 3 _ rfl
        have f_B2_3 := hB2.out.frz 3
        have c_B2_4 := hB2.out.cell 4 _ rfl
        have f_B2_4 := hB2.out.frz 4
        have l_B2 := hB2.out.lt
        have e_x_0 := (hst.out.keeps.cell HGB.out (fun e => e) _).trans (View.cellB HC.out j ⟨bo, ⟨bs, bu, bw⟩, bl⟩ HX.out).1
        have e_x_1 := (hst.out.keeps.cell HGB.out (fun e => e) _).trans (View.cellB HC.out j ⟨bo, ⟨bs, bu, bw⟩, bl⟩ HX.out).2.1
        have e_x_2 := (hst.out.keeps.cell HGB.out (fun e => e) _).trans (View.cellB HC.out j ⟨bo, ⟨bs, bu, bw⟩, bl⟩ HX.out).2.2.1
        have e_x_3 := (hst.out.keeps.cell HGB.out (fun e => e) _).trans (View.cellB HC.out j ⟨bo, ⟨bs, bu, bw⟩, bl⟩ HX.out).2.2.2.1
        have e_x_4 := (hst.out.keeps.cell HGB.out (fun e => e) _).trans (View.cellB HC.out j ⟨bo, ⟨bs, bu, bw⟩, bl⟩ HX.out).2.2.2.2
        have ne_B1_B2 : (B1 = B2) = False := eq_false (Nat.ne_of_lt nB1B2.out)
        have ne_B2_B1 : (B2 = B1) = False := eq_false (Ne.symm (Nat.ne_of_lt nB1B2.out))
        obtain ⟨W4, hW4⟩ : ∃ W, W = (((((W3.setCell ⟨B2, 0, none⟩ (.int .u64 (bo.toNat : Int))).setCell ⟨B2, 1, none⟩ (.int .u64 (bs.toNat : Int))).setCell ⟨B2, 2, none⟩ (.bool bu)).setCell ⟨B2, 3, none⟩ (.int .i64 bw)).setCell ⟨B2, 4, none⟩ (.int .u64 (bl.toNat : Int))) := ⟨_, rfl⟩
        replace hW4 := Lib.hid hW4
        go_wp2_with fail
        clear c_B1_0 f_B1_0 l_B1 c_B2_0 f_B2_0 c_B2_1 f_B2_1 c_B2_2 f_B2_2 c_B2_3 f_B2_3 c_B2_4 f_B2_4 l_B2 e_x_0 e_x_1 e_x_2 e_x_3 e_x_4 ne_B1_B2 ne_B2_B1
        rw [← hW4.out]
        replace hst := Lib.hid (show Step _ Nil w W4 by rw [hW4.out]; exact (((((hst.out.set gB2.out _ _).set gB2.out _ _).set gB2.out _ _).set gB2.out _ _).set gB2.out _ _))
        replace hB1 := Lib.hid (show Bx W4 Nil B1 #[.int .u64 (off.toNat : Int)] 36 by rw [hW4.out]; exact (((((hB1.out.other (Nat.ne_of_lt nB1B2.out) _ _).other (Nat.ne_of_lt nB1B2.out) _ _).other (Nat.ne_of_lt nB1B2.out) _ _).other (Nat.ne_of_lt nB1B2.out) _ _).other (Nat.ne_of_lt nB1B2.out) _ _))
        replace hB2 := Lib.hid (show Bx W4 Nil B2 #[.int .u64 (bo.toNat : Int), .int .u64 (bs.toNat : Int), .bool bu, .int .i64 bw, .int .u64 (bl.toNat : Int)] 103 by rw [hW4.out]; exact (((((hB2.out.set _ _).set _ _).set _ _).set _ _).set _ _))
        refine bodyPost_ret (results_row_tmp rfl rfl hB2.out.1 Try.underlying103 rfl (by kernel_rfl)) rfl ?_
        exact ⟨rfl, hst.out.keeps⟩
set_option maxRecDepth 100000 in
set_option maxHeartbeats 4000000 in
theorem pBefore_any {S : Nat → Prop} {w : World} {v : Value} {l : List BlockV} (h : View kB S w v l) (off : UInt64) (x : Int) (hx : x = (off.toNat : Int)) :
    Calls Try.prog 81 #[v, .int .u64 x] w fun e w' => e = .returned (.tuple #[.agg (blockOf (besideO l off (-1))).cells, .bool (besideO l off (-1)).isSome]) ∧ Keeps Nil w w' := by
  subst hx
  obtain ⟨⟨bo, ⟨bs, bu, bw⟩, bl⟩, hb⟩ : ∃ b, b = blockOf (besideO l off (-1)) := ⟨_, rfl⟩
  obtain ⟨is, hi⟩ : ∃ b, b = (besideO l off (-1)).isSome := ⟨_, rfl⟩
  have hV := Lib.hid (h.shut (S' := Nil) (fun _ _ e => e.elim))
  rw [← hb, ← hi, BlockV.cells_def]
  have HE := Lib.hid (And.intro hb hi)
  clear h hb hi
  have hst := Lib.hid (Step.refl Nil w)
  go_enter Try.func81, Try.ntmps81
  obtain ⟨W1, hW1⟩ : ∃ W, W = w.alloc (.cells #[.int .u64 0, .int .u64 0, .bool false, .int .i64 0, .int .u64 0] 103) := ⟨_, rfl⟩
  obtain ⟨B1, eB1⟩ : ∃ B, B = w.heap.size := ⟨_, rfl⟩
  replace hW1 := Lib.hid hW1
  replace eB1 := Lib.hid eB1
  go_wp2_with fail
  rw [← hW1.out]
  try rw [← eB1.out]
  have k1 : Keeps Nil w W1 := by rw [hW1.out]; exact alloc_keeps _ _
  have e0B1 : B1 = w.heap.size := by rw [eB1.out]
  have hB1 := Lib.hid (show Bx W1 Nil B1 #[.int .u64 0, .int .u64 0, .bool false, .int .i64 0, .int .u64 0] 103 by rw [hW1.out]; exact Bx.new Nil.lt _ _ e0B1)
  have gB1 := Lib.hid (show w.heap.size ≤ B1 by rw [e0B1]; exact hst.out.keeps.size)
  replace hst := Lib.hid (hst.out.nil k1)
  clear k1 e0B1
  have HB := beside_any (hV.out.keeps_nil hst.out.keeps) (fun _ e => e) off (-1) (by decide)
  rw [← HE.out.1, ← HE.out.2, BlockV.cells_def] at HB
  refine (HB).mono ?_
  rintro _ W2 ⟨rfl, kn⟩
  clear HB
  replace hst := Lib.hid (hst.out.nil kn)
  replace hB1 := Lib.hid (hB1.out.nil kn)
  clear kn
  have c_B1_0 := hB1.out.cell 0 _ rfl
  have f_B1_0 := hB1.out.frz 0
  have c_B1_1 := hB1.out.cell 1 _ rfl
  have f_B1_1 := hB1.out.frz 1
  have c_B1_2 := hB1.out.cell 2 _ rfl
  have f_B1_2 := hB1.out.frz 2
  have c_B1_3 := hB1.out.cell 3 _ rfl
  have f_B1_3 := hB1.out.frz 3
  have c_B1_4 := hB1.out.cell 4 _ rfl
  have f_B1_4 := hB1.out.frz 4
  have l_B1 := hB1.out.lt
  obtain ⟨W3, hW3⟩ : ∃ W, W = (((((W2.setCell ⟨B1, 0, none⟩ (.int .u64 (bo.toNat : Int))).setCell ⟨B1, 1, none⟩ (.int .u64 (bs.toNat : Int))).setCell ⟨B1, 2, none⟩ (.bool bu)).setCell ⟨B1, 3, none⟩ (.int .i64 bw)).setCell ⟨B1, 4, none⟩ (.int .u64 (bl.toNat : Int))) := ⟨_, rfl⟩
  replace hW3 := Lib.hid hW3
  go_wp2_with fail
  clear c_B1_0 f_B1_0 c_B1_1 f_B1_1 c_B1_2 f_B1_2 c_B1_3 f_B1_3 c_B1_4 f_B1_4 l_B1
  rw [← hW3.out]
  replace hst := Lib.hid (show Step _ Nil w W3 by rw [hW3.out]; exact (((((hst.out.set gB1.out _ _).set gB1.out _ _).set gB1.out _ _).set gB1.out _ _).set gB1.out _ _))
  replace hB1 := Lib.hid (show Bx W3 Nil B1 #[.int .u64 (bo.toNat : Int), .int .u64 (bs.toNat : Int), .bool bu, .int .i64 bw, .int .u64 (bl.toNat : Int)] 103 by rw [hW3.out]; exact (((((hB1.out.set _ _).set _ _).set _ _).set _ _).set _ _))
  refine bodyPost_ret (results_row_tmp rfl rfl hB1.out.1 Try.underlying103 rfl (by kernel_rfl)) rfl ?_
  exact ⟨rfl, hst.out.keeps⟩
set_option maxRecDepth 100000 in
set_option maxHeartbeats 4000000 in
theorem pAfter_any {S : Nat → Prop} {w : World} {v : Value} {l : List BlockV} (h : View kB S w v l) (off : UInt64) (x : Int) (hx : x = (off.toNat : Int)) :
    Calls Try.prog 83 #[v, .int .u64 x] w fun e w' => e = .returned (.tuple #[.agg (blockOf (besideO l off (1))).cells, .bool (besideO l off (1)).isSome]) ∧ Keeps Nil w w' := by
  subst hx
  obtain ⟨⟨bo, ⟨bs, bu, bw⟩, bl⟩, hb⟩ : ∃ b, b = blockOf (besideO l off (1)) := ⟨_, rfl⟩
  obtain ⟨is, hi⟩ : ∃ b, b = (besideO l off (1)).isSome := ⟨_, rfl⟩
  have hV := Lib.hid (h.shut (S' := Nil) (fun _ _ e => e.elim))
  rw [← hb, ← hi, BlockV.cells_def]
  have HE := Lib.hid (And.intro hb hi)
  clear h hb hi
  have hst := Lib.hid (Step.refl Nil w)
  go_enter Try.func83, Try.ntmps83
  obtain ⟨W1, hW1⟩ : ∃ W, W = w.alloc (.cells #[.int .u64 0, .int .u64 0, .bool false, .int .i64 0, .int .u64 0] 103) := ⟨_, rfl⟩
  obtain ⟨B1, eB1⟩ : ∃ B, B = w.heap.size := ⟨_, rfl⟩
  replace hW1 := Lib.hid hW1
  replace eB1 := Lib.hid eB1
  go_wp2_with fail
  rw [← hW1.out]
  try rw [← eB1.out]
  have k1 : Keeps Nil w W1 := by rw [hW1.out]; exact alloc_keeps _ _
  have e0B1 : B1 = w.heap.size := by rw [eB1.out]
  have hB1 := Lib.hid (show Bx W1 Nil B1 #[.int .u64 0, .int .u64 0, .bool false, .int .i64 0, .int .u64 0] 103 by rw [hW1.out]; exact Bx.new Nil.lt _ _ e0B1)
  have gB1 := Lib.hid (show w.heap.size ≤ B1 by rw [e0B1]; exact hst.out.keeps.size)
  replace hst := Lib.hid (hst.out.nil k1)
  clear k1 e0B1
  have HB := beside_any (hV.out.keeps_nil hst.out.keeps) (fun _ e => e) off (1) (by decide)
  rw [← HE.out.1, ← HE.out.2, BlockV.cells_def] at HB
  refine (HB).mono ?_
  rintro _ W2 ⟨rfl, kn⟩
  clear HB
  replace hst := Lib.hid (hst.out.nil kn)
  replace hB1 := Lib.hid (hB1.out.nil kn)
  clear kn
  have c_B1_0 := hB1.out.cell 0 _ rfl
  have f_B1_0 := hB1.out.frz 0
  have c_B1_1 := hB1.out.cell 1 _ rfl
  have f_B1_1 := hB1.out.frz 1
  have c_B1_2 := hB1.out.cell 2 _ rfl
  have f_B1_2 := hB1.out.frz 2
  have c_B1_3 := hB1.out.cell 3 _ rfl
  have f_B1_3 := hB1.out.frz 3
  have c_B1_4 := hB1.out.cell 4 _ rfl
  have f_B1_4 := hB1.out.frz 4
  have l_B1 := hB1.out.lt
  obtain ⟨W3, hW3⟩ : ∃ W, W = (((((W2.setCell ⟨B1, 0, none⟩ (.int .u64 (bo.toNat : Int))).setCell ⟨B1, 1, none⟩ (.int .u64 (bs.toNat : Int))).setCell ⟨B1, 2, none⟩ (.bool bu)).setCell ⟨B1, 3, none⟩ (.int .i64 bw)).setCell ⟨B1, 4, none⟩ (.int .u64 (bl.toNat : Int))) := ⟨_, rfl⟩
  replace hW3 := Lib.hid hW3
  go_wp2_with fail
  clear c_B1_0 f_B1_0 c_B1_1 f_B1_1 c_B1_2 f_B1_2 c_B1_3 f_B1_3 c_B1_4 f_B1_4 l_B1
  rw [← hW3.out]
  replace hst := Lib.hid (show Step _ Nil w W3 by rw [hW3.out]; exact (((((hst.out.set gB1.out _ _).set gB1.out _ _).set gB1.out _ _).set gB1.out _ _).set gB1.out _ _))
  replace hB1 := Lib.hid (show Bx W3 Nil B1 #[.int .u64 (bo.toNat : Int), .int .u64 (bs.toNat : Int), .bool bu, .int .i64 bw, .int .u64 (bl.toNat : Int)] 103 by rw [hW3.out]; exact (((((hB1.out.set _ _).set _ _).set _ _).set _ _).set _ _))
  refine bodyPost_ret (results_row_tmp rfl rfl hB1.out.1 Try.underlying103 rfl (by kernel_rfl)) rfl ?_
  exact ⟨rfl, hst.out.keeps⟩
set_option maxRecDepth 100000 in
set_option maxHeartbeats 4000000 in
theorem rBeside_any {S : Nat → Prop} {w : World} {v : Value} {l : List BlockV} (h : View kRB S w v l) (hS : ∀ k, S k → False) (off : UInt64) (d : Int) (hd : -1 ≤ d ∧ d ≤ 1) :
    Calls Try.prog 82 #[v, .int .u64 (off.toNat : Int), .int .i64 d] w fun e w' => e = .returned (.tuple #[.agg (blockOf (besideO l off d)).cells, .bool (besideO l off d).isSome]) ∧ Keeps Nil w w' := by
  replace h := h.toB
  have hbl : (l.length : Int) ≤ 9223372036854775807 := by have := h.val; obtain ⟨_, _, _, hm⟩ := this; unfold maxLen at hm; omega
  rcases idx_cases (offP off) l with hi | ⟨k, hi, hk⟩
  · have hr : besideO l off d = none := by unfold besideO; rw [hi, if_pos (.inl (by decide))]
    rw [hr]
    obtain ⟨al, cl, rfl, _⟩ := h.val
    have HI := Lib.hid hi
    have hV := Lib.hid h
    have HS := Lib.hid (And.intro hS hbl)
    clear hi hr h hd hbl
    have hst := Lib.hid (Step.refl Nil w)
    go_enter Try.func82, Try.ntmps82
    obtain ⟨W1, hW1⟩ : ∃ W, W = w.alloc (.cells #[.int .u64 0, .int .u64 0, .bool false, .int .i64 0, .int .u64 0] 108) := ⟨_, rfl⟩
    obtain ⟨B1, eB1⟩ : ∃ B, B = w.heap.size := ⟨_, rfl⟩
    replace hW1 := Lib.hid hW1
    replace eB1 := Lib.hid eB1
    go_wp2_with fail
    rw [← hW1.out]
    try rw [← eB1.out]
    have k1 : Keeps Nil w W1 := by rw [hW1.out]; exact alloc_keeps _ _
    have e0B1 : B1 = w.heap.size := by rw [eB1.out]
    have hB1 := Lib.hid (show Bx W1 Nil B1 #[.int .u64 0, .int .u64 0, .bool false, .int .i64 0, .int .u64 0] 108 by rw [hW1.out]; exact Bx.new Nil.lt _ _ e0B1)
    have gB1 := Lib.hid (show w.heap.size ≤ B1 by rw [e0B1]; exact hst.out.keeps.size)
    replace hst := Lib.hid (hst.out.nil k1)
    clear k1 e0B1
    refine (place_any (hV.out.keeps_nil hst.out.keeps) off _ rfl).mono ?_
    rintro _ W2 ⟨rfl, kn⟩
    rw [HI.out]
    replace hst := Lib.hid (hst.out.nil kn)
    replace hB1 := Lib.hid (hB1.out.nil kn)
    clear kn
    have c_B1_0 := hB1.out.cell 0 _ rfl
    have f_B1_0 := hB1.out.frz 0
    have c_B1_1 := hB1.out.cell 1 _ rfl
    have f_B1_1 := hB1.out.frz 1
    have c_B1_2 := hB1.out.cell 2 _ rfl
    have f_B1_2 := hB1.out.frz 2
    have c_B1_3 := hB1.out.cell 3 _ rfl
    have f_B1_3 := hB1.out.frz 3
    have c_B1_4 := hB1.out.cell 4 _ rfl
    have f_B1_4 := hB1.out.frz 4
    have l_B1 := hB1.out.lt
    obtain ⟨W3, hW3⟩ : ∃ W, W = (((((W2.setCell ⟨B1, 0, none⟩ (.int .u64 0)).setCell ⟨B1, 1, none⟩ (.int .u64 0)).setCell ⟨B1, 2, none⟩ (.bool false)).setCell ⟨B1, 3, none⟩ (.int .i64 0)).setCell ⟨B1, 4, none⟩ (.int .u64 0)) := ⟨_, rfl⟩
    replace hW3 := Lib.hid hW3
    go_wp2_with fail
    clear c_B1_0 f_B1_0 c_B1_1 f_B1_1 c_B1_2 f_B1_2 c_B1_3 f_B1_3 c_B1_4 f_B1_4 l_B1
    rw [← hW3.out]
    replace hst := Lib.hid (show Step _ Nil w W3 by rw [hW3.out]; exact (((((hst.out.set gB1.out _ _).set gB1.out _ _).set gB1.out _ _).set gB1.out _ _).set gB1.out _ _))
    replace hB1 := Lib.hid (show Bx W3 Nil B1 #[.int .u64 0, .int .u64 0, .bool false, .int .i64 0, .int .u64 0] 108 by rw [hW3.out]; exact (((((hB1.out.set _ _).set _ _).set _ _).set _ _).set _ _))
    refine bodyPost_ret (results_row_tmp rfl rfl hB1.out.1 Try.underlying108 rfl (by kernel_rfl)) rfl ?_
    exact ⟨rfl, hst.out.keeps⟩
  · obtain ⟨m, hm⟩ : ∃ m : Int, m = (k : Int) + d := ⟨_, rfl⟩
    have qm : wrap64 ((k : Int) + d) = m := by rw [hm]; exact IntWalk.wrap64_in _ (by omega)
    obtain ⟨gb, go, cl, rfl, _, _, hgb, _, hcell⟩ := h.pos (Nat.lt_of_le_of_lt (Nat.zero_le _) hk)
    have HI := Lib.hid hi
    have hV := Lib.hid h
    have HC := Lib.hid hcell
    have HGB := Lib.hid hgb
    have HM := Lib.hid (And.intro hm (And.intro hk hd))
    have HS := Lib.hid (And.intro hS hbl)
    clear hi h hd hcell hgb hm hk hbl
    by_cases h1 : m < 0
    · have hr : besideO l off d = none := by unfold besideO; rw [HI.out, if_pos (.inr (.inl (by rw [← HM.out.1]; exact h1)))]
      rw [hr]
      clear hr
      have hst := Lib.hid (Step.refl Nil w)
      go_enter Try.func82, Try.ntmps82
      obtain ⟨W1, hW1⟩ : ∃ W, W = w.alloc (.cells #[.int .u64 0, .int .u64 0, .bool false, .int .i64 0, .int .u64 0] 108) := ⟨_, rfl⟩
      obtain ⟨B1, eB1⟩ : ∃ B, B = w.heap.size := ⟨_, rfl⟩
      replace hW1 := Lib.hid hW1
      replace eB1 := Lib.hid eB1
      go_wp2_with fail
      rw [← hW1.out]
      try rw [← eB1.out]
      have k1 : Keeps Nil w W1 := by rw [hW1.out]; exact alloc_keeps _ _
      have e0B1 : B1 = w.heap.size := by rw [eB1.out]
      have hB1 := Lib.hid (show Bx W1 Nil B1 #[.int .u64 0, .int .u64 0, .bool false, .int .i64 0, .int .u64 0] 108 by rw [hW1.out]; exact Bx.new Nil.lt _ _ e0B1)
      have gB1 := Lib.hid (show w.heap.size ≤ B1 by rw [e0B1]; exact hst.out.keeps.size)
      replace hst := Lib.hid (hst.out.nil k1)
      clear k1 e0B1
      refine (place_any (hV.out.keeps_nil hst.out.keeps) off _ rfl).mono ?_
      rintro _ W2 ⟨rfl, kn⟩
      rw [HI.out]
      replace hst := Lib.hid (hst.out.nil kn)
      replace hB1 := Lib.hid (hB1.out.nil kn)
      clear kn
      have c_B1_0 := hB1.out.cell 0 _ rfl
      have f_B1_0 := hB1.out.frz 0
      have c_B1_1 := hB1.out.cell 1 _ rfl
      have f_B1_1 := hB1.out.frz 1
      have c_B1_2 := hB1.out.cell 2 _ rfl
      have f_B1_2 := hB1.out.frz 2
      have c_B1_3 := hB1.out.cell 3 _ rfl
      have f_B1_3 := hB1.out.frz 3
      have c_B1_4 := hB1.out.cell 4 _ rfl
      have f_B1_4 := hB1.out.frz 4
      have l_B1 := hB1.out.lt
      obtain ⟨W3, hW3⟩ : ∃ W, W = (((((W2.setCell ⟨B1, 0, none⟩ (.int .u64 0)).setCell ⟨B1, 1, none⟩ (.int .u64 0)).setCell ⟨B1, 2, none⟩ (.bool false)).setCell ⟨B1, 3, none⟩ (.int .i64 0)).setCell ⟨B1, 4, none⟩ (.int .u64 0)) := ⟨_, rfl⟩
      replace hW3 := Lib.hid hW3
      go_wp2_with fail
      clear c_B1_0 f_B1_0 c_B1_1 f_B1_1 c_B1_2 f_B1_2 c_B1_3 f_B1_3 c_B1_4 f_B1_4 l_B1
      rw [← hW3.out]
      replace hst := Lib.hid (show Step _ Nil w W3 by rw [hW3.out]; exact (((((hst.out.set gB1.out _ _).set gB1.out _ _).set gB1.out _ _).set gB1.out _ _).set gB1.out _ _))
      replace hB1 := Lib.hid (show Bx W3 Nil B1 #[.int .u64 0, .int .u64 0, .bool false, .int .i64 0, .int .u64 0] 108 by rw [hW3.out]; exact (((((hB1.out.set _ _).set _ _).set _ _).set _ _).set _ _))
      refine bodyPost_ret (results_row_tmp rfl rfl hB1.out.1 Try.underlying108 rfl (by kernel_rfl)) rfl ?_
      exact ⟨rfl, hst.out.keeps⟩
    · by_cases h2 : (l.length : Int) ≤ m
      · have hr : besideO l off d = none := by unfold besideO; rw [HI.out, if_pos (.inr (.inr (by rw [← HM.out.1]; exact h2)))]
        rw [hr]
        clear hr
        have hst := Lib.hid (Step.refl Nil w)
        go_enter Try.func82, Try.ntmps82
        obtain ⟨W1, hW1⟩ : ∃ W, W = w.alloc (.cells #[.int .u64 0, .int .u64 0, .bool false, .int .i64 0, .int .u64 0] 108) := ⟨_, rfl⟩
        obtain ⟨B1, eB1⟩ : ∃ B, B = w.heap.size := ⟨_, rfl⟩
        replace hW1 := Lib.hid hW1
        replace eB1 := Lib.hid eB1
        go_wp2_with fail
        rw [← hW1.out]
        try rw [← eB1.out]
        have k1 : Keeps Nil w W1 := by rw [hW1.out]; exact alloc_keeps _ _
        have e0B1 : B1 = w.heap.size := by rw [eB1.out]
        have hB1 := Lib.hid (show Bx W1 Nil B1 #[.int .u64 0, .int .u64 0, .bool false, .int .i64 0, .int .u64 0] 108 by rw [hW1.out]; exact Bx.new Nil.lt _ _ e0B1)
        have gB1 := Lib.hid (show w.heap.size ≤ B1 by rw [e0B1]; exact hst.out.keeps.size)
        replace hst := Lib.hid (hst.out.nil k1)
        clear k1 e0B1
        refine (place_any (hV.out.keeps_nil hst.out.keeps) off _ rfl).mono ?_
        rintro _ W2 ⟨rfl, kn⟩
        rw [HI.out]
        replace hst := Lib.hid (hst.out.nil kn)
        replace hB1 := Lib.hid (hB1.out.nil kn)
        clear kn
        have c_B1_0 := hB1.out.cell 0 _ rfl
        have f_B1_0 := hB1.out.frz 0
        have c_B1_1 := hB1.out.cell 1 _ rfl
        have f_B1_1 := hB1.out.frz 1
        have c_B1_2 := hB1.out.cell 2 _ rfl
        have f_B1_2 := hB1.out.frz 2
        have c_B1_3 := hB1.out.cell 3 _ rfl
        have f_B1_3 := hB1.out.frz 3
        have c_B1_4 := hB1.out.cell 4 _ rfl
        have f_B1_4 := hB1.out.frz 4
        have l_B1 := hB1.out.lt
        obtain ⟨W3, hW3⟩ : ∃ W, W = (((((W2.setCell ⟨B1, 0, none⟩ (.int .u64 0)).setCell ⟨B1, 1, none⟩ (.int .u64 0)).setCell ⟨B1, 2, none⟩ (.bool false)).setCell ⟨B1, 3, none⟩ (.int .i64 0)).setCell ⟨B1, 4, none⟩ (.int .u64 0)) := ⟨_, rfl⟩
        replace hW3 := Lib.hid hW3
        go_wp2_with fail
        clear c_B1_0 f_B1_0 c_B1_1 f_B1_1 c_B1_2 f_B1_2 c_B1_3 f_B1_3 c_B1_4 f_B1_4 l_B1
        rw [← hW3.out]
        replace hst := Lib.hid (show Step _ Nil w W3 by rw [hW3.out]; exact (((((hst.out.set gB1.out _ _).set gB1.out _ _).set gB1.out _ _).set gB1.out _ _).set gB1.out _ _))
        replace hB1 := Lib.hid (show Bx W3 Nil B1 #[.int .u64 0, .int .u64 0, .bool false, .int .i64 0, .int .u64 0] 108 by rw [hW3.out]; exact (((((hB1.out.set _ _).set _ _).set _ _).set _ _).set _ _))
        refine bodyPost_ret (results_row_tmp rfl rfl hB1.out.1 Try.underlying108 rfl (by kernel_rfl)) rfl ?_
        exact ⟨rfl, hst.out.keeps⟩
      · obtain ⟨j, hj⟩ : ∃ j : Nat, m = (j : Int) := ⟨m.toNat, by omega⟩
        subst hj
        obtain ⟨⟨bo, ⟨bs, bu, bw⟩, bl⟩, hx⟩ : ∃ x, l[j]? = some x := ⟨l[j]'(by omega), by simp⟩
        have hr : besideO l off d = some ⟨bo, ⟨bs, bu, bw⟩, bl⟩ := by unfold besideO; rw [HI.out, ← HM.out.1, if_neg (by omega)]; simpa using hx
        rw [hr]
        have HX := Lib.hid hx
        have hjl : j < l.length := by omega
        clear hr hx h1
        have hst := Lib.hid (Step.refl Nil w)
        go_enter Try.func82, Try.ntmps82
        have e_x_0 := (hst.out.keeps.cell HGB.out (fun e => e) _).trans (View.cellB HC.out j ⟨bo, ⟨bs, bu, bw⟩, bl⟩ HX.out).1
        have e_x_1 := (hst.out.keeps.cell HGB.out (fun e => e) _).trans (View.cellB HC.out j ⟨bo, ⟨bs, bu, bw⟩, bl⟩ HX.out).2.1
        have e_x_2 := (hst.out.keeps.cell HGB.out (fun e => e) _).trans (View.cellB HC.out j ⟨bo, ⟨bs, bu, bw⟩, bl⟩ HX.out).2.2.1
        have e_x_3 := (hst.out.keeps.cell HGB.out (fun e => e) _).trans (View.cellB HC.out j ⟨bo, ⟨bs, bu, bw⟩, bl⟩ HX.out).2.2.2.1
        have e_x_4 := (hst.out.keeps.cell HGB.out (fun e => e) _).trans (View.cellB HC.out j ⟨bo, ⟨bs, bu, bw⟩, bl⟩ HX.out).2.2.2.2
        obtain ⟨W1, hW1⟩ : ∃ W, W = w.alloc (.cells #[.int .u64 0, .int .u64 0, .bool false, .int .i64 0, .int .u64 0] 108) := ⟨_, rfl⟩
        obtain ⟨B1, eB1⟩ : ∃ B, B = w.heap.size := ⟨_, rfl⟩
        replace hW1 := Lib.hid hW1
        replace eB1 := Lib.hid eB1
        go_wp2_with fail
        clear e_x_0 e_x_1 e_x_2 e_x_3 e_x_4
        rw [← hW1.out]
        try rw [← eB1.out]
        have k1 : Keeps Nil w W1 := by rw [hW1.out]; exact alloc_keeps _ _
        have e0B1 : B1 = w.heap.size := by rw [eB1.out]
        have hB1 := Lib.hid (show Bx W1 Nil B1 #[.int .u64 0, .int .u64 0, .bool false, .int .i64 0, .int .u64 0] 108 by rw [hW1.out]; exact Bx.new Nil.lt _ _ e0B1)
        have gB1 := Lib.hid (show w.heap.size ≤ B1 by rw [e0B1]; exact hst.out.keeps.size)
        replace hst := Lib.hid (hst.out.nil k1)
        clear k1 e0B1
        refine (place_any (hV.out.keeps_nil hst.out.keeps) off _ rfl).mono ?_
        rintro _ W2 ⟨rfl, kn⟩
        rw [HI.out]
        replace hst := Lib.hid (hst.out.nil kn)
        replace hB1 := Lib.hid (hB1.out.nil kn)
        clear kn
        have c_B1_0 := hB1.out.cell 0 _ rfl
        have f_B1_0 := hB1.out.frz 0
        have c_B1_1 := hB1.out.cell 1 _ rfl
        have f_B1_1 := hB1.out.frz 1
        have c_B1_2 := hB1.out.cell 2 _ rfl
        have f_B1_2 := hB1.out.frz 2
        have c_B1_3 := hB1.out.cell 3 _ rfl
        have f_B1_3 := hB1.out.frz 3
        have c_B1_4 := hB1.out.cell 4 _ rfl
        have f_B1_4 := hB1.out.frz 4
        have l_B1 := hB1.out.lt
        have e_x_0 := (hst.out.keeps.cell HGB.out (fun e => e) _).trans (View.cellB HC.out j ⟨bo, ⟨bs, bu, bw⟩, bl⟩ HX.out).1
        have e_x_1 := (hst.out.keeps.cell HGB.out (fun e => e) _).trans (View.cellB HC.out j ⟨bo, ⟨bs, bu, bw⟩, bl⟩ HX.out).2.1
        have e_x_2 := (hst.out.keeps.cell HGB.out (fun e => e) _).trans (View.cellB HC.out j ⟨bo, ⟨bs, bu, bw⟩, bl⟩ HX.out).2.2.1
        have e_x_3 := (hst.out.keeps.cell HGB.out (fun e => e) _).trans (View.cellB HC.out j ⟨bo, ⟨bs, bu, bw⟩, bl⟩ HX.out).2.2.2.1
        have e_x_4 := (hst.out.keeps.cell HGB.out (fun e => e) _).trans (View.cellB HC.out j ⟨bo, ⟨bs, bu, bw⟩, bl⟩ HX.out).2.2.2.2
        obtain ⟨W3, hW3⟩ : ∃ W, W = (((((W2.setCell ⟨B1, 0, none⟩ (.int .u64 (bo.toNat : Int))).setCell ⟨B1, 1, none⟩ (.int .u64 (bs.toNat : Int))).setCell ⟨B1, 2, none⟩ (.bool bu)).setCell ⟨B1, 3, none⟩ (.int .i64 bw)).setCell ⟨B1, 4, none⟩ (.int .u64 (bl.toNat : Int))) := ⟨_, rfl⟩
        replace hW3 := Lib.hid hW3
        go_wp2_with fail
        clear c_B1_0 f_B1_0 c_B1_1 f_B1_1 c_B1_2 f_B1_2 c_B1_3 f_B1_3 c_B1_4 f_B1_4 l_B1 e_x_0 e_x_1 e_x_2 e_x_3 e_x_4
        rw [← hW3.out]
        replace hst := Lib.hid (show Step _ Nil w W3 by rw [hW3.out]; exact (((((hst.out.set gB1.out _ _).set gB1.out _ _).set gB1.out _ _).set gB1.out _ _).set gB1.out _ _))
        replace hB1 := Lib.hid (show Bx W3 Nil B1 #[.int .u64 (bo.toNat : Int), .int .u64 (bs.toNat : Int), .bool bu, .int .i64 bw, .int .u64 (bl.toNat : Int)] 108 by rw [hW3.out]; exact (((((hB1.out.set _ _).set _ _).set _ _).set _ _).set _ _))
        refine bodyPost_ret (results_row_tmp rfl rfl hB1.out.1 Try.underlying108 rfl (by kernel_rfl)) rfl ?_
        exact ⟨rfl, hst.out.keeps⟩
end Go.Proofs.Ytccllkgaakmdhaa
