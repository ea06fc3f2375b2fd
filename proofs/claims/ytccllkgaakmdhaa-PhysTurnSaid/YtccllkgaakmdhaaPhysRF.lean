/- carrackref06.Find. -/
import Derived.Test.YtccllkgaakmdhaaPhysRW
namespace Go.Proofs.Ytccllkgaakmdhaa
open Go.RowKit

theorem find_some {p : BlockV → Bool} {l : List BlockV} {k : Nat} {x : BlockV} (hx : l[k]? = some x) (hp : p x = true) (h : ∀ j y, j < k → l[j]? = some y → p y = false) : l.find? p = some x := by
  rw [List.find?_eq_some_iff_getElem]
  obtain ⟨hk, e⟩ := List.getElem?_eq_some_iff.1 hx
  exact ⟨hp, k, hk, e, fun j hj => by rw [h j _ hj (List.getElem?_eq_getElem (by omega))]; rfl⟩
theorem find_none {p : BlockV → Bool} {l : List BlockV} (h : ∀ j y, j < l.length → l[j]? = some y → p y = false) : l.find? p = none := by
  rw [List.find?_eq_none]
  intro x hx
  obtain ⟨i, hi, e⟩ := List.getElem_of_mem hx
  rw [h i x hi (by rw [← e]; exact List.getElem?_eq_getElem hi)]; decide

set_option maxRecDepth 100000 in
set_option maxHeartbeats 4000000 in
theorem rFind6_any {S : Nat → Prop} {w : World} {a1 a2 : Option Addr} {n1 c1 n2 c2 : Nat} {ws : List UInt64} {l : List Put} (h : TxV S w (.slice a1 n1 c1) (.slice a2 n2 c2) ws l) (hS : ∀ k, S k → k < w.heap.size) (hg : GoodP ws l) (payload : UInt64) (x : Int) (hx : x = (payload.toNat : Int)) :
    Calls Try.prog 79 #[.agg #[.slice a1 n1 c1, .slice a2 n2 c2], .int .u64 x] w fun e w' => e = .returned (.tuple #[.agg (blockOf (findO (8 * ws.length) (txLoad ws l) payload)).cells, .bool (findO (8 * ws.length) (txLoad ws l) payload).isSome]) ∧ Keeps Nil w w' := by
  subst hx
  obtain ⟨L, hL⟩ : ∃ L, L = walkL (8 * ws.length) (txLoad ws l) := ⟨_, rfl⟩
  obtain ⟨cd, hcd⟩ : ∃ cd, cd = codeOf (walkB (8 * ws.length) (txLoad ws l)) := ⟨_, rfl⟩
  have ho : findO (8 * ws.length) (txLoad ws l) payload = L.find? (findP payload) := by unfold findO; rw [hL]
  rw [ho]
  have HW := Lib.hid (fun w' (k : Keeps Nil w w') => rWalk6_any (h.keeps_nil k) (fun i e => Nat.lt_of_lt_of_le (hS i e) k.size) hg)
  rw [← hL, ← hcd] at HW
  clear h hS hg hL hcd ho
  by_cases hn : 0 < L.length
  · obtain ⟨N, hN⟩ : ∃ N, N = L.length := ⟨_, rfl⟩
    have HN := Lib.hid (And.intro hN hn)
    clear hn hN
    have hst := Lib.hid (Step.refl Nil w)
    go_enter Try.func79, Try.ntmps79
    obtain ⟨W1, hW1⟩ : ∃ W, W = w.alloc (.cells #[.slice a1 n1 c1, .slice a2 n2 c2] 28) := ⟨_, rfl⟩
    obtain ⟨B1, eB1⟩ : ∃ B, B = w.heap.size := ⟨_, rfl⟩
    replace hW1 := Lib.hid hW1
    replace eB1 := Lib.hid eB1
    obtain ⟨W2, hW2⟩ : ∃ W, W = W1.alloc (.cells #[.int .u64 0, .int .u64 0, .bool false, .int .i64 0, .int .u64 0] 108) := ⟨_, rfl⟩
    obtain ⟨B2, eB2⟩ : ∃ B, B = w.heap.size + 1 := ⟨_, rfl⟩
    replace hW2 := Lib.hid hW2
    replace eB2 := Lib.hid eB2
    go_wp2_with fail
    rw [← hW1.out]
    rw [← hW2.out]
    try rw [← eB2.out]
    try rw [← eB1.out]
    have k1 : Keeps Nil w W1 := by rw [hW1.out]; exact alloc_keeps _ _
    have e0B1 : B1 = w.heap.size := by rw [eB1.out]
    have hB1 := Lib.hid (show Bx W1 Nil B1 #[.slice a1 n1 c1, .slice a2 n2 c2] 28 by rw [hW1.out]; exact Bx.new Nil.lt _ _ e0B1)
    have gB1 := Lib.hid (show w.heap.size ≤ B1 by rw [e0B1]; exact hst.out.keeps.size)
    replace hst := Lib.hid (hst.out.nil k1)
    clear k1 e0B1
    have k2 : Keeps Nil W1 W2 := by rw [hW2.out]; exact alloc_keeps _ _
    have e0B2 : B2 = W1.heap.size := by rw [eB2.out, hW1.out]; simp [World.setCell]
    have hB2 := Lib.hid (show Bx W2 Nil B2 #[.int .u64 0, .int .u64 0, .bool false, .int .i64 0, .int .u64 0] 108 by rw [hW2.out]; exact Bx.new Nil.lt _ _ e0B2)
    have gB2 := Lib.hid (show w.heap.size ≤ B2 by rw [e0B2]; exact hst.out.keeps.size)
    have nB1B2 := Lib.hid (show B1 < B2 by rw [e0B2]; exact hB1.out.lt)
    replace hst := Lib.hid (hst.out.nil k2)
    replace hB1 := Lib.hid (hB1.out.nil k2)
    clear k2 e0B2
    refine (HW.out _ hst.out.keeps).mono ?_
    rintro _ W3 ⟨v, rfl, ho, kn⟩
    replace ho := (ho.view (S := Nil) (fun _ _ e => e)).toB
    obtain ⟨gb, go, cl, rfl, hcl, hcm, hgb, _, hcell⟩ := ho.pos HN.out.2
    have hNm : N ≤ 9223372036854775807 := by rw [HN.out.1]; unfold maxLen at hcm; omega
    rw [← HN.out.1]
    have HC := Lib.hid hcell
    have HGB := Lib.hid hgb
    clear hcell hgb ho hcl hcm
    have hk2 := Lib.hid (Keeps.refl Nil W3)
    replace hst := Lib.hid (hst.out.nil kn)
    replace hB1 := Lib.hid (hB1.out.nil kn)
    replace hB2 := Lib.hid (hB2.out.nil kn)
    clear kn
    have c_B1_0 := hB1.out.cell 0 _ rfl
    have f_B1_0 := hB1.out.frz 0
    have c_B1_1 := hB1.out.cell 1 _ rfl
    have f_B1_1 := hB1.out.frz 1
    have l_B1 := hB1.out.lt
    have c_B2_0 := hB2.out.cell 0 _ rfl
    have f_B2_0 := hB2.out.frz 0
    have c_B2_1 := hB2.out.cell 1 _ rfl
    have f_B2_1 := hB2.out.frz 1
    have c_B2_2 := hB2.out.cell 2 _ rfl
    have f_B2_2 := hB2.out.frz 2
    have c_B2_3 := hB2.out.cell 3 _ rfl
    have f_B2_3 := hB2.out.frz 3
    have c_B2_4 := hB2.out.cell 4 _ rfl
    have f_B2_4 := hB2.out.frz 4
    have l_B2 := hB2.out.lt
    go_wp2_with fail
    clear c_B1_0 f_B1_0 c_B1_1 f_B1_1 l_B1 c_B2_0 f_B2_0 c_B2_1 f_B2_1 c_B2_2 f_B2_2 c_B2_3 f_B2_3 c_B2_4 f_B2_4 l_B2
    have c_B1_0 := hB1.out.cell 0 _ rfl
    have f_B1_0 := hB1.out.frz 0
    have c_B1_1 := hB1.out.cell 1 _ rfl
    have f_B1_1 := hB1.out.frz 1
    have l_B1 := hB1.out.lt
    have c_B2_0 := hB2.out.cell 0 _ rfl
    have f_B2_0 := hB2.out.frz 0
    have c_B2_1 := hB2.out.cell 1 _ rfl
    have f_B2_1 := hB2.out.frz 1
    have c_B2_2 := hB2.out.cell 2 _ rfl
    have f_B2_2 := hB2.out.frz 2
    have c_B2_3 := hB2.out.cell 3 _ rfl
    have f_B2_3 := hB2.out.frz 3
    have c_B2_4 := hB2.out.cell 4 _ rfl
    have f_B2_4 := hB2.out.frz 4
    have l_B2 := hB2.out.lt
    go_wp2_with fail
    clear c_B1_0 f_B1_0 c_B1_1 f_B1_1 l_B1 c_B2_0 f_B2_0 c_B2_1 f_B2_1 c_B2_2 f_B2_2 c_B2_3 f_B2_3 c_B2_4 f_B2_4 l_B2
    go_loopw [8] (fun i wr => ((∃ k : Nat, k ≤ N ∧ i = .int .i64 (k : Int) ∧ Hid (Keeps Nil w wr) ∧ Hid (Keeps Nil W3 wr) ∧ Hid (∀ j y, j < k → L[j]? = some y → findP payload y = false)) ∧ Hid (Bx wr Nil B1 #[.slice a1 n1 c1, .slice a2 n2 c2] 28)) ∧ Hid (Bx wr Nil B2 #[.int .u64 0, .int .u64 0, .bool false, .int .i64 0, .int .u64 0] 108)) (fun i _ => N - (intOf i).toNat)
    case atStart => exact ⟨⟨⟨0, by omega, rfl, Lib.hid hst.out.keeps, hk2, Lib.hid (fun j y hj => by omega)⟩, hB1⟩, hB2⟩
    case round =>
      clear hB2
      obtain ⟨hrel, hB2⟩ := hrel
      clear hB1
      obtain ⟨hrel, hB1⟩ := hrel
      clear hk2
      obtain ⟨k, hk, rfl, hK0, hk2, HS⟩ := hrel
      replace hst := Lib.hid (Step.of_nil (S := Nil) hK0.out)
      clear hK0
      by_cases hlt : k < N
      · obtain ⟨⟨bo, ⟨bs, bu, bw⟩, bl⟩, hx⟩ : ∃ x, L[k]? = some x := ⟨L[k]'(by have := HN.out.1; omega), by simp⟩
        have HX := Lib.hid hx
        clear hx
        cases bu with
        | false =>
        have c_B1_0 := hB1.out.cell 0 _ rfl
        have f_B1_0 := hB1.out.frz 0
        have c_B1_1 := hB1.out.cell 1 _ rfl
        have f_B1_1 := hB1.out.frz 1
        have l_B1 := hB1.out.lt
        have c_B2_0 := hB2.out.cell 0 _ rfl
        have f_B2_0 := hB2.out.frz 0
        have c_B2_1 := hB2.out.cell 1 _ rfl
        have f_B2_1 := hB2.out.frz 1
        have c_B2_2 := hB2.out.cell 2 _ rfl
        have f_B2_2 := hB2.out.frz 2
        have c_B2_3 := hB2.out.cell 3 _ rfl
        have f_B2_3 := hB2.out.frz 3
        have c_B2_4 := hB2.out.cell 4 _ rfl
        have f_B2_4 := hB2.out.frz 4
        have l_B2 := hB2.out.lt
        have e_x_0 := (hk2.out.cell HGB.out (fun e => e) _).trans (View.cellB HC.out k ⟨bo, ⟨bs, false, bw⟩, bl⟩ HX.out).1
        have e_x_1 := (hk2.out.cell HGB.out (fun e => e) _).trans (View.cellB HC.out k ⟨bo, ⟨bs, false, bw⟩, bl⟩ HX.out).2.1
        have e_x_2 := (hk2.out.cell HGB.out (fun e => e) _).trans (View.cellB HC.out k ⟨bo, ⟨bs, false, bw⟩, bl⟩ HX.out).2.2.1
        have e_x_3 := (hk2.out.cell HGB.out (fun e => e) _).trans (View.cellB HC.out k ⟨bo, ⟨bs, false, bw⟩, bl⟩ HX.out).2.2.2.1
        have e_x_4 := (hk2.out.cell HGB.out (fun e => e) _).trans (View.cellB HC.out k ⟨bo, ⟨bs, false, bw⟩, bl⟩ HX.out).2.2.2.2
        go_wp2_with fail
        clear c_B1_0 f_B1_0 c_B1_1 f_B1_1 l_B1 c_B2_0 f_B2_0 c_B2_1 f_B2_1 c_B2_2 f_B2_2 c_B2_3 f_B2_3 c_B2_4 f_B2_4 l_B2 e_x_0 e_x_1 e_x_2 e_x_3 e_x_4
        go_roundw
        case rel => exact ⟨⟨⟨k + 1, by omega, by go_num, Lib.hid hst.out.keeps, hk2, Lib.hid (fun j y hj hy => by
          by_cases e : j = k
          · subst e; rw [HX.out] at hy; cases hy; rfl
          · exact HS.out j y (by omega) hy)⟩, hB1⟩, hB2⟩
        case measure => simp [intOf]; omega
        | true =>
          by_cases hp : bo + 32 = payload
          · have HP := Lib.hid hp
            clear hp
            obtain ⟨y1, zy1⟩ : ∃ y : UInt64, y = bo + 32 := ⟨_, rfl⟩
            have q1 : IntKind.u64.wrap ((bo.toNat : Int) + 32) = (y1.toNat : Int) := by rw [zy1]; exact u64_add bo 32
            replace zy1 := Lib.hid zy1
            have d1 : (((y1.toNat : Int) : Int) == ((payload.toNat : Int) : Int)) = true := (same_u64 (a := y1) (b := payload) (by rw [zy1.out]; exact HP.out)).2
            have c_B1_0 := hB1.out.cell 0 _ rfl
            have f_B1_0 := hB1.out.frz 0
            have c_B1_1 := hB1.out.cell 1 _ rfl
            have f_B1_1 := hB1.out.frz 1
            have l_B1 := hB1.out.lt
            have c_B2_0 := hB2.out.cell 0 _ rfl
            have f_B2_0 := hB2.out.frz 0
            have c_B2_1 := hB2.out.cell 1 _ rfl
            have f_B2_1 := hB2.out.frz 1
            have c_B2_2 := hB2.out.cell 2 _ rfl
            have f_B2_2 := hB2.out.frz 2
            have c_B2_3 := hB2.out.cell 3 _ rfl
            have f_B2_3 := hB2.out.frz 3
            have c_B2_4 := hB2.out.cell 4 _ rfl
            have f_B2_4 := hB2.out.frz 4
            have l_B2 := hB2.out.lt
            have e_x_0 := (hk2.out.cell HGB.out (fun e => e) _).trans (View.cellB HC.out k ⟨bo, ⟨bs, true, bw⟩, bl⟩ HX.out).1
            have e_x_1 := (hk2.out.cell HGB.out (fun e => e) _).trans (View.cellB HC.out k ⟨bo, ⟨bs, true, bw⟩, bl⟩ HX.out).2.1
            have e_x_2 := (hk2.out.cell HGB.out (fun e => e) _).trans (View.cellB HC.out k ⟨bo, ⟨bs, true, bw⟩, bl⟩ HX.out).2.2.1
            have e_x_3 := (hk2.out.cell HGB.out (fun e => e) _).trans (View.cellB HC.out k ⟨bo, ⟨bs, true, bw⟩, bl⟩ HX.out).2.2.2.1
            have e_x_4 := (hk2.out.cell HGB.out (fun e => e) _).trans (View.cellB HC.out k ⟨bo, ⟨bs, true, bw⟩, bl⟩ HX.out).2.2.2.2
            have ne_B1_B2 : (B1 = B2) = False := eq_false (Nat.ne_of_lt nB1B2.out)
            have ne_B2_B1 : (B2 = B1) = False := eq_false (Ne.symm (Nat.ne_of_lt nB1B2.out))
            obtain ⟨W4, hW4⟩ : ∃ W, W = (((((wr.setCell ⟨B2, 0, none⟩ (.int .u64 (bo.toNat : Int))).setCell ⟨B2, 1, none⟩ (.int .u64 (bs.toNat : Int))).setCell ⟨B2, 2, none⟩ (.bool true)).setCell ⟨B2, 3, none⟩ (.int .i64 bw)).setCell ⟨B2, 4, none⟩ (.int .u64 (bl.toNat : Int))) := ⟨_, rfl⟩
            replace hW4 := Lib.hid hW4
            go_wp2_with fail
            clear c_B1_0 f_B1_0 c_B1_1 f_B1_1 l_B1 c_B2_0 f_B2_0 c_B2_1 f_B2_1 c_B2_2 f_B2_2 c_B2_3 f_B2_3 c_B2_4 f_B2_4 l_B2 e_x_0 e_x_1 e_x_2 e_x_3 e_x_4 ne_B1_B2 ne_B2_B1
            rw [← hW4.out]
            clear hk2
            replace hst := Lib.hid (show Step _ Nil w W4 by rw [hW4.out]; exact (((((hst.out.set gB2.out _ _).set gB2.out _ _).set gB2.out _ _).set gB2.out _ _).set gB2.out _ _))
            replace hB1 := Lib.hid (show Bx W4 Nil B1 #[.slice a1 n1 c1, .slice a2 n2 c2] 28 by rw [hW4.out]; exact (((((hB1.out.other (Nat.ne_of_lt nB1B2.out) _ _).other (Nat.ne_of_lt nB1B2.out) _ _).other (Nat.ne_of_lt nB1B2.out) _ _).other (Nat.ne_of_lt nB1B2.out) _ _).other (Nat.ne_of_lt nB1B2.out) _ _))
            replace hB2 := Lib.hid (show Bx W4 Nil B2 #[.int .u64 (bo.toNat : Int), .int .u64 (bs.toNat : Int), .bool true, .int .i64 bw, .int .u64 (bl.toNat : Int)] 108 by rw [hW4.out]; exact (((((hB2.out.set _ _).set _ _).set _ _).set _ _).set _ _))
            refine bodyPost_ret (results_row_tmp rfl rfl hB2.out.1 Try.underlying108 rfl (by kernel_rfl)) rfl ?_
            exact ⟨by rw [find_some HX.out (by simpa [findP] using HP.out) HS.out]; rfl, hst.out.keeps⟩
          · have HP := Lib.hid hp
            clear hp
            obtain ⟨y1, zy1⟩ : ∃ y : UInt64, y = bo + 32 := ⟨_, rfl⟩
            have q1 : IntKind.u64.wrap ((bo.toNat : Int) + 32) = (y1.toNat : Int) := by rw [zy1]; exact u64_add bo 32
            replace zy1 := Lib.hid zy1
            have d1 : (((y1.toNat : Int) : Int) == ((payload.toNat : Int) : Int)) = false := (unlike_u64 (a := y1) (b := payload) (by rw [zy1.out]; exact HP.out)).2
            have c_B1_0 := hB1.out.cell 0 _ rfl
            have f_B1_0 := hB1.out.frz 0
            have c_B1_1 := hB1.out.cell 1 _ rfl
            have f_B1_1 := hB1.out.frz 1
            have l_B1 := hB1.out.lt
            have c_B2_0 := hB2.out.cell 0 _ rfl
            have f_B2_0 := hB2.out.frz 0
            have c_B2_1 := hB2.out.cell 1 _ rfl
            have f_B2_1 := hB2.out.frz 1
            have c_B2_2 := hB2.out.cell 2 _ rfl
            have f_B2_2 := hB2.out.frz 2
            have c_B2_3 := hB2.out.cell 3 _ rfl
            have f_B2_3 := hB2.out.frz 3
            have c_B2_4 := hB2.out.cell 4 _ rfl
            have f_B2_4 := hB2.out.frz 4
            have l_B2 := hB2.out.lt
            have e_x_0 := (hk2.out.cell HGB.out (fun e => e) _).trans (View.cellB HC.out k ⟨bo, ⟨bs, true, bw⟩, bl⟩ HX.out).1
            have e_x_1 := (hk2.out.cell HGB.out (fun e => e) _).trans (View.cellB HC.out k ⟨bo, ⟨bs, true, bw⟩, bl⟩ HX.out).2.1
            have e_x_2 := (hk2.out.cell HGB.out (fun e => e) _).trans (View.cellB HC.out k ⟨bo, ⟨bs, true, bw⟩, bl⟩ HX.out).2.2.1
            have e_x_3 := (hk2.out.cell HGB.out (fun e => e) _).trans (View.cellB HC.out k ⟨bo, ⟨bs, true, bw⟩, bl⟩ HX.out).2.2.2.1
            have e_x_4 := (hk2.out.cell HGB.out (fun e => e) _).trans (View.cellB HC.out k ⟨bo, ⟨bs, true, bw⟩, bl⟩ HX.out).2.2.2.2
            go_wp2_with fail
            clear c_B1_0 f_B1_0 c_B1_1 f_B1_1 l_B1 c_B2_0 f_B2_0 c_B2_1 f_B2_1 c_B2_2 f_B2_2 c_B2_3 f_B2_3 c_B2_4 f_B2_4 l_B2 e_x_0 e_x_1 e_x_2 e_x_3 e_x_4
            go_roundw
            case rel => exact ⟨⟨⟨k + 1, by omega, by go_num, Lib.hid hst.out.keeps, hk2, Lib.hid (fun j y hj hy => by
              by_cases e : j = k
              · subst e; rw [HX.out] at hy; cases hy; simpa [findP] using HP.out
              · exact HS.out j y (by omega) hy)⟩, hB1⟩, hB2⟩
            case measure => simp [intOf]; omega
      · skip
        have c_B1_0 := hB1.out.cell 0 _ rfl
        have f_B1_0 := hB1.out.frz 0
        have c_B1_1 := hB1.out.cell 1 _ rfl
        have f_B1_1 := hB1.out.frz 1
        have l_B1 := hB1.out.lt
        have c_B2_0 := hB2.out.cell 0 _ rfl
        have f_B2_0 := hB2.out.frz 0
        have c_B2_1 := hB2.out.cell 1 _ rfl
        have f_B2_1 := hB2.out.frz 1
        have c_B2_2 := hB2.out.cell 2 _ rfl
        have f_B2_2 := hB2.out.frz 2
        have c_B2_3 := hB2.out.cell 3 _ rfl
        have f_B2_3 := hB2.out.frz 3
        have c_B2_4 := hB2.out.cell 4 _ rfl
        have f_B2_4 := hB2.out.frz 4
        have l_B2 := hB2.out.lt
        have ne_B1_B2 : (B1 = B2) = False := eq_false (Nat.ne_of_lt nB1B2.out)
        have ne_B2_B1 : (B2 = B1) = False := eq_false (Ne.symm (Nat.ne_of_lt nB1B2.out))
        obtain ⟨W4, hW4⟩ : ∃ W, W = (((((wr.setCell ⟨B2, 0, none⟩ (.int .u64 0)).setCell ⟨B2, 1, none⟩ (.int .u64 0)).setCell ⟨B2, 2, none⟩ (.bool false)).setCell ⟨B2, 3, none⟩ (.int .i64 0)).setCell ⟨B2, 4, none⟩ (.int .u64 0)) := ⟨_, rfl⟩
        replace hW4 := Lib.hid hW4
        go_wp2_with fail
        clear c_B1_0 f_B1_0 c_B1_1 f_B1_1 l_B1 c_B2_0 f_B2_0 c_B2_1 f_B2_1 c_B2_2 f_B2_2 c_B2_3 f_B2_3 c_B2_4 f_B2_4 l_B2 ne_B1_B2 ne_B2_B1
        rw [← hW4.out]
        clear hk2
        replace hst := Lib.hid (show Step _ Nil w W4 by rw [hW4.out]; exact (((((hst.out.set gB2.out _ _).set gB2.out _ _).set gB2.out _ _).set gB2.out _ _).set gB2.out _ _))
        replace hB1 := Lib.hid (show Bx W4 Nil B1 #[.slice a1 n1 c1, .slice a2 n2 c2] 28 by rw [hW4.out]; exact (((((hB1.out.other (Nat.ne_of_lt nB1B2.out) _ _).other (Nat.ne_of_lt nB1B2.out) _ _).other (Nat.ne_of_lt nB1B2.out) _ _).other (Nat.ne_of_lt nB1B2.out) _ _).other (Nat.ne_of_lt nB1B2.out) _ _))
        replace hB2 := Lib.hid (show Bx W4 Nil B2 #[.int .u64 0, .int .u64 0, .bool false, .int .i64 0, .int .u64 0] 108 by rw [hW4.out]; exact (((((hB2.out.set _ _).set _ _).set _ _).set _ _).set _ _))
        refine bodyPost_ret (results_row_tmp rfl rfl hB2.out.1 Try.underlying108 rfl (by kernel_rfl)) rfl ?_
        exact ⟨by rw [find_none (fun j y hj hy => HS.out j y (by have := HN.out.1; omega) hy)]; rfl, hst.out.keeps⟩
  · have e1 : L = [] := List.eq_nil_of_length_eq_zero (by omega)
    subst e1
    clear hn
    have hst := Lib.hid (Step.refl Nil w)
    go_enter Try.func79, Try.ntmps79
    obtain ⟨W1, hW1⟩ : ∃ W, W = w.alloc (.cells #[.slice a1 n1 c1, .slice a2 n2 c2] 28) := ⟨_, rfl⟩
    obtain ⟨B1, eB1⟩ : ∃ B, B = w.heap.size := ⟨_, rfl⟩
    replace hW1 := Lib.hid hW1
    replace eB1 := Lib.hid eB1
    obtain ⟨W2, hW2⟩ : ∃ W, W = W1.alloc (.cells #[.int .u64 0, .int .u64 0, .bool false, .int .i64 0, .int .u64 0] 108) := ⟨_, rfl⟩
    obtain ⟨B2, eB2⟩ : ∃ B, B = w.heap.size + 1 := ⟨_, rfl⟩
    replace hW2 := Lib.hid hW2
    replace eB2 := Lib.hid eB2
    go_wp2_with fail
    rw [← hW1.out]
    rw [← hW2.out]
    try rw [← eB2.out]
    try rw [← eB1.out]
    have k1 : Keeps Nil w W1 := by rw [hW1.out]; exact alloc_keeps _ _
    have e0B1 : B1 = w.heap.size := by rw [eB1.out]
    have hB1 := Lib.hid (show Bx W1 Nil B1 #[.slice a1 n1 c1, .slice a2 n2 c2] 28 by rw [hW1.out]; exact Bx.new Nil.lt _ _ e0B1)
    have gB1 := Lib.hid (show w.heap.size ≤ B1 by rw [e0B1]; exact hst.out.keeps.size)
    replace hst := Lib.hid (hst.out.nil k1)
    clear k1 e0B1
    have k2 : Keeps Nil W1 W2 := by rw [hW2.out]; exact alloc_keeps _ _
    have e0B2 : B2 = W1.heap.size := by rw [eB2.out, hW1.out]; simp [World.setCell]
    have hB2 := Lib.hid (show Bx W2 Nil B2 #[.int .u64 0, .int .u64 0, .bool false, .int .i64 0, .int .u64 0] 108 by rw [hW2.out]; exact Bx.new Nil.lt _ _ e0B2)
    have gB2 := Lib.hid (show w.heap.size ≤ B2 by rw [e0B2]; exact hst.out.keeps.size)
    have nB1B2 := Lib.hid (show B1 < B2 by rw [e0B2]; exact hB1.out.lt)
    replace hst := Lib.hid (hst.out.nil k2)
    replace hB1 := Lib.hid (hB1.out.nil k2)
    clear k2 e0B2
    refine (HW.out _ hst.out.keeps).mono ?_
    rintro _ W3 ⟨v, rfl, ho, kn⟩
    replace ho := (ho.view (S := Nil) (fun _ _ e => e)).toB
    obtain ⟨al, cl, rfl, _⟩ := ho.val
    clear ho
    have hk2 := Lib.hid (Keeps.refl Nil W3)
    replace hst := Lib.hid (hst.out.nil kn)
    replace hB1 := Lib.hid (hB1.out.nil kn)
    replace hB2 := Lib.hid (hB2.out.nil kn)
    clear kn
    have c_B1_0 := hB1.out.cell 0 _ rfl
    have f_B1_0 := hB1.out.frz 0
    have c_B1_1 := hB1.out.cell 1 _ rfl
    have f_B1_1 := hB1.out.frz 1
    have l_B1 := hB1.out.lt
    have c_B2_0 := hB2.out.cell 0 _ rfl
    have f_B2_0 := hB2.out.frz 0
    have c_B2_1 := hB2.out.cell 1 _ rfl
    have f_B2_1 := hB2.out.frz 1
    have c_B2_2 := hB2.out.cell 2 _ rfl
    have f_B2_2 := hB2.out.frz 2
    have c_B2_3 := hB2.out.cell 3 _ rfl
    have f_B2_3 := hB2.out.frz 3
    have c_B2_4 := hB2.out.cell 4 _ rfl
    have f_B2_4 := hB2.out.frz 4
    have l_B2 := hB2.out.lt
    go_wp2_with fail
    clear c_B1_0 f_B1_0 c_B1_1 f_B1_1 l_B1 c_B2_0 f_B2_0 c_B2_1 f_B2_1 c_B2_2 f_B2_2 c_B2_3 f_B2_3 c_B2_4 f_B2_4 l_B2
    go_loopw [8] (fun i wr => ((i = .int .i64 0 ∧ Hid (Keeps Nil w wr)) ∧ Hid (Bx wr Nil B1 #[.slice a1 n1 c1, .slice a2 n2 c2] 28)) ∧ Hid (Bx wr Nil B2 #[.int .u64 0, .int .u64 0, .bool false, .int .i64 0, .int .u64 0] 108)) (fun i _ => 0)
    case atStart => exact ⟨⟨⟨rfl, Lib.hid hst.out.keeps⟩, hB1⟩, hB2⟩
    case round =>
      clear hB2
      obtain ⟨hrel, hB2⟩ := hrel
      clear hB1
      obtain ⟨hrel, hB1⟩ := hrel
      clear hk2
      obtain ⟨rfl, hK0⟩ := hrel
      replace hst := Lib.hid (Step.of_nil (S := Nil) hK0.out)
      clear hK0
      skip
      have c_B1_0 := hB1.out.cell 0 _ rfl
      have f_B1_0 := hB1.out.frz 0
      have c_B1_1 := hB1.out.cell 1 _ rfl
      have f_B1_1 := hB1.out.frz 1
      have l_B1 := hB1.out.lt
      have c_B2_0 := hB2.out.cell 0 _ rfl
      have f_B2_0 := hB2.out.frz 0
      have c_B2_1 := hB2.out.cell 1 _ rfl
      have f_B2_1 := hB2.out.frz 1
      have c_B2_2 := hB2.out.cell 2 _ rfl
      have f_B2_2 := hB2.out.frz 2
      have c_B2_3 := hB2.out.cell 3 _ rfl
      have f_B2_3 := hB2.out.frz 3
      have c_B2_4 := hB2.out.cell 4 _ rfl
      have f_B2_4 := hB2.out.frz 4
      have l_B2 := hB2.out.lt
      have ne_B1_B2 : (B1 = B2) = False := eq_false (Nat.ne_of_lt nB1B2.out)
      have ne_B2_B1 : (B2 = B1) = False := eq_false (Ne.symm (Nat.ne_of_lt nB1B2.out))
      obtain ⟨W4, hW4⟩ : ∃ W, W = (((((wr.setCell ⟨B2, 0, none⟩ (.int .u64 0)).setCell ⟨B2, 1, none⟩ (.int .u64 0)).setCell ⟨B2, 2, none⟩ (.bool false)).setCell ⟨B2, 3, none⟩ (.int .i64 0)).setCell ⟨B2, 4, none⟩ (.int .u64 0)) := ⟨_, rfl⟩
      replace hW4 := Lib.hid hW4
      go_wp2_with fail
      clear c_B1_0 f_B1_0 c_B1_1 f_B1_1 l_B1 c_B2_0 f_B2_0 c_B2_1 f_B2_1 c_B2_2 f_B2_2 c_B2_3 f_B2_3 c_B2_4 f_B2_4 l_B2 ne_B1_B2 ne_B2_B1
      rw [← hW4.out]
      replace hst := Lib.hid (show Step _ Nil w W4 by rw [hW4.out]; exact (((((hst.out.set gB2.out _ _).set gB2.out _ _).set gB2.out _ _).set gB2.out _ _).set gB2.out _ _))
      replace hB1 := Lib.hid (show Bx W4 Nil B1 #[.slice a1 n1 c1, .slice a2 n2 c2] 28 by rw [hW4.out]; exact (((((hB1.out.other (Nat.ne_of_lt nB1B2.out) _ _).other (Nat.ne_of_lt nB1B2.out) _ _).other (Nat.ne_of_lt nB1B2.out) _ _).other (Nat.ne_of_lt nB1B2.out) _ _).other (Nat.ne_of_lt nB1B2.out) _ _))
      replace hB2 := Lib.hid (show Bx W4 Nil B2 #[.int .u64 0, .int .u64 0, .bool false, .int .i64 0, .int .u64 0] 108 by rw [hW4.out]; exact (((((hB2.out.set _ _).set _ _).set _ _).set _ _).set _ _))
      refine bodyPost_ret (results_row_tmp rfl rfl hB2.out.1 Try.underlying108 rfl (by kernel_rfl)) rfl ?_
      exact ⟨rfl, hst.out.keeps⟩
end Go.Proofs.Ytccllkgaakmdhaa
