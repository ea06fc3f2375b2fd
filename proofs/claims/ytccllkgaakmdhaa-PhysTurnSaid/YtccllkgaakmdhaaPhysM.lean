/- Merged: the program's and the document's. -/
import Derived.Test.YtccllkgaakmdhaaPhysB
namespace Go.Proofs.Ytccllkgaakmdhaa
open Go.RowKit

def usedAt (l : List BlockV) (i : Nat) : Bool := (l[i]?.map (·.tag.used)).getD true
/-- no two free ones beside each other -/
def mergedB (l : List BlockV) : Bool := (List.range (l.length - 1)).all (fun i => usedAt l i || usedAt l (i + 1))
theorem usedAt_some {l : List BlockV} {i : Nat} {x : BlockV} (h : l[i]? = some x) : usedAt l i = x.tag.used := by unfold usedAt; rw [h]; rfl
theorem merged_true {l : List BlockV} (h : ∀ i, i + 1 < l.length → (usedAt l i || usedAt l (i + 1)) = true) : mergedB l = true := by
  unfold mergedB
  rw [List.all_eq_true]
  intro i hi
  have := List.mem_range.1 hi
  exact h i (by omega)
theorem merged_false {l : List BlockV} {i : Nat} (hi : i + 1 < l.length) (h1 : usedAt l i = false) (h2 : usedAt l (i + 1) = false) : mergedB l = false := by
  unfold mergedB
  rw [List.all_eq_false]
  exact ⟨i, List.mem_range.2 (by omega), by rw [h1, h2]; decide⟩

set_option maxRecDepth 100000 in
set_option maxHeartbeats 4000000 in
theorem pMerged_any {S : Nat → Prop} {w : World} {v : Value} {l : List BlockV} (h : View kB S w v l) :
    Calls Try.prog 84 #[v] w fun e w' => e = .returned (.bool (mergedB l)) ∧ Keeps Nil w w' := by
  by_cases hn : 0 < l.length
  · obtain ⟨gb, go, cap, rfl, hc, hm, hb, _, hcell⟩ := h.pos hn
    obtain ⟨N, hN⟩ : ∃ N, N = l.length := ⟨_, rfl⟩
    have hNm : N ≤ 9223372036854775807 := by unfold maxLen at hm; omega
    rw [← hN]
    have HC := Lib.hid hcell
    have HGB := Lib.hid hb
    have HL := Lib.hid hN
    clear hcell hc hm hn h hN hb
    have hst := Lib.hid (Step.refl Nil w)
    go_enter Try.func84, Try.ntmps84
    go_wp2_with fail
    go_loopw [6] (fun i wr => ∃ k : Nat, k ≤ N ∧ i = .int .i64 (k : Int) ∧ Hid (Keeps Nil w wr) ∧ Hid (∀ i, i + 1 < k → (usedAt l i || usedAt l (i + 1)) = true)) (fun i _ => N - (intOf i).toNat)
    case atStart => exact ⟨0, by omega, rfl, Lib.hid hst.out.keeps, Lib.hid (fun i hi => by omega)⟩
    case round =>
      obtain ⟨k, hk, rfl, hK0, HS⟩ := hrel
      replace hst := Lib.hid (Step.of_nil (S := Nil) hK0.out)
      clear hK0
      by_cases hlt : k < N
      · by_cases hk0 : k = 0
        · subst hk0
          go_wp2_with fail
          go_roundw
          case rel => exact ⟨1, by omega, by first | go_num | simp, Lib.hid hst.out.keeps, Lib.hid (fun i hi => by omega)⟩
          case measure => simp [intOf]; omega
        · have hk1 : 0 < k := by omega
          obtain ⟨⟨bo, ⟨bs, bu, bw⟩, bl⟩, hx⟩ : ∃ x, l[k - 1]? = some x := ⟨l[k - 1]'(by have := HL.out; omega), by have := HL.out; simp⟩
          obtain ⟨⟨eo, ⟨es, eu, ew⟩, el⟩, hy⟩ : ∃ x, l[k]? = some x := ⟨l[k]'(by have := HL.out; omega), by have := HL.out; simp⟩
          have HX := Lib.hid hx
          have HY := Lib.hid hy
          clear hx hy
          cases bu with
          | true =>
          have e_x_0 := (hst.out.keeps.cell HGB.out (fun e => e) _).trans (View.cellB HC.out (k - 1) ⟨bo, ⟨bs, true, bw⟩, bl⟩ HX.out).1
          have e_x_1 := (hst.out.keeps.cell HGB.out (fun e => e) _).trans (View.cellB HC.out (k - 1) ⟨bo, ⟨bs, true, bw⟩, bl⟩ HX.out).2.1
          have e_x_2 := (hst.out.keeps.cell HGB.out (fun e => e) _).trans (View.cellB HC.out (k - 1) ⟨bo, ⟨bs, true, bw⟩, bl⟩ HX.out).2.2.1
          have e_x_3 := (hst.out.keeps.cell HGB.out (fun e => e) _).trans (View.cellB HC.out (k - 1) ⟨bo, ⟨bs, true, bw⟩, bl⟩ HX.out).2.2.2.1
          have e_x_4 := (hst.out.keeps.cell HGB.out (fun e => e) _).trans (View.cellB HC.out (k - 1) ⟨bo, ⟨bs, true, bw⟩, bl⟩ HX.out).2.2.2.2
          have e_y_0 := (hst.out.keeps.cell HGB.out (fun e => e) _).trans (View.cellB HC.out k ⟨eo, ⟨es, eu, ew⟩, el⟩ HY.out).1
          have e_y_1 := (hst.out.keeps.cell HGB.out (fun e => e) _).trans (View.cellB HC.out k ⟨eo, ⟨es, eu, ew⟩, el⟩ HY.out).2.1
          have e_y_2 := (hst.out.keeps.cell HGB.out (fun e => e) _).trans (View.cellB HC.out k ⟨eo, ⟨es, eu, ew⟩, el⟩ HY.out).2.2.1
          have e_y_3 := (hst.out.keeps.cell HGB.out (fun e => e) _).trans (View.cellB HC.out k ⟨eo, ⟨es, eu, ew⟩, el⟩ HY.out).2.2.2.1
          have e_y_4 := (hst.out.keeps.cell HGB.out (fun e => e) _).trans (View.cellB HC.out k ⟨eo, ⟨es, eu, ew⟩, el⟩ HY.out).2.2.2.2
          go_wp2_with fail
          clear e_x_0 e_x_1 e_x_2 e_x_3 e_x_4 e_y_0 e_y_1 e_y_2 e_y_3 e_y_4
          go_roundw
          case rel => exact ⟨k + 1, by omega, by go_num, Lib.hid hst.out.keeps, Lib.hid (fun i hi => by
            by_cases e : i = k - 1
            · subst e; rw [usedAt_some HX.out]; rfl
            · exact HS.out i (by omega))⟩
          case measure => simp [intOf]; omega
          | false =>
            cases eu with
            | true =>
            have e_x_0 := (hst.out.keeps.cell HGB.out (fun e => e) _).trans (View.cellB HC.out (k - 1) ⟨bo, ⟨bs, false, bw⟩, bl⟩ HX.out).1
            have e_x_1 := (hst.out.keeps.cell HGB.out (fun e => e) _).trans (View.cellB HC.out (k - 1) ⟨bo, ⟨bs, false, bw⟩, bl⟩ HX.out).2.1
            have e_x_2 := (hst.out.keeps.cell HGB.out (fun e => e) _).trans (View.cellB HC.out (k - 1) ⟨bo, ⟨bs, false, bw⟩, bl⟩ HX.out).2.2.1
            have e_x_3 := (hst.out.keeps.cell HGB.out (fun e => e) _).trans (View.cellB HC.out (k - 1) ⟨bo, ⟨bs, false, bw⟩, bl⟩ HX.out).2.2.2.1
            have e_x_4 := (hst.out.keeps.cell HGB.out (fun e => e) _).trans (View.cellB HC.out (k - 1) ⟨bo, ⟨bs, false, bw⟩, bl⟩ HX.out).2.2.2.2
            have e_y_0 := (hst.out.keeps.cell HGB.out (fun e => e) _).trans (View.cellB HC.out k ⟨eo, ⟨es, true, ew⟩, el⟩ HY.out).1
            have e_y_1 := (hst.out.keeps.cell HGB.out (fun e => e) _).trans (View.cellB HC.out k ⟨eo, ⟨es, true, ew⟩, el⟩ HY.out).2.1
            have e_y_2 := (hst.out.keeps.cell HGB.out (fun e => e) _).trans (View.cellB HC.out k ⟨eo, ⟨es, true, ew⟩, el⟩ HY.out).2.2.1
            have e_y_3 := (hst.out.keeps.cell HGB.out (fun e => e) _).trans (View.cellB HC.out k ⟨eo, ⟨es, true, ew⟩, el⟩ HY.out).2.2.2.1
            have e_y_4 := (hst.out.keeps.cell HGB.out (fun e => e) _).trans (View.cellB HC.out k ⟨eo, ⟨es, true, ew⟩, el⟩ HY.out).2.2.2.2
            go_wp2_with fail
            clear e_x_0 e_x_1 e_x_2 e_x_3 e_x_4 e_y_0 e_y_1 e_y_2 e_y_3 e_y_4
            go_roundw
            case rel => exact ⟨k + 1, by omega, by go_num, Lib.hid hst.out.keeps, Lib.hid (fun i hi => by
              by_cases e : i = k - 1
              · subst e; rw [show k - 1 + 1 = k by omega, usedAt_some HY.out]; simp
              · exact HS.out i (by omega))⟩
            case measure => simp [intOf]; omega
            | false =>
            have e_x_0 := (hst.out.keeps.cell HGB.out (fun e => e) _).trans (View.cellB HC.out (k - 1) ⟨bo, ⟨bs, false, bw⟩, bl⟩ HX.out).1
            have e_x_1 := (hst.out.keeps.cell HGB.out (fun e => e) _).trans (View.cellB HC.out (k - 1) ⟨bo, ⟨bs, false, bw⟩, bl⟩ HX.out).2.1
            have e_x_2 := (hst.out.keeps.cell HGB.out (fun e => e) _).trans (View.cellB HC.out (k - 1) ⟨bo, ⟨bs, false, bw⟩, bl⟩ HX.out).2.2.1
            have e_x_3 := (hst.out.keeps.cell HGB.out (fun e => e) _).trans (View.cellB HC.out (k - 1) ⟨bo, ⟨bs, false, bw⟩, bl⟩ HX.out).2.2.2.1
            have e_x_4 := (hst.out.keeps.cell HGB.out (fun e => e) _).trans (View.cellB HC.out (k - 1) ⟨bo, ⟨bs, false, bw⟩, bl⟩ HX.out).2.2.2.2
            have e_y_0 := (hst.out.keeps.cell HGB.out (fun e => e) _).trans (View.cellB HC.out k ⟨eo, ⟨es, false, ew⟩, el⟩ HY.out).1
            have e_y_1 := (hst.out.keeps.cell HGB.out (fun e => e) _).trans (View.cellB HC.out k ⟨eo, ⟨es, false, ew⟩, el⟩ HY.out).2.1
            have e_y_2 := (hst.out.keeps.cell HGB.out (fun e => e) _).trans (View.cellB HC.out k ⟨eo, ⟨es, false, ew⟩, el⟩ HY.out).2.2.1
            have e_y_3 := (hst.out.keeps.cell HGB.out (fun e => e) _).trans (View.cellB HC.out k ⟨eo, ⟨es, false, ew⟩, el⟩ HY.out).2.2.2.1
            have e_y_4 := (hst.out.keeps.cell HGB.out (fun e => e) _).trans (View.cellB HC.out k ⟨eo, ⟨es, false, ew⟩, el⟩ HY.out).2.2.2.2
            go_wp2_with fail
            go_ret
            clear e_x_0 e_x_1 e_x_2 e_x_3 e_x_4 e_y_0 e_y_1 e_y_2 e_y_3 e_y_4
            exact ⟨by rw [merged_false (i := k - 1) (by have := HL.out; omega) (usedAt_some HX.out) (by rw [show k - 1 + 1 = k by omega]; exact usedAt_some HY.out)]; rfl, hst.out.keeps⟩
      · skip
        go_wp2_with fail
        go_ret
        exact ⟨by rw [merged_true (fun i hi => HS.out i (by have := HL.out; omega))]; rfl, hst.out.keeps⟩
  · obtain ⟨al, cap, rfl, _⟩ := h.val
    have e1 : l = [] := List.eq_nil_of_length_eq_zero (by omega)
    subst e1
    clear h hn
    have hst := Lib.hid (Step.refl Nil w)
    go_enter Try.func84, Try.ntmps84
    go_wp2_with fail
    go_loopw [6] (fun i wr => i = .int .i64 0 ∧ Keeps Nil w wr) (fun i _ => 0)
    case atStart => exact ⟨rfl, hst.out.keeps⟩
    case round =>
      obtain ⟨rfl, hK0⟩ := hrel
      replace hst := Lib.hid (Step.of_nil (S := Nil) hK0)
      clear hK0
      go_wp2_with fail
      go_ret
      exact ⟨rfl, hst.out.keeps⟩
set_option maxRecDepth 100000 in
set_option maxHeartbeats 4000000 in
theorem rMerged_any {S : Nat → Prop} {w : World} {v : Value} {l : List BlockV} (h : View kRB S w v l) :
    Calls Try.prog 85 #[v] w fun e w' => e = .returned (.bool (mergedB l)) ∧ Keeps Nil w w' := by
  replace h := h.toB
  by_cases hn : 0 < l.length
  · obtain ⟨gb, go, cap, rfl, hc, hm, hb, _, hcell⟩ := h.pos hn
    obtain ⟨N, hN⟩ : ∃ N, N = l.length := ⟨_, rfl⟩
    have hNm : N ≤ 9223372036854775807 := by unfold maxLen at hm; omega
    rw [← hN]
    have HC := Lib.hid hcell
    have HGB := Lib.hid hb
    have HL := Lib.hid hN
    have hN1 : 1 ≤ N := by omega
    clear hcell hc hm hn h hN hb
    have hst := Lib.hid (Step.refl Nil w)
    go_enter Try.func85, Try.ntmps85
    go_wp2_with fail
    go_loopw [3] (fun i wr => ∃ k : Nat, 1 ≤ k ∧ k ≤ N ∧ i = .int .i64 (k : Int) ∧ Hid (Keeps Nil w wr) ∧ Hid (∀ i, i + 1 < k → (usedAt l i || usedAt l (i + 1)) = true)) (fun i _ => N - (intOf i).toNat)
    case atStart => exact ⟨1, by omega, by omega, rfl, Lib.hid hst.out.keeps, Lib.hid (fun i hi => by omega)⟩
    case round =>
      obtain ⟨k, hk1, hk, rfl, hK0, HS⟩ := hrel
      replace hst := Lib.hid (Step.of_nil (S := Nil) hK0.out)
      clear hK0
      by_cases hlt : k < N
      · have hk1 : 0 < k := by omega
        obtain ⟨⟨bo, ⟨bs, bu, bw⟩, bl⟩, hx⟩ : ∃ x, l[k - 1]? = some x := ⟨l[k - 1]'(by have := HL.out; omega), by have := HL.out; simp⟩
        obtain ⟨⟨eo, ⟨es, eu, ew⟩, el⟩, hy⟩ : ∃ x, l[k]? = some x := ⟨l[k]'(by have := HL.out; omega), by have := HL.out; simp⟩
        have HX := Lib.hid hx
        have HY := Lib.hid hy
        clear hx hy
        cases bu with
        | true =>
        have e_x_0 := (hst.out.keeps.cell HGB.out (fun e => e) _).trans (View.cellB HC.out (k - 1) ⟨bo, ⟨bs, true, bw⟩, bl⟩ HX.out).1
        have e_x_1 := (hst.out.keeps.cell HGB.out (fun e => e) _).trans (View.cellB HC.out (k - 1) ⟨bo, ⟨bs, true, bw⟩, bl⟩ HX.out).2.1
        have e_x_2 := (hst.out.keeps.cell HGB.out (fun e => e) _).trans (View.cellB HC.out (k - 1) ⟨bo, ⟨bs, true, bw⟩, bl⟩ HX.out).2.2.1
        have e_x_3 := (hst.out.keeps.cell HGB.out (fun e => e) _).trans (View.cellB HC.out (k - 1) ⟨bo, ⟨bs, true, bw⟩, bl⟩ HX.out).2.2.2.1
        have e_x_4 := (hst.out.keeps.cell HGB.out (fun e => e) _).trans (View.cellB HC.out (k - 1) ⟨bo, ⟨bs, true, bw⟩, bl⟩ HX.out).2.2.2.2
        have e_y_0 := (hst.out.keeps.cell HGB.out (fun e => e) _).trans (View.cellB HC.out k ⟨eo, ⟨es, eu, ew⟩, el⟩ HY.out).1
        have e_y_1 := (hst.out.keeps.cell HGB.out (fun e => e) _).trans (View.cellB HC.out k ⟨eo, ⟨es, eu, ew⟩, el⟩ HY.out).2.1
        have e_y_2 := (hst.out.keeps.cell HGB.out (fun e => e) _).trans (View.cellB HC.out k ⟨eo, ⟨es, eu, ew⟩, el⟩ HY.out).2.2.1
        have e_y_3 := (hst.out.keeps.cell HGB.out (fun e => e) _).trans (View.cellB HC.out k ⟨eo, ⟨es, eu, ew⟩, el⟩ HY.out).2.2.2.1
        have e_y_4 := (hst.out.keeps.cell HGB.out (fun e => e) _).trans (View.cellB HC.out k ⟨eo, ⟨es, eu, ew⟩, el⟩ HY.out).2.2.2.2
        go_wp2_with fail
        clear e_x_0 e_x_1 e_x_2 e_x_3 e_x_4 e_y_0 e_y_1 e_y_2 e_y_3 e_y_4
        go_roundw
        case rel => exact ⟨k + 1, by omega, by omega, by go_num, Lib.hid hst.out.keeps, Lib.hid (fun i hi => by
          by_cases e : i = k - 1
          · subst e; rw [usedAt_some HX.out]; rfl
          · exact HS.out i (by omega))⟩
        case measure => simp [intOf]; omega
        | false =>
          cases eu with
          | true =>
          have e_x_0 := (hst.out.keeps.cell HGB.out (fun e => e) _).trans (View.cellB HC.out (k - 1) ⟨bo, ⟨bs, false, bw⟩, bl⟩ HX.out).1
          have e_x_1 := (hst.out.keeps.cell HGB.out (fun e => e) _).trans (View.cellB HC.out (k - 1) ⟨bo, ⟨bs, false, bw⟩, bl⟩ HX.out).2.1
          have e_x_2 := (hst.out.keeps.cell HGB.out (fun e => e) _).trans (View.cellB HC.out (k - 1) ⟨bo, ⟨bs, false, bw⟩, bl⟩ HX.out).2.2.1
          have e_x_3 := (hst.out.keeps.cell HGB.out (fun e => e) _).trans (View.cellB HC.out (k - 1) ⟨bo, ⟨bs, false, bw⟩, bl⟩ HX.out).2.2.2.1
          have e_x_4 := (hst.out.keeps.cell HGB.out (fun e => e) _).trans (View.cellB HC.out (k - 1) ⟨bo, ⟨bs, false, bw⟩, bl⟩ HX.out).2.2.2.2
          have e_y_0 := (hst.out.keeps.cell HGB.out (fun e => e) _).trans (View.cellB HC.out k ⟨eo, ⟨es, true, ew⟩, el⟩ HY.out).1
          have e_y_1 := (hst.out.keeps.cell HGB.out (fun e => e) _).trans (View.cellB HC.out k ⟨eo, ⟨es, true, ew⟩, el⟩ HY.out).2.1
          have e_y_2 := (hst.out.keeps.cell HGB.out (fun e => e) _).trans (View.cellB HC.out k ⟨eo, ⟨es, true, ew⟩, el⟩ HY.out).2.2.1
          have e_y_3 := (hst.out.keeps.cell HGB.out (fun e => e) _).trans (View.cellB HC.out k ⟨eo, ⟨es, true, ew⟩, el⟩ HY.out).2.2.2.1
          have e_y_4 := (hst.out.keeps.cell HGB.out (fun e => e) _).trans (View.cellB HC.out k ⟨eo, ⟨es, true, ew⟩, el⟩ HY.out).2.2.2.2
          go_wp2_with fail
          clear e_x_0 e_x_1 e_x_2 e_x_3 e_x_4 e_y_0 e_y_1 e_y_2 e_y_3 e_y_4
          go_roundw
          case rel => exact ⟨k + 1, by omega, by omega, by go_num, Lib.hid hst.out.keeps, Lib.hid (fun i hi => by
            by_cases e : i = k - 1
            · subst e; rw [show k - 1 + 1 = k by omega, usedAt_some HY.out]; simp
            · exact HS.out i (by omega))⟩
          case measure => simp [intOf]; omega
          | false =>
          have e_x_0 := (hst.out.keeps.cell HGB.out (fun e => e) _).trans (View.cellB HC.out (k - 1) ⟨bo, ⟨bs, false, bw⟩, bl⟩ HX.out).1
          have e_x_1 := (hst.out.keeps.cell HGB.out (fun e => e) _).trans (View.cellB HC.out (k - 1) ⟨bo, ⟨bs, false, bw⟩, bl⟩ HX.out).2.1
          have e_x_2 := (hst.out.keeps.cell HGB.out (fun e => e) _).trans (View.cellB HC.out (k - 1) ⟨bo, ⟨bs, false, bw⟩, bl⟩ HX.out).2.2.1
          have e_x_3 := (hst.out.keeps.cell HGB.out (fun e => e) _).trans (View.cellB HC.out (k - 1) ⟨bo, ⟨bs, false, bw⟩, bl⟩ HX.out).2.2.2.1
          have e_x_4 := (hst.out.keeps.cell HGB.out (fun e => e) _).trans (View.cellB HC.out (k - 1) ⟨bo, ⟨bs, false, bw⟩, bl⟩ HX.out).2.2.2.2
          have e_y_0 := (hst.out.keeps.cell HGB.out (fun e => e) _).trans (View.cellB HC.out k ⟨eo, ⟨es, false, ew⟩, el⟩ HY.out).1
          have e_y_1 := (hst.out.keeps.cell HGB.out (fun e => e) _).trans (View.cellB HC.out k ⟨eo, ⟨es, false, ew⟩, el⟩ HY.out).2.1
          have e_y_2 := (hst.out.keeps.cell HGB.out (fun e => e) _).trans (View.cellB HC.out k ⟨eo, ⟨es, false, ew⟩, el⟩ HY.out).2.2.1
          have e_y_3 := (hst.out.keeps.cell HGB.out (fun e => e) _).trans (View.cellB HC.out k ⟨eo, ⟨es, false, ew⟩, el⟩ HY.out).2.2.2.1
          have e_y_4 := (hst.out.keeps.cell HGB.out (fun e => e) _).trans (View.cellB HC.out k ⟨eo, ⟨es, false, ew⟩, el⟩ HY.out).2.2.2.2
          go_wp2_with fail
          go_ret
          clear e_x_0 e_x_1 e_x_2 e_x_3 e_x_4 e_y_0 e_y_1 e_y_2 e_y_3 e_y_4
          exact ⟨by rw [merged_false (i := k - 1) (by have := HL.out; omega) (usedAt_some HX.out) (by rw [show k - 1 + 1 = k by omega]; exact usedAt_some HY.out)]; rfl, hst.out.keeps⟩
      · skip
        go_wp2_with fail
        go_ret
        exact ⟨by rw [merged_true (fun i hi => HS.out i (by have := HL.out; omega))]; rfl, hst.out.keeps⟩
  · obtain ⟨al, cap, rfl, _⟩ := h.val
    have e1 : l = [] := List.eq_nil_of_length_eq_zero (by omega)
    subst e1
    clear h hn
    have hst := Lib.hid (Step.refl Nil w)
    go_enter Try.func85, Try.ntmps85
    go_wp2_with fail
    go_loopw [3] (fun i wr => i = .int .i64 1 ∧ Keeps Nil w wr) (fun i _ => 0)
    case atStart => exact ⟨rfl, hst.out.keeps⟩
    case round =>
      obtain ⟨rfl, hK0⟩ := hrel
      replace hst := Lib.hid (Step.of_nil (S := Nil) hK0)
      clear hK0
      go_wp2_with fail
      go_ret
      exact ⟨rfl, hst.out.keeps⟩
end Go.Proofs.Ytccllkgaakmdhaa
