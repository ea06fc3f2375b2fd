/- carrackref03.Apply, Same. -/
import Derived.Deep.RegionHeld3
import Derived.Test.YtccllkgaakmdhaaRef3Store
import Derived.Test.YtccllkgaakmdhaaEqS
namespace Go.Proofs.Ytccllkgaakmdhaa
open Go.RowKit

theorem applyW_take {ws : List UInt64} {l : List Put} {k : Nat} {x : Put} (h : l[k]? = some x) : applyW ws (l.take (k + 1)) = putW (applyW ws (l.take k)) x.1 x.2 := by
  rw [take_succ' h, applyW_snoc]

set_option maxRecDepth 100000 in
set_option maxHeartbeats 2000000 in
theorem rApply_any {S : Nat → Prop} {w : World} {b o cap : Nat} {vP : Value} {l : List Put} {ws : List UInt64} (h : View kU S w (.slice (some ⟨b, o, none⟩) ws.length cap) ws) (h2 : View kP S w vP l) (hS : ∀ k, S k → k < w.heap.size) (hsm : ws.length < 4294967296) :
    Calls Try.prog 31 #[.agg #[.slice (some ⟨b, o, none⟩) ws.length cap, vP]] w fun e w' =>
      ∃ v, e = .returned v ∧ View kU S w' v (applyW ws l) ∧ Keeps Nil w w' := by
  obtain ⟨a2, cap2, rfl, hlm⟩ := h2.val
  obtain ⟨n, hn⟩ : ∃ n, n = l.length := ⟨_, rfl⟩
  rw [← hn] at h2 ⊢
  obtain ⟨w1, hw1⟩ : ∃ w1, w1 = w.alloc (.cells #[.slice (some ⟨b, o, none⟩) ws.length cap, .slice a2 n cap2] 28) := ⟨_, rfl⟩
  have hK : Keeps Nil w w1 := by rw [hw1]; exact (Keeps.refl Nil w).alloc _
  have hb : w1.heap[w.heap.size]? = some (.cells #[.slice (some ⟨b, o, none⟩) ws.length cap, .slice a2 n cap2] 28 (0, 0)) := by rw [hw1]; exact heap_new w _
  have c0 : w1.cell? ⟨w.heap.size, 0, none⟩ = some (.slice (some ⟨b, o, none⟩) ws.length cap) := by simp [World.cell?, hb]
  have c1 : w1.cell? ⟨w.heap.size, 1, none⟩ = some (.slice a2 n cap2) := by simp [World.cell?, hb]
  have hnm : n ≤ 9223372036854775807 := by unfold maxLen at hlm; omega
  have HV := Lib.hid (And.intro (h.keeps_nil hK) (h2.keeps_nil hK))
  have HB := Lib.hid hb
  have HW := Lib.hid hw1
  have HN := Lib.hid hn
  clear hb hw1 hn h h2
  go_enter Try.func31, Try.ntmps31
  go_wp2_with fail
  rw [← HW.out]
  go_loopw [3, 4] (fun v i wr => ∃ (k b' o' cap' : Nat), k ≤ n ∧ i = .int .i64 (k : Int) ∧ v = .slice (some ⟨b', o', none⟩) ws.length cap' ∧ Hid (View kU S wr (.slice (some ⟨b', o', none⟩) ws.length cap') (applyW ws (l.take k))) ∧ Keeps Nil w1 wr) (fun _ i _ => n - (intOf i).toNat)
  case atStart => exact ⟨0, b, o, cap, by omega, rfl, rfl, HV.out.1, Keeps.refl _ _⟩
  case round =>
    obtain ⟨k, b', o', cap', hk, rfl, rfl, HVk, hKr⟩ := hrel
    have x1 := (hKr.cell (getElem?_lt HB.out) (fun e => e) 1).trans c1
    by_cases hlt : k < n
    · obtain ⟨x, hx⟩ : ∃ x, l[k]? = some x := ⟨l[k]'(by have := HN.out; omega), by have := HN.out; simp⟩
      obtain ⟨b2, o2, cap3, hv, _, _, hb2, _, hcell⟩ := HV.out.2.pos (by have := HN.out; omega)
      simp only [Value.slice.injEq] at hv
      obtain ⟨rfl, rfl, rfl⟩ := hv
      obtain ⟨y1, y2⟩ := View.cellP hcell k x hx
      have y1' := (hKr.cell hb2 (fun e => e) (o2 + k * 2)).trans y1
      have y2' := (hKr.cell hb2 (fun e => e) (o2 + k * 2 + 1)).trans y2
      have HX := Lib.hid hx
      have hvk : View kU S wr.drew (.slice (some ⟨b', o', none⟩) (applyW ws (l.take k)).length cap') (applyW ws (l.take k)) := by
        rw [applyW_length]; exact HVk.out.keeps_nil ⟨rfl, rfl, rfl, Nat.le_refl _, fun _ _ _ => rfl⟩
      have HR := Lib.hid (rStore_any hvk (fun k hk => Nat.lt_of_lt_of_le (hS k hk) (Nat.le_trans hK.size hKr.size)) (by rw [applyW_length]; exact hsm) x.1 x.2 _ _ rfl rfl)
      clear hvk
      have hbs : w.heap.size < wr.drew.heap.size := Nat.lt_of_lt_of_le (getElem?_lt HB.out) hKr.size
      have hb2' : b2 < wr.drew.heap.size := Nat.lt_of_lt_of_le hb2 hKr.size
      rw [applyW_length] at HR
      clear y1 y2 hcell hx
      go_wp2_with fail
      go_region_held3 (fun w' => w'.cell? ⟨w.heap.size, 1, none⟩ = some (.slice (some ⟨b2, o2, none⟩) l.length cap2) ∧ w'.cell? ⟨b2, o2 + k * 2, none⟩ = some (.int .u64 ↑x.1.toNat) ∧ w'.cell? ⟨b2, o2 + k * 2 + 1, none⟩ = some (.int .u64 ↑x.2.toNat))
        (first | exact ⟨x1, y1', y2'⟩ | exact ⟨q1, q2, q3⟩ | go_keep)
        ((go_at_call 89; refine HR.out.mono ?_; rintro e w3 ⟨b3, o3, cap4, rfl, hv3, hK3⟩; have q1 := (hK3.cell hbs (fun e => e) 1).trans x1; have q2 := (hK3.cell hb2' (fun e => e) (o2 + k * 2)).trans y1'; have q3 := (hK3.cell hb2' (fun e => e) (o2 + k * 2 + 1)).trans y2'; have HV3 := Lib.hid hv3; have HK3 := Lib.hid hK3; clear hv3 hK3))
      go_wp2_with fail
      go_roundw
      case rel => exact ⟨k + 1, b3, o3, cap4, by omega, by go_num, rfl, by rw [applyW_take HX.out]; exact HV3.out, hKr.drew.trans' HK3.out⟩
      case measure => simp [intOf]; omega
    · go_wp2_with fail
      go_ret
      have hkn : l.take k = l := List.take_of_length_le (by have := HN.out; omega)
      have hv := HVk.out
      rw [hkn] at hv
      exact ⟨_, rfl, hv, hK.trans' hKr⟩

set_option maxRecDepth 100000 in
set_option maxHeartbeats 1000000 in
/-- Same: are two lists of Puts the same? -/
theorem Same_any {S S2 : Nat → Prop} {w : World} {v v2 : Value} {l l2 : List Put} (h : View kP S w v l) (h2 : View kP S2 w v2 l2) :
    Calls Try.prog 32 #[v, v2] w fun e w' => e = .returned (.bool (decide (l = l2))) ∧ Keeps Nil w w' := by
  by_cases hlen : l.length = l2.length
  · by_cases hp : 0 < l.length
    · obtain ⟨b, o, cap, rfl, hc, hm, hb, _, hcell⟩ := h.pos hp
      obtain ⟨b2, o2, cap2, rfl, hc2, hm2, hb2, _, hcell2⟩ := h2.pos (by omega)
      clear h h2
      obtain ⟨N, hN⟩ : ∃ N, N = l.length := ⟨_, rfl⟩
      rw [← hlen, ← hN]
      have hNm : N ≤ 9223372036854775807 := by unfold maxLen at hm; omega
      have HC := Lib.hid hcell
      have HC2 := Lib.hid hcell2
      have HL := Lib.hid (And.intro hlen hN)
      clear hcell hcell2 hlen hN hc hc2 hm hm2 hp
      go_enter Try.func32, Try.ntmps32
      go_wp2_with fail
      go_loopw [5] (fun i wr => ∃ k : Nat, k ≤ N ∧ i = .int .i64 (k : Int) ∧ Keeps Nil w wr ∧ Hid (∀ j, j < k → l[j]? = l2[j]?)) (fun i _ => N - (intOf i).toNat)
      case atStart => exact ⟨0, by omega, rfl, Keeps.refl _ _, fun j hj => by omega⟩
      case round =>
        obtain ⟨k, hk, rfl, hK, HS⟩ := hrel
        by_cases hlt : k < N
        · obtain ⟨x, hx⟩ : ∃ x, l[k]? = some x := ⟨l[k]'(by have := HL.out; omega), by have := HL.out; simp⟩
          obtain ⟨x2, hx2⟩ : ∃ x, l2[k]? = some x := ⟨l2[k]'(by have := HL.out; omega), by have := HL.out; simp⟩
          obtain ⟨y1, y2⟩ := View.cellP HC.out k x hx
          obtain ⟨z1, z2⟩ := View.cellP HC2.out k x2 hx2
          have c1 := (hK.cell hb (fun e => e) _).trans y1
          have c2 := (hK.cell hb (fun e => e) _).trans y2
          have d1 := (hK.cell hb2 (fun e => e) _).trans z1
          have d2 := (hK.cell hb2 (fun e => e) _).trans z2
          have HX := Lib.hid (And.intro hx hx2)
          clear y1 y2 z1 z2 hx hx2
          have hgd := eqg_put
          by_cases hd : x = x2
          · have hq : ∀ w, (binOp .neq 38 (.agg #[.int .u64 ↑x.1.toNat, .int .u64 ↑x.2.toNat]) (.agg #[.int .u64 ↑x2.1.toNat, .int .u64 ↑x2.2.toNat])).run Try.prog w = .ok (.bool false) w := fun w => by rw [neq_put, put_beq, decide_eq_true hd]; rfl
            have HD := Lib.hid hd
            clear hd
            go_wp2_with fail
            go_quiet (fail)
            go_wp2_with fail
            go_roundw
            case rel =>
              refine ⟨k + 1, by omega, by go_num, hK.trans' ⟨rfl, rfl, rfl, Nat.le_refl _, fun _ _ _ => rfl⟩, fun j hj => ?_⟩
              by_cases e : j = k
              · subst e; rw [HX.out.1, HX.out.2, HD.out]
              · exact HS.out j (by omega)
            case measure => simp [intOf]; omega
          · have hq : ∀ w, (binOp .neq 38 (.agg #[.int .u64 ↑x.1.toNat, .int .u64 ↑x.2.toNat]) (.agg #[.int .u64 ↑x2.1.toNat, .int .u64 ↑x2.2.toNat])).run Try.prog w = .ok (.bool true) w := fun w => by rw [neq_put, put_beq, decide_eq_false hd]; rfl
            have HD := Lib.hid hd
            clear hd
            go_wp2_with fail
            go_quiet (fail)
            go_wp2_with fail
            go_ret
            have hne : l ≠ l2 := fun e => HD.out (by have h := HX.out; rw [e] at h; exact Option.some.inj (h.1.symm.trans h.2))
            exact ⟨by simp [hne], hK.trans' ⟨rfl, rfl, rfl, Nat.le_refl _, fun _ _ _ => rfl⟩⟩
        · go_wp2_with fail
          go_ret
          obtain ⟨h1, h2⟩ := HL.out
          have he : l = l2 := list_same h1 (fun j hj => HS.out j (by omega))
          exact ⟨by simp [he], hK⟩
    · obtain ⟨a, cap, rfl, _⟩ := h.val
      obtain ⟨a2, cap2, rfl, _⟩ := h2.val
      have e1 : l = [] := List.eq_nil_of_length_eq_zero (by omega)
      have e2 : l2 = [] := List.eq_nil_of_length_eq_zero (by omega)
      subst e1 e2
      clear h h2 hlen hp
      go_enter Try.func32, Try.ntmps32
      go_wp2_with fail
      go_loopw [5] (fun i wr => i = .int .i64 0 ∧ w = wr) (fun _ _ => 0)
      case atStart => exact ⟨rfl, rfl⟩
      case round =>
        obtain ⟨rfl, rfl⟩ := hrel
        go_wp2_with fail
        go_ret
        exact ⟨by simp, Keeps.refl _ _⟩
  · obtain ⟨a, cap, rfl, _⟩ := h.val
    obtain ⟨a2, cap2, rfl, _⟩ := h2.val
    have hb' : ((l.length : Int) != (l2.length : Int)) = true := by rw [bne_iff_ne]; omega
    have HL := Lib.hid hlen
    clear h h2 hlen
    go_enter Try.func32, Try.ntmps32
    go_wp2_with fail
    go_ret
    have hne : l ≠ l2 := fun e => HL.out (by rw [e])
    exact ⟨by simp [hne], Keeps.refl _ _⟩

end Go.Proofs.Ytccllkgaakmdhaa
