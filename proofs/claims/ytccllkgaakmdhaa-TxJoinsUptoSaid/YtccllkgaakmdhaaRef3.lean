/- The reference of layer 3 (carrackref03): a Tx as two lists. -/
import Derived.Test.YtccllkgaakmdhaaRef23
import Derived.Test.YtccllkgaakmdhaaTxApply
namespace Go.Proofs.Ytccllkgaakmdhaa
open Go.RowKit

/-- the place of an offset; -1: there is none -/
def atI : List Put → UInt64 → Int → Int
  | [], _, _ => -1
  | x :: l, off, i => if x.1 = off then i else atI l off (i + 1)
theorem atI_none {l : List Put} {off : UInt64} (h : loadP l off = none) (i : Int) : atI l off i = -1 := by
  induction l generalizing i with
  | nil => rfl
  | cons x l ih =>
    simp only [loadP] at h
    split at h
    · cases h
    · rename_i hne; simp only [atI, if_neg (Ne.symm hne)]; exact ih h _
theorem atI_some {l : List Put} {off u : UInt64} (h : loadP l off = some u) (i : Int) : ∃ j : Nat, j < l.length ∧ atI l off i = i + j ∧ l[j]? = some (off, u) ∧ ∀ v, storeP l off v = l.set j (off, v) := by
  induction l generalizing i with
  | nil => cases h
  | cons x l ih =>
    simp only [loadP] at h
    split at h
    · rename_i he
      cases h
      refine ⟨0, by simp, by simp [atI, he], by simp [he], fun v => by simp [storeP, he]⟩
    · rename_i hne
      obtain ⟨j, h1, h2, h3, h4⟩ := ih h (i + 1)
      exact ⟨j + 1, by simp; omega, by simp only [atI, if_neg (Ne.symm hne), h2]; omega, by simpa using h3, fun v => by simp only [storeP, if_neg hne, h4]; rfl⟩
theorem atI_drop {l : List Put} {k : Nat} {x : Put} (h : l[k]? = some x) (off : UInt64) : atI (l.drop k) off k = if x.1 = off then (k : Int) else atI (l.drop (k + 1)) off ((k + 1 : Nat) : Int) := by
  have hk := (List.getElem?_eq_some_iff.1 h)
  obtain ⟨hlt, he⟩ := hk
  rw [List.drop_eq_getElem_cons hlt, he]
  simp [atI]

theorem View.cellP {w : World} {b off : Nat} {l : List Put} (h : ∀ i j, j < kP.size → i < l.length → w.cell? ⟨b, off + (i * kP.size + j), none⟩ = (l[i]?).bind (fun x => (kP.enc x)[j]?)) (i : Nat) (x : Put) (hx : l[i]? = some x) :
    w.cell? ⟨b, off + i * 2, none⟩ = some (.int .u64 ↑x.1.toNat) ∧ w.cell? ⟨b, off + i * 2 + 1, none⟩ = some (.int .u64 ↑x.2.toNat) := by
  have hi := (List.getElem?_eq_some_iff.1 hx).1
  have h0 := h i 0 (by decide) hi
  have h1 := h i 1 (by decide) hi
  rw [hx] at h0 h1
  exact ⟨by simpa using h0, by simpa [Nat.add_assoc] using h1⟩

set_option maxRecDepth 100000 in
set_option maxHeartbeats 1000000 in
theorem at_any {S : Nat → Prop} {w : World} {b o cap n : Nat} {vP : Value} {l : List Put} (h : View kP S w vP l) (off : UInt64) (x : Int) (hx : x = (off.toNat : Int)) :
    Calls Try.prog 92 #[.agg #[.slice (some ⟨b, o, none⟩) n cap, vP], .int .u64 x] w fun e w' => e = .returned (.int .i64 (atI l off 0)) ∧ Keeps Nil w w' := by
  subst hx
  by_cases hp : 0 < l.length
  · obtain ⟨b2, o2, cap2, rfl, hc, hm, hb, _, hcell⟩ := h.pos hp
    clear h
    obtain ⟨w1, hw1⟩ : ∃ w1, w1 = w.alloc (.cells #[.slice (some ⟨b, o, none⟩) n cap, .slice (some ⟨b2, o2, none⟩) l.length cap2] 28) := ⟨_, rfl⟩
    have hK : Keeps Nil w w1 := by rw [hw1]; exact (Keeps.refl Nil w).alloc _
    have hcell1 : ∀ i j, j < kP.size → i < l.length → w1.cell? ⟨b2, o2 + (i * kP.size + j), none⟩ = (l[i]?).bind (fun x => (kP.enc x)[j]?) := fun i j hj hi => (hK.cell hb (fun e => e) _).trans (hcell i j hj hi)
    have HC := Lib.hid hcell1
    have hbx : w1.cell? ⟨w.heap.size, 1, none⟩ = some (.slice (some ⟨b2, o2, none⟩) l.length cap2) := by
      rw [hw1]; simp only [World.cell?, heap_new w _]; rfl
    have HW := Lib.hid hw1
    have hlm : l.length ≤ 9223372036854775807 := by unfold maxLen at hm; omega
    clear hcell hcell1 hw1 hp
    go_enter Try.func92, Try.ntmps92
    go_wp2_with fail
    rw [← HW.out]
    go_loopw [5] (fun i wr => ∃ k : Nat, k ≤ l.length ∧ i = .int .i64 (k : Int) ∧ w1 = wr ∧ Hid (atI l off 0 = atI (l.drop k) off k)) (fun i _ => l.length - (intOf i).toNat)
    case atStart => exact ⟨0, by omega, rfl, rfl, by simp [Hid]⟩
    case round =>
      obtain ⟨k, hk, rfl, rfl, HS⟩ := hrel
      by_cases hlt : k < l.length
      · obtain ⟨x, hx⟩ : ∃ x, l[k]? = some x := ⟨l[k], by simp [hlt]⟩
        obtain ⟨c1, c2⟩ := View.cellP HC.out k x hx
        have HX := Lib.hid hx
        clear hx
        by_cases hd : x.1 = off
        · have hb' : ((x.1.toNat : Int) == (off.toNat : Int)) = true := by rw [hd]; simp
          have HD := Lib.hid hd
          clear hd
          go_wp2_with fail
          go_ret
          refine ⟨?_, hK⟩
          have e := HS.out
          rw [atI_drop HX.out, if_pos HD.out] at e
          rw [e]; rfl
        · have hb' : ((x.1.toNat : Int) == (off.toNat : Int)) = false := by
            rw [beq_eq_false_iff_ne]; intro e; exact hd (UInt64.toNat_inj.1 (by omega))
          have HD := Lib.hid hd
          clear hd
          go_wp2_with fail
          go_roundw
          case rel =>
            have e := HS.out
            rw [atI_drop HX.out, if_neg HD.out] at e
            exact ⟨k + 1, by omega, by go_num, by first | rfl | trivial, e⟩
          case measure => simp [intOf]; omega
      · go_wp2_with fail
        go_ret
        have e := HS.out
        rw [List.drop_of_length_le (by omega)] at e
        rw [e]
        exact ⟨rfl, hK⟩
  · obtain ⟨a2, cap2, rfl, _⟩ := h.val
    obtain rfl : l = [] := List.eq_nil_of_length_eq_zero (by omega)
    clear h hp
    go_enter Try.func92, Try.ntmps92
    go_wp2_with fail
    go_loopw [5] (fun i wr => i = .int .i64 0 ∧ Keeps Nil w wr ∧ wr.cell? ⟨w.heap.size, 1, none⟩ = some (.slice a2 0 cap2)) (fun _ _ => 0)
    case atStart => exact ⟨rfl, (Keeps.refl Nil w).alloc _, by simp only [World.cell?, heap_new w _]; rfl⟩
    case round =>
      obtain ⟨rfl, hK, hc⟩ := hrel
      go_wp2_with fail
      go_ret
      exact ⟨rfl, hK⟩

set_option maxHeartbeats 1000000 in
theorem rOld_any {S : Nat → Prop} {w : World} {b o cap a2n cap2 : Nat} {a2 : Option Addr} {ws : List UInt64} (h : View kU S w (.slice (some ⟨b, o, none⟩) ws.length cap) ws) (off : UInt64) (x : Int) (hx : x = (off.toNat : Int)) :
    Calls Try.prog 57 #[.agg #[.slice (some ⟨b, o, none⟩) ws.length cap, .slice a2 a2n cap2], .int .u64 x] w fun e w' => e = .returned (.int .u64 ↑(loadV ws off).toNat) ∧ Keeps Nil w w' := by
  have hK : Keeps Nil w (w.alloc (.cells #[.slice (some ⟨b, o, none⟩) ws.length cap, .slice a2 a2n cap2] 28)) := (Keeps.refl Nil w).alloc _
  have HR := Lib.hid (rLoad_any (h.keeps_nil hK) off x hx)
  clear hx
  go_enter Try.func57, Try.ntmps57
  go_wp2_with fail
  refine HR.out.mono ?_
  rintro e w' ⟨rfl, rfl⟩
  go_wp2_with fail
  go_ret
  exact ⟨rfl, hK⟩

set_option maxHeartbeats 1000000 in
theorem rTxLoad_any {S : Nat → Prop} {w : World} {b o cap : Nat} {vP : Value} {l : List Put} {ws : List UInt64} (h : View kU S w (.slice (some ⟨b, o, none⟩) ws.length cap) ws) (h2 : View kP S w vP l) (off : UInt64) (x : Int) (hx : x = (off.toNat : Int)) :
    Calls Try.prog 35 #[.agg #[.slice (some ⟨b, o, none⟩) ws.length cap, vP], .int .u64 x] w fun e w' => e = .returned (.int .u64 ↑(txLoad ws l off).toNat) ∧ Keeps Nil w w' := by
  subst hx
  obtain ⟨a2, cap2, hv, hlm⟩ := h2.val
  have hK : Keeps Nil w (w.alloc (.cells #[.slice (some ⟨b, o, none⟩) ws.length cap, .slice a2 l.length cap2] 28)) := (Keeps.refl Nil w).alloc _
  have HA := Lib.hid (at_any (b := b) (o := o) (cap := cap) (n := ws.length) (h2.keeps_nil hK) off _ rfl)
  unfold maxLen at hlm
  cases hl : loadP l off with
  | none =>
    subst hv
    rw [atI_none hl] at HA
    have HL := Lib.hid hl
    clear hl h2
    go_enter Try.func35, Try.ntmps35
    go_wp2_with fail
    refine HA.out.mono ?_
    rintro e w1 ⟨rfl, hK1⟩
    have hb0 : w1.cell? ⟨w.heap.size, 0, none⟩ = some (.slice (some ⟨b, o, none⟩) ws.length cap) := by
      rw [hK1.cell (by simp) (fun e => e)]; simp only [World.cell?, heap_new w _]; rfl
    have hb1 : w1.cell? ⟨w.heap.size, 1, none⟩ = some (.slice a2 l.length cap2) := by
      rw [hK1.cell (by simp) (fun e => e)]; simp only [World.cell?, heap_new w _]; rfl
    go_wp2_with fail
    refine (rOld_any (h.keeps_nil (hK.trans' hK1)) off _ rfl).mono ?_
    rintro e w2 ⟨rfl, hK2⟩
    go_wp2_with fail
    go_ret
    exact ⟨by simp [txLoad, HL.out], hK.trans' (hK1.trans' hK2)⟩
  | some u =>
    obtain ⟨j, h1, h2', h3, _⟩ := atI_some hl 0
    obtain ⟨b2, o2, cap3, hv2, hc, hm, hb, _, hcell⟩ := h2.pos (by omega)
    rw [hv2] at hv
    simp only [Value.slice.injEq, true_and] at hv
    obtain ⟨rfl, rfl⟩ := hv
    subst hv2
    rw [h2', Int.zero_add] at HA
    obtain ⟨c1, c2⟩ := View.cellP hcell j (off, u) h3
    have HC := Lib.hid c2
    have HL := Lib.hid hl
    clear hl h2 h2' h3 hcell c1 c2
    go_enter Try.func35, Try.ntmps35
    go_wp2_with fail
    refine HA.out.mono ?_
    rintro e w1 ⟨rfl, hK1⟩
    have hb1 : w1.cell? ⟨w.heap.size, 1, none⟩ = some (.slice (some ⟨b2, o2, none⟩) l.length cap3) := by
      rw [hK1.cell (by simp) (fun e => e)]; simp only [World.cell?, heap_new w _]; rfl
    have hb0 : w1.cell? ⟨w.heap.size, 0, none⟩ = some (.slice (some ⟨b, o, none⟩) ws.length cap) := by
      rw [hK1.cell (by simp) (fun e => e)]; simp only [World.cell?, heap_new w _]; rfl
    have hc2 : w1.cell? ⟨b2, o2 + j * 2 + 1, none⟩ = some (.int .u64 ↑u.toNat) := ((hK.trans' hK1).cell hb (fun e => e) _).trans HC.out
    go_wp2_with fail
    go_ret
    exact ⟨by simp [txLoad, HL.out], hK.trans' hK1⟩

theorem cellsP_get (l : List Put) (i : Nat) (x : Put) (h : l[i]? = some x) : (kP.cells l)[i * 2]? = some (.int .u64 ↑x.1.toNat) ∧ (kP.cells l)[i * 2 + 1]? = some (.int .u64 ↑x.2.toNat) := by
  have h0 := kP.cells_get l i 0 (by decide)
  have h1 := kP.cells_get l i 1 (by decide)
  rw [h] at h0 h1
  exact ⟨by simpa using h0, by simpa using h1⟩

/-- a store into a row of Puts -/
theorem Own.setP {w : World} {base g cap : Nat} {l : List Put} (h : Own kP w base (.slice (some ⟨g, 0, none⟩) l.length cap) l) (i : Nat) (x : Put) (hi : i < l.length) :
    Own kP ((w.setCell ⟨g, i * 2, none⟩ (.int .u64 ↑x.1.toNat)).setCell ⟨g, i * 2 + 1, none⟩ (.int .u64 ↑x.2.toNat)) base (.slice (some ⟨g, 0, none⟩) l.length cap) (l.set i x) := by
  obtain ⟨h1, h2⟩ := h
  rcases h2 with ⟨e, _⟩ | ⟨g', cap', cur, e, hg, hh, hc, hm, hs, ht⟩
  · cases e
  · simp only [Value.slice.injEq, Option.some.injEq, Addr.mk.injEq, and_true, true_and] at e
    obtain ⟨rfl, rfl⟩ := e
    have hs2 : cur.size = cap * 2 := hs
    refine ⟨kP.cells_length _, .inr ⟨g, cap, (cur.setIfInBounds (i * 2) (.int .u64 ↑x.1.toNat)).setIfInBounds (i * 2 + 1) (.int .u64 ↑x.2.toNat), by simp, hg, heap_setCell_eq (heap_setCell_eq hh _ _) _ _, by simpa using hc, hm, by simpa using hs, ?_⟩⟩
    rw [Array.toList_setIfInBounds, Array.toList_setIfInBounds, List.length_set]
    show List.take (l.length * 2) _ = _
    have ht' : cur.toList.take (l.length * 2) = kP.cells l := ht
    rw [List.take_set, List.take_set, ht']
    have hlen : (kP.cells l).length = l.length * 2 := kP.cells_length l
    apply List.ext_getElem?
    intro j
    rw [List.getElem?_set, List.getElem?_set, List.length_set, hlen]
    have hj : j = (j / 2) * 2 + j % 2 := by omega
    have hc1 := kP.cells_get (l.set i x) (j / 2) (j % 2) (Nat.mod_lt _ (by decide))
    have hc2 := kP.cells_get l (j / 2) (j % 2) (Nat.mod_lt _ (by decide))
    rw [show j / 2 * kP.size + j % 2 = j from by show j / 2 * 2 + j % 2 = j; omega] at hc1 hc2
    rw [hc1, hc2, List.getElem?_set]
    by_cases e1 : i * 2 + 1 = j
    · have e2 : j / 2 = i := by omega
      have e3 : j % 2 = 1 := by omega
      rw [if_pos e1, if_pos (by omega), if_pos e2.symm, if_pos hi, e3]; rfl
    · rw [if_neg e1]
      by_cases e4 : i * 2 = j
      · have e2 : j / 2 = i := by omega
        have e3 : j % 2 = 0 := by omega
        rw [if_pos e4, if_pos (by omega), if_pos e2.symm, if_pos hi, e3]; rfl
      · have e2 : i ≠ j / 2 := by omega
        rw [if_neg e4, if_neg e2]

/-- the cells of an element of a row of one's own -/
theorem Own.cellP {w : World} {base g cap : Nat} {l : List Put} (h : Own kP w base (.slice (some ⟨g, 0, none⟩) l.length cap) l) (i : Nat) (x : Put) (hx : l[i]? = some x) :
    w.cell? ⟨g, i * 2, none⟩ = some (.int .u64 ↑x.1.toNat) ∧ w.cell? ⟨g, i * 2 + 1, none⟩ = some (.int .u64 ↑x.2.toNat) ∧ ∀ o, w.frozen? ⟨g, o, none⟩ = false := by
  have hi := (List.getElem?_eq_some_iff.1 hx).1
  rcases h.2 with ⟨e, _⟩ | ⟨g', cap', cur, e, hg, hh, hc, hm, hs, ht⟩
  · cases e
  · simp only [Value.slice.injEq, Option.some.injEq, Addr.mk.injEq, and_true, true_and] at e
    obtain ⟨rfl, rfl⟩ := e
    rcases h.view (S := Nil) (fun _ _ e => e) with ⟨e, _⟩ | ⟨b, o, cap', e, _, _, _, _, hcell⟩
    · cases e
    · simp only [Value.slice.injEq, Option.some.injEq, Addr.mk.injEq, and_true, true_and] at e
      obtain ⟨⟨rfl, rfl⟩, rfl⟩ := e
      obtain ⟨c1, c2⟩ := View.cellP hcell i x hx
      rw [Nat.zero_add] at c1 c2
      exact ⟨c1, c2, fun o => by simp [World.frozen?, hh]⟩

end Go.Proofs.Ytccllkgaakmdhaa
