/- The references of layers 2 and 3 (carrackref02, carrackref03): what each call tells. -/
import Derived.Test.YtccllkgaakmdhaaTxMap
import Derived.Test.YtccllkgaakmdhaaSegNew
namespace Go.Proofs.Ytccllkgaakmdhaa
open Go.RowKit

theorem View.cellU {w : World} {b off : Nat} {l : List UInt64} (h : ∀ i j, j < kU.size → i < l.length → w.cell? ⟨b, off + (i * kU.size + j), none⟩ = (l[i]?).bind (fun x => (kU.enc x)[j]?)) (i : Nat) (hi : i < l.length) : w.cell? ⟨b, off + i, none⟩ = some (.int .u64 ↑(l[i]?.getD 0).toNat) := by
  have := h i 0 (by decide) hi
  have e : l[i]? = some l[i] := by simp [hi]
  rw [e] at this ⊢
  simpa using this

/-- a store into a row of words -/
theorem Own.setU {w : World} {base g cap : Nat} {l : List UInt64} (h : Own kU w base (.slice (some ⟨g, 0, none⟩) l.length cap) l) (i : Nat) (x : UInt64) (hi : i < l.length) :
    Own kU (w.setCell ⟨g, i, none⟩ (.int .u64 ↑x.toNat)) base (.slice (some ⟨g, 0, none⟩) l.length cap) (l.set i x) := by
  obtain ⟨h1, h2⟩ := h
  rcases h2 with ⟨e, _⟩ | ⟨g', cap', cur, e, hg, hh, hc, hm, hs, ht⟩
  · cases e
  · simp only [Value.slice.injEq, Option.some.injEq, Addr.mk.injEq, and_true, true_and] at e
    obtain ⟨rfl, rfl⟩ := e
    refine ⟨kU.cells_length _, .inr ⟨g, cap, cur.setIfInBounds i (.int .u64 ↑x.toNat), by simp, hg, heap_setCell_eq hh i _, by simpa using hc, hm, by simpa using hs, ?_⟩⟩
    rw [Array.toList_setIfInBounds, List.length_set]
    show List.take (l.length * 1) _ = _
    rw [Nat.mul_one, List.take_set]
    have ht' : cur.toList.take l.length = kU.cells l := by simpa using ht
    rw [ht']
    apply List.ext_getElem?
    intro j
    have hcells : ∀ (m : List UInt64) (j : Nat), (kU.cells m)[j]? = (m[j]?).map (fun y => Value.int .u64 ↑y.toNat) := by
      intro m j
      have := kU.cells_get m j 0 (by decide)
      simp only [Nat.mul_one, Nat.add_zero] at this
      rw [this]
      cases m[j]? <;> rfl
    rw [hcells, List.getElem?_set, List.getElem?_set, hcells, kU.cells_length]
    by_cases e : i = j
    · subst e; simp [hi]
    · simp [e]
/-- its cells, as they may be written -/
theorem Own.cellU {w : World} {base g cap : Nat} {l : List UInt64} (h : Own kU w base (.slice (some ⟨g, 0, none⟩) l.length cap) l) (i : Nat) (hi : i < l.length) :
    w.cell? ⟨g, i, none⟩ = some (.int .u64 ↑(l[i]?.getD 0).toNat) ∧ w.frozen? ⟨g, i, none⟩ = false := by
  rcases h.2 with ⟨e, _⟩ | ⟨g', cap', cur, e, hg, hh, hc, hm, hs, ht⟩
  · cases e
  · simp only [Value.slice.injEq, Option.some.injEq, Addr.mk.injEq, and_true, true_and] at e
    obtain ⟨rfl, rfl⟩ := e
    have hv := h.view (S := Nil) (fun _ _ e => e)
    rcases hv with ⟨e, _⟩ | ⟨b, o, cap', e, _, _, _, _, hcell⟩
    · cases e
    · simp only [Value.slice.injEq, Option.some.injEq, Addr.mk.injEq, and_true, true_and] at e
      obtain ⟨⟨rfl, rfl⟩, rfl⟩ := e
      have := View.cellU hcell i hi
      rw [Nat.zero_add] at this
      exact ⟨this, by simp [World.frozen?, hh]⟩

set_option maxHeartbeats 400000 in
theorem rin_any (a : Option Addr) (cap : Nat) (ws : List UInt64) (hl : ws.length ≤ maxLen) (off : UInt64) (x : Int) (hx : x = (off.toNat : Int)) (w : World) :
    Calls Try.prog 113 #[.slice a ws.length cap, .int .u64 x] w fun e w' => e = .returned (.bool (inB ws off)) ∧ w = w' := by
  subst hx
  unfold maxLen at hl
  by_cases hm : off.toNat % 8 = 0
  · have hm' : (((off.toNat : Int) % 8) == 0) = true := by simp; omega
    go_enter Try.func113, Try.ntmps113
    go_wp2
    go_ret
    have hlt := off.toNat_lt
    exact ⟨by simp [inB, hm]; rw [IntWalk.u64_in _ (by omega)]; omega, rfl⟩
  · have hm' : (((off.toNat : Int) % 8) == 0) = false := by simp; omega
    go_enter Try.func113, Try.ntmps113
    go_wp2
    go_ret
    exact ⟨by simp [inB, hm], rfl⟩

set_option maxHeartbeats 400000 in
/-- Load of the reference: of a list that is there -/
theorem rLoad_any {S : Nat → Prop} {w : World} {b o cap : Nat} {ws : List UInt64} (h : View kU S w (.slice (some ⟨b, o, none⟩) ws.length cap) ws) (off : UInt64) (x : Int) (hx : x = (off.toNat : Int)) :
    Calls Try.prog 99 #[.slice (some ⟨b, o, none⟩) ws.length cap, .int .u64 x] w fun e w' => e = .returned (.tuple #[.int .u64 ↑(loadV ws off).toNat, .int .i64 (errV ws off)]) ∧ w = w' := by
  subst hx
  rcases h with ⟨e, _⟩ | ⟨b', o', cap', e, hc, hm, hb, hn, hcell⟩
  · cases e
  simp only [Value.slice.injEq, Option.some.injEq, Addr.mk.injEq, and_true] at e
  obtain ⟨⟨rfl, rfl⟩, _, rfl⟩ := e
  have hl : ws.length ≤ maxLen := by omega
  have hl2 := hl
  unfold maxLen at hl2
  cases hin : inB ws off with
  | true =>
    have hin2 : off.toNat % 8 = 0 ∧ off.toNat < 8 * ws.length := by simpa [inB] using hin
    have hlt := off.toNat_lt
    have hi : off.toNat / 8 < ws.length := by omega
    have hcl := View.cellU hcell (off.toNat / 8) hi
    have e1 : IntKind.u64.wrap ((off.toNat : Int) / 8) = ((off.toNat / 8 : Nat) : Int) := by rw [IntWalk.u64_in _ (by omega)]; omega
    have RI := Lib.hid (rin_any (some ⟨b, o, none⟩) cap ws hl off _ rfl w)
    rw [hin] at RI
    have HH := Lib.hid hin
    clear hcell hin hin2
    go_enter Try.func99, Try.ntmps99
    go_wp2_with fail
    refine RI.out.mono ?_
    rintro e w' ⟨rfl, rfl⟩
    go_wp2_with fail
    go_ret2
    exact ⟨by simp [loadV, errV, HH.out, hi], rfl⟩
  | false =>
    have RI := Lib.hid (rin_any (some ⟨b, o, none⟩) cap ws hl off _ rfl w)
    rw [hin] at RI
    have HH := Lib.hid hin
    clear hcell hin
    go_enter Try.func99, Try.ntmps99
    go_wp2_with fail
    refine RI.out.mono ?_
    rintro e w' ⟨rfl, rfl⟩
    go_wp2_with fail
    go_ret2
    exact ⟨by simp [loadV, errV, HH.out], rfl⟩

theorem rstore_facts {w : World} {base g cap i : Nat} {l : List UInt64} (h : Own kU w base (.slice (some ⟨g, 0, none⟩) (0 + l.length) cap) ([] ++ l)) (hi : i < l.length) :
    w.cell? ⟨g, i, none⟩ = some (.int .u64 ↑(l[i]?.getD 0).toNat) ∧ w.frozen? ⟨g, i, none⟩ = false ∧ Hid (Own kU w base (.slice (some ⟨g, 0, none⟩) l.length cap) l) := by
  rw [Nat.zero_add, List.nil_append] at h
  obtain ⟨h1, h2⟩ := h.cellU i hi
  exact ⟨h1, h2, h⟩

set_option maxRecDepth 100000 in
set_option maxHeartbeats 1000000 in
theorem rStore_any {S : Nat → Prop} {w : World} {b o cap : Nat} {ws : List UInt64} (h : View kU S w (.slice (some ⟨b, o, none⟩) ws.length cap) ws) (hS : ∀ k, S k → k < w.heap.size) (hsm : ws.length < 4294967296) (off v : UInt64) (x y : Int) (hx : x = (off.toNat : Int)) (hy : y = (v.toNat : Int)) :
    Calls Try.prog 89 #[.slice (some ⟨b, o, none⟩) ws.length cap, .int .u64 x, .int .u64 y] w fun e w' =>
      ∃ b' o' cap', e = .returned (.tuple #[.slice (some ⟨b', o', none⟩) ws.length cap', .int .i64 (errV ws off)]) ∧ View kU S w' (.slice (some ⟨b', o', none⟩) ws.length cap') (putW ws off v) ∧ Keeps Nil w w' := by
  subst hx hy
  have h0 := h
  rcases h with ⟨e, _⟩ | ⟨b', o', cap', e, hc, hm, hb, hn, hcell⟩
  · cases e
  simp only [Value.slice.injEq, Option.some.injEq, Addr.mk.injEq, and_true] at e
  obtain ⟨⟨rfl, rfl⟩, _, rfl⟩ := e
  have hl : ws.length ≤ maxLen := by omega
  have hl2 := hl
  unfold maxLen at hl2
  cases hin : inB ws off with
  | true =>
    have hin2 : off.toNat % 8 = 0 ∧ off.toNat < 8 * ws.length := by simpa [inB] using hin
    have hlt := off.toNat_lt
    have hi : off.toNat / 8 < ws.length := by omega
    have e1 : IntKind.u64.wrap ((off.toNat : Int) / 8) = ((off.toNat / 8 : Nat) : Int) := by rw [IntWalk.u64_in _ (by omega)]; omega
    have RI := Lib.hid (rin_any (some ⟨b, o, none⟩) cap ws hl off _ rfl w)
    rw [hin] at RI
    have HH := Lib.hid hin
    have h1 : View kU S (w.alloc (.cells #[] 36)) (.slice (some ⟨b, o, none⟩) ws.length cap) ws := h0.keeps_nil ((Keeps.refl Nil w).alloc _)
    have hwz : (0 + ws.length) * kU.bytes ≤ 140737488355328 := by show (0 + ws.length) * 8 ≤ _; omega
    have hwp : 0 < ws.length := by omega
    clear hcell hin hin2
    go_enter Try.func89, Try.ntmps89
    go_wp2_with fail
    refine RI.out.mono ?_
    rintro e w' ⟨rfl, rfl⟩
    go_wp2_with (at_builtin; refine wpList_append_all kU rfl _ _ rfl (Own.made kU w w.heap.size (Nat.le_refl _)) rfl rfl h1 hwp hwz (by simp) (by decide) ?_; rintro _ w3 hown3 hK3 ⟨g, cap3, rfl, hg⟩; obtain ⟨d1, d2, D⟩ := rstore_facts (i := off.toNat / 8) hown3 hi; have HK3 := Lib.hid hK3; clear hK3)
    go_ret2
    refine ⟨g, 0, cap3, by simp [errV, HH.out], ?_, ?_⟩
    · have hv := (D.out.setU (off.toNat / 8) v hi).view (S := S) (fun g hg e => by have := hS g e; omega)
      simpa [putW, HH.out] using hv
    · refine (((Keeps.refl Nil w).alloc _).trans HK3.out (fun i hi e => ?_)).setCell (p := ⟨g, off.toNat / 8, none⟩) (fun hlt => ?_) _
      · have e' : w.heap.size = i := by simpa [Value.ownBlock] using e
        have hi' : i < w.heap.size := hi
        omega
      · have h1 := (hown3.block (k := g) rfl).1
        have h2 : g < w.heap.size := hlt
        omega
  | false =>
    have RI := Lib.hid (rin_any (some ⟨b, o, none⟩) cap ws hl off _ rfl w)
    rw [hin] at RI
    have HH := Lib.hid hin
    clear hcell hin
    go_enter Try.func89, Try.ntmps89
    go_wp2_with fail
    refine RI.out.mono ?_
    rintro e w' ⟨rfl, rfl⟩
    go_wp2_with fail
    go_ret2
    exact ⟨b, o, cap, by simp [errV, HH.out], by simpa [putW, HH.out] using h0, Keeps.refl _ _⟩

theorem info_u64 : (Try.prog.info? 36).map (fun i => (i.zero, i.size, i.bytes)) = some (some (.int .u64 0), 1, 8) := by kernel_rfl

set_option maxHeartbeats 400000 in
theorem rMay_any (size : UInt64) (x : Int) (hx : x = (size.toNat : Int)) (w : World) :
    Calls Try.prog 114 #[.int .u64 x] w fun e w' => e = .returned (.bool (mayB size)) ∧ w = w' := by
  subst hx
  obtain ⟨n, hn⟩ : ∃ n, n = size.toNat := ⟨_, rfl⟩
  have HM : mayB size = (n != 0 && n % 8 == 0 && decide (n ≤ 1048576)) := by simp only [mayB, ← hn]
  rw [HM, ← hn]
  clear HM hn
  by_cases h1 : 0 < n
  · by_cases h2 : n % 8 = 0
    · have t1 : ((n : Int) % 8 == 0) = true := by simp; omega
      have H2 := Lib.hid h2
      clear h2
      go_enter Try.func114, Try.ntmps114
      go_wp2
      go_ret
      exact ⟨by have := H2.out; simp [this]; rw [Bool.eq_iff_iff]; simp; omega, rfl⟩
    · have t1 : ((n : Int) % 8 == 0) = false := by simp; omega
      have H2 := Lib.hid h2
      clear h2
      go_enter Try.func114, Try.ntmps114
      go_wp2
      go_ret
      exact ⟨by have := H2.out; simp [this], rfl⟩
  · obtain rfl : n = 0 := by omega
    go_enter Try.func114, Try.ntmps114
    go_wp2
    go_ret
    exact ⟨by simp, rfl⟩

theorem cellsU_get (l : List UInt64) (j : Nat) : (kU.cells l)[j]? = (l[j]?).map (fun y => Value.int .u64 ↑y.toNat) := by
  have := kU.cells_get l j 0 (by decide)
  simp only [Nat.mul_one, Nat.add_zero] at this
  rw [this]
  cases l[j]? <;> rfl

set_option maxHeartbeats 1000000 in
theorem rNew_yes (w : World) (size : UInt64) (h : mayB size = true) (x : Int) (hx : x = (size.toNat : Int)) :
    Calls Try.prog 96 #[.int .u64 x] w fun e w' =>
      e = .returned (.slice (some ⟨w.heap.size, 0, none⟩) (size.toNat / 8) (size.toNat / 8)) ∧ Own kU w' w.heap.size (.slice (some ⟨w.heap.size, 0, none⟩) (size.toNat / 8) (size.toNat / 8)) (List.replicate (size.toNat / 8) 0) ∧ Keeps Nil w w' := by
  have RM := Lib.hid (rMay_any size x hx w)
  rw [h] at RM
  subst hx
  simp [mayB] at h
  obtain ⟨⟨h1, h2⟩, h3⟩ := h
  obtain ⟨i0, hi, hz0, hz1, hz2⟩ := info_parts info_u64
  have e1 : IntKind.u64.wrap ((size.toNat : Int) / 8) = ((size.toNat / 8 : Nat) : Int) := by rw [IntWalk.u64_in _ (by omega)]; omega
  obtain ⟨n, hn⟩ : ∃ n, n = size.toNat / 8 := ⟨_, rfl⟩
  rw [← hn] at e1 ⊢
  have hmk : ∀ w : World, (Instr.makeSlice 26 (.int .u64 (n : Int)) (.int .u64 (n : Int))).run Try.prog w = .ok (.slice (some ⟨w.heap.size, 0, none⟩) n n) (w.alloc (.cells (madeCells #[.int .u64 0] n) 36)) := fun w => by
    have := run_make (P := Try.prog) w 26 36 i0 (.int .u64 0) Try.underlying26 hi hz0 .u64 .u64 n n (by omega) (by omega) (by rw [hz2]; omega) (by omega)
    simpa [hz1, Value.cells] using this
  have hn2 : n ≤ 131072 := by omega
  have HN := Lib.hid hn
  clear hn h1 h2 hi hz0 hz1 hz2
  go_enter Try.func96, Try.ntmps96
  go_wp2_with fail
  refine RM.out.mono ?_
  rintro e w' ⟨rfl, rfl⟩
  go_wp2_with fail
  go_ret
  refine ⟨rfl, ⟨kU.cells_length _, .inr ⟨w.heap.size, n, madeCells #[.int .u64 0] n, by simp, Nat.le_refl _, heap_new w _, by simp, by unfold maxLen; omega, by simp [madeCells], ?_⟩⟩, (Keeps.refl Nil w).alloc _⟩
  apply List.ext_getElem?
  intro i
  rw [cellsU_get, List.length_replicate, List.getElem?_replicate]
  show (List.take (n * 1) _)[i]? = _
  rw [Nat.mul_one]
  by_cases hi : i < n
  · rw [List.getElem?_take_of_lt hi, if_pos hi]
    simpa using made_get (.int .u64 0) n i hi
  · rw [if_neg hi, List.getElem?_eq_none (by simp; omega)]; rfl

set_option maxHeartbeats 1000000 in
theorem rNew_no (w : World) (size : UInt64) (h : mayB size = false) (x : Int) (hx : x = (size.toNat : Int)) :
    Calls Try.prog 96 #[.int .u64 x] w fun e w' => e = .returned (.slice none 0 0) ∧ w = w' := by
  have RM := Lib.hid (rMay_any size x hx w)
  rw [h] at RM
  clear h hx
  go_enter Try.func96, Try.ntmps96
  go_wp2_with fail
  refine RM.out.mono ?_
  rintro e w' ⟨rfl, rfl⟩
  go_wp2_with fail
  go_ret
  exact ⟨rfl, rfl⟩

theorem list_same {α : Type} {l m : List α} (hl : l.length = m.length) (h : ∀ j, j < l.length → l[j]? = m[j]?) : l = m := by
  apply List.ext_getElem?
  intro j
  by_cases hj : j < l.length
  · exact h j hj
  · rw [List.getElem?_eq_none (by omega), List.getElem?_eq_none (by omega)]

set_option maxRecDepth 100000 in
set_option maxHeartbeats 1000000 in
/-- Nums: are two lists the same? -/
theorem Nums_any {S S2 : Nat → Prop} {w : World} {v v2 : Value} {l l2 : List UInt64} (h : View kU S w v l) (h2 : View kU S2 w v2 l2) :
    Calls Try.prog 29 #[v, v2] w fun e w' => e = .returned (.bool (decide (l = l2))) ∧ Keeps Nil w w' := by
  by_cases hlen : l.length = l2.length
  · by_cases hp : 0 < l.length
    · obtain ⟨b, o, cap, rfl, hc, hm, hb, _, hcell⟩ := h.pos hp
      obtain ⟨b2, o2, cap2, rfl, hc2, hm2, hb2, _, hcell2⟩ := h2.pos (by omega)
      clear h h2
      obtain ⟨N, hN⟩ : ∃ N, N = l.length := ⟨_, rfl⟩
      rw [← hlen, ← hN]
      have hNm : N ≤ 9223372036854775807 := by unfold maxLen at hm; omega
      have HC : Hid (∀ i, i < N → w.cell? ⟨b, o + i, none⟩ = some (.int .u64 ↑(l[i]?.getD 0).toNat)) := fun i hi => View.cellU hcell i (by omega)
      have HC2 : Hid (∀ i, i < N → w.cell? ⟨b2, o2 + i, none⟩ = some (.int .u64 ↑(l2[i]?.getD 0).toNat)) := fun i hi => View.cellU hcell2 i (by omega)
      have HL := Lib.hid (And.intro hlen hN)
      clear hcell hcell2 hlen hN hc hc2 hm hm2 hp
      go_enter Try.func29, Try.ntmps29
      go_wp2_with fail
      go_loopw [5] (fun i wr => ∃ k : Nat, k ≤ N ∧ i = .int .i64 (k : Int) ∧ Keeps Nil w wr ∧ Hid (∀ j, j < k → l[j]? = l2[j]?)) (fun i _ => N - (intOf i).toNat)
      case atStart => exact ⟨0, by omega, rfl, Keeps.refl _ _, fun j hj => by omega⟩
      case round =>
        obtain ⟨k, hk, rfl, hK, HS⟩ := hrel
        by_cases hlt : k < N
        · have c1 := (hK.cell hb (fun e => e) (o + k)).trans (HC.out k hlt)
          have c2 := (hK.cell hb2 (fun e => e) (o2 + k)).trans (HC2.out k hlt)
          by_cases hd : l[k]?.getD 0 = l2[k]?.getD 0
          · have hb' : (((l[k]?.getD 0).toNat : Int) != ((l2[k]?.getD 0).toNat : Int)) = false := by rw [hd]; simp
            have HD := Lib.hid hd
            clear hd
            go_wp2_with fail
            go_quiet (fail)
            go_wp2_with fail
            go_roundw
            case rel =>
              refine ⟨k + 1, by omega, by go_num, hK.trans' ⟨rfl, rfl, rfl, Nat.le_refl _, fun _ _ _ => rfl⟩, fun j hj => ?_⟩
              by_cases e : j = k
              · subst e
                have hd := HD.out
                obtain ⟨h1, h2⟩ := HL.out
                have e1 : j < l.length := by omega
                have e2 : j < l2.length := by omega
                simp only [List.getElem?_eq_getElem e1, List.getElem?_eq_getElem e2, Option.getD_some] at hd ⊢
                rw [hd]
              · exact HS.out j (by omega)
            case measure => simp [intOf]; omega
          · have hb' : (((l[k]?.getD 0).toNat : Int) != ((l2[k]?.getD 0).toNat : Int)) = true := by
              rw [bne_iff_ne]; intro e; exact hd (UInt64.toNat_inj.1 (by omega))
            have HD := Lib.hid hd
            clear hd
            go_wp2_with fail
            go_quiet (fail)
            go_wp2_with fail
            go_ret
            have hne : l ≠ l2 := fun e => HD.out (by rw [e])
            exact ⟨by simp [hne], hK.trans' ⟨rfl, rfl, rfl, Nat.le_refl _, fun _ _ _ => rfl⟩⟩
        · go_wp2_with fail
          go_ret
          obtain ⟨h1, h2⟩ := HL.out
          have he : l = l2 := list_same h1 (fun j hj => HS.out j (by omega))
          exact ⟨by simp [he], hK⟩
    · obtain ⟨a, cap, rfl, _⟩ := h.val
      obtain ⟨a2, cap2, rfl, _⟩ := h2.val
      have e1 : l = [] := List.eq_nil_of_length_eq_zero (by omega)
      have e2 : l2 = [] := List.eq_nil_of_length_eq_zero (by omega)
      subst e1 e2
      clear h h2 hlen hp
      go_enter Try.func29, Try.ntmps29
      go_wp2_with fail
      go_loopw [5] (fun i wr => i = .int .i64 0 ∧ w = wr) (fun _ _ => 0)
      case atStart => exact ⟨rfl, rfl⟩
      case round =>
        obtain ⟨rfl, rfl⟩ := hrel
        go_wp2_with fail
        go_ret
        exact ⟨by simp, Keeps.refl _ _⟩
  · obtain ⟨a, cap, rfl, _⟩ := h.val
    obtain ⟨a2, cap2, rfl, _⟩ := h2.val
    have hb' : ((l.length : Int) != (l2.length : Int)) = true := by rw [bne_iff_ne]; omega
    have HL := Lib.hid hlen
    clear h h2 hlen
    go_enter Try.func29, Try.ntmps29
    go_wp2_with fail
    go_ret
    have hne : l ≠ l2 := fun e => HL.out (by rw [e])
    exact ⟨by simp [hne], Keeps.refl _ _⟩

end Go.Proofs.Ytccllkgaakmdhaa
