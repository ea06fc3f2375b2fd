/- carracklaw04.HeadAgain. -/
import Derived.Test.YtccllkgaakmdhaaWHChecks
namespace Go.Proofs.Ytccllkgaakmdhaa
open Go.RowKit

def againW (ws : List UInt64) (size : UInt64) : List UInt64 := if fitsN size 4800 then fmtW 600 size else ws
theorem againW_yes {ws : List UInt64} {size : UInt64} (h : fitsN size 4800 = true) : againW ws size = fmtW 600 size := if_pos h
theorem againW_no {ws : List UInt64} {size : UInt64} (h : fitsN size 4800 = false) : againW ws size = ws := if_neg (by rw [h]; decide)
theorem againW_length {ws : List UInt64} (h : ws.length = 600) (size : UInt64) : (againW ws size).length = 600 := by unfold againW; split <;> simp [fmtW_length, h]
theorem Format_again {w : World} {p q : Nat} {ws : List UInt64} (h : SegAt w p q ws) (hl : ws.length = 600) (size : UInt64) (x : Int) (hx : x = (size.toNat : Int)) :
    Calls Try.prog 39 #[.pointer (some ⟨p, 0, none⟩), .int .u64 x] w fun e w' => e = .returned (.int .i64 (formE size)) ∧ SegAt w' p q (againW ws size) ∧ Keeps (fun k => k = q) w w' := by
  cases hf : fitsN size 4800 with
  | true => exact (Format_yes h size x hx (by rw [hl]; exact hf)).mono fun e w' ⟨h1, h2, h3⟩ => ⟨by rw [h1, formE_yes hf], by rw [hl] at h2; rw [againW_yes hf]; exact h2, h3⟩
  | false => exact (Format_no h size x hx (by rw [hl]; exact hf)).mono fun e w' ⟨h1, h2⟩ => ⟨by rw [h1, formE_no hf], by rw [againW_no hf]; exact h.keeps h2 (fun e => e) (fun e => e), h2.of_nil⟩
theorem rFormat_4800 (w : World) (size : UInt64) (y : Int) (hy : y = (size.toNat : Int)) :
    Calls Try.prog 40 #[.int .u64 4800, .int .u64 y] w fun e w' => ∃ v, e = .returned (.tuple #[v, .int .i64 (formE size)]) ∧ Own kU w' w.heap.size v (formW size) ∧ Keeps Nil w w' := by
  cases hf : fitsN size 4800 with
  | true =>
    refine (rFormat_yes w 4800 size mayB_4800 hf 4800 y (by rfl) hy).mono ?_
    rintro e w' ⟨v, rfl, ho, k⟩
    have ho' : Own kU w' w.heap.size v (fmtR 600 size) := ho
    exact ⟨v, by rw [formE_yes hf], by rw [formW_yes hf, fmt_same (n := 600) hf]; exact ho', k⟩
  | false =>
    refine (rFormat_odd w 4800 size mayB_4800 hf 4800 y (by rfl) hy).mono ?_
    rintro e w' ⟨v, rfl, ho, k⟩
    exact ⟨v, by rw [formE_no hf], by rw [formW_no hf]; exact ho, k⟩

set_option maxRecDepth 100000 in
set_option maxHeartbeats 4000000 in
theorem hagain_any {w : World} {vl : Value} {l : List Put} (a b : UInt64) (h : Look kP w vl l) : Calls Try.prog 12 #[vl, .agg #[.int .u64 (a.toNat : Int), .int .u64 (b.toNat : Int)]] w fun e w' => e = .returned (.bool true) ∧ Keeps Nil w w' := by
  obtain ⟨al, lcap, rfl, hlm⟩ := h.val
  obtain ⟨n, hn⟩ : ∃ n, n = l.length := ⟨_, rfl⟩
  have hnm : n ≤ 9223372036854775807 := by unfold maxLen at hlm; omega
  rw [← hn]
  obtain ⟨B, hB⟩ : ∃ B, B = w.heap.size := ⟨_, rfl⟩
  obtain ⟨wB, hwB⟩ : ∃ wB, wB = w.alloc (.cells #[.int .u64 (a.toNat : Int), .int .u64 (b.toNat : Int)] 64) := ⟨_, rfl⟩
  have hKB : Keeps Nil w wB := by rw [hwB]; exact (Keeps.refl Nil _).alloc _
  have hcB : wB.heap[B]? = some (.cells #[.int .u64 (a.toNat : Int), .int .u64 (b.toNat : Int)] 64 (0, 0)) := by rw [hwB, hB]; exact heap_new _ _
  have CB : Hid (∀ w', Keeps Nil wB w' → w'.cell? ⟨B, 0, none⟩ = some (.int .u64 (a.toNat : Int)) ∧ w'.cell? ⟨B, 1, none⟩ = some (.int .u64 (b.toNat : Int))) := fun w' k => row2 (k.at hcB (fun e => e))
  have HBl := Lib.hid (getElem?_lt hcB)
  have HW := Lib.hid hwB
  have HB := Lib.hid hB
  have H := Lib.hid (And.intro (h.keeps_nil hKB) (And.intro hn hKB))
  clear h hn hlm hKB hcB hwB hB
  go_enter Try.func12, Try.ntmps12
  go_wp2_with fail
  rw [← HW.out, ← HB.out]
  refine (awake4 _).mono ?_
  rintro e w1 ⟨rfl, k1⟩
  have H1 := Lib.hid k1
  clear k1
  go_wp2_with fail
  refine (New_4800 w1).mono ?_
  rintro e w2 ⟨p, q, rfl, hs, k2, hp, hq⟩
  have H2 := Lib.hid (And.intro hs (And.intro (H1.out.trans' k2) (And.intro (Nat.le_trans H1.out.size hp) (Nat.le_trans H1.out.size hq))))
  clear hs k2 hp hq
  go_wp2_with fail
  go_loopw [7] (fun i wr => ∃ k : Nat, k ≤ n ∧ k ≤ 100 ∧ i = .int .i64 (k : Int) ∧ Hid (SegAt wr p q (applyW (List.replicate 600 0) (l.take k)) ∧ Keeps Nil wB wr)) (fun i _ => 160 - (intOf i).toNat)
  case atStart => exact ⟨0, by omega, by omega, rfl, H2.out.1, H2.out.2.1⟩
  case round =>
    obtain ⟨j, hj, hj2, rfl, HH⟩ := hrel
    by_cases hlt : j < n ∧ j < 100
    · obtain ⟨hl1, hl2⟩ := hlt
      have hll : j < l.length := by have := H.out.2.1; omega
      obtain ⟨x, hx⟩ : ∃ x, l[j]? = some x := ⟨l[j]'hll, by simp⟩
      obtain ⟨b2, o2, cap3, hvv, _, _, hbl, _, hcell⟩ := H.out.1.pos (by omega)
      simp only [Value.slice.injEq] at hvv
      obtain ⟨rfl, _, rfl⟩ := hvv
      obtain ⟨y1, y2⟩ := View.cellP hcell j x hx
      have hKr := HH.out.2
      have y1' := (hKr.cell hbl (fun e => e) _).trans y1
      have y2' := (hKr.cell hbl (fun e => e) _).trans y2
      have HX := Lib.hid hx
      have HR := Lib.hid (Store_any (HH.out.1.keeps (keeps_drew _) (fun e => e) (fun e => e)) x.1 x.2 _ _ rfl rfl)
      clear hcell hx y1 y2 hKr hll
      go_wp2_with fail
      go_still_tail 11, (by kernel_rfl)
      change wpList _ _ _ _ _ (World.drew _)
      go_wp2_with fail
      refine HR.out.mono ?_
      rintro e w6 ⟨rfl, s6, k6⟩
      have H6 := Lib.hid (And.intro s6 ((HH.out.2.trans' (keeps_drew _)).trans k6 (fun i hi e => by have := H2.out.2.2.2; omega) : Keeps Nil wB w6))
      clear s6 k6 y1' y2'
      go_wp2_with fail
      go_roundw
      case rel => exact ⟨j + 1, by omega, by omega, by go_num, by rw [applyW_take HX.out]; exact H6.out.1, H6.out.2⟩
      case measure => simp [intOf]; omega
    · obtain ⟨ws, hws⟩ : ∃ ws, ws = applyW (List.replicate 600 0) (l.take j) := ⟨_, rfl⟩
      have hwl : ws.length = 600 := by rw [hws, applyW_length]; simp
      have H3 := HH.out
      rw [← hws] at H3
      have H3' := Lib.hid H3
      have HWL := Lib.hid hwl
      have hcut : (¬ j < n ∧ 0 ≤ j) ∨ (j < n ∧ ¬ j < 100) := by omega
      clear hws hwl H3 HH hlt
      cases hfa : fitsN a 4800 with
      | false =>
        have HA := Lib.hid hfa
        clear hfa
        rcases hcut with ⟨hn1, hn2⟩ | ⟨hn1, hn2⟩
        all_goals
          go_wp2_with fail
          refine (Copy_some H3'.out.1).mono ?_
          rintro e w7 ⟨p', q', rfl, hp', hq', hs', k7⟩
          obtain ⟨c0, c1⟩ := CB.out _ (H3'.out.2.trans' k7)
          have H7 := Lib.hid (And.intro (H3'.out.1.keeps k7 (fun e => e) (fun e => e)) (And.intro hs' (And.intro (H3'.out.2.trans' k7) (And.intro hp' hq'))))
          clear k7 hs' hp' hq'
          go_wp2_with fail
          refine (Format_again H7.out.1 HWL.out a _ rfl).mono ?_
          rintro e w8 ⟨rfl, s8, k8⟩
          have hf2 : formE a = 2 := formE_no HA.out
          have hw2 : againW ws a = ws := againW_no HA.out
          rw [hw2] at s8
          rw [hf2]
          have hK8 : Keeps Nil wB w8 := H7.out.2.2.1.trans k8 (fun i hi e => by have := H2.out.2.2.2; omega)
          have s8' := H7.out.2.1.keeps k8 (by have := H7.out.2.2.2.1; have := H3'.out.1.lt; omega) (by have := H7.out.2.2.2.2; have := H3'.out.1.lt; omega)
          clear c0 c1
          obtain ⟨c0, c1⟩ := CB.out _ hK8
          have H8 := Lib.hid (And.intro s8 (And.intro s8' hK8))
          clear hf2 hw2 s8 k8 hK8 s8'
          go_wp2_with fail
          refine (rFits_any _ a 4800 _ _ rfl (by rfl)).mono ?_
          rintro e w' ⟨rfl, rfl⟩
          rw [HA.out]
          go_wp2_with fail
          refine (Diff_any H8.out.1 H8.out.2.1 rfl).mono ?_
          rintro e w9 ⟨v, rfl, ho, k9⟩
          rw [diffL_self] at ho
          obtain ⟨ae, ce, rfl⟩ := Own.empty ho
          have H9 := Lib.hid (H8.out.2.2.trans' k9)
          clear ho k9
          go_wp2_with fail
          go_ret
          exact ⟨rfl, H.out.2.2.trans' H9.out⟩
      | true =>
        have HA := Lib.hid hfa
        clear hfa
        obtain ⟨fb, hfb⟩ : ∃ fb, fb = fitsN b 4800 := ⟨_, rfl⟩
        have HFB := Lib.hid hfb
        have hfe : (formE b == 0) = fb := by rw [hfb]; unfold formE; cases fitsN b 4800 <;> rfl
        clear hfb
        rcases hcut with ⟨hn1, hn2⟩ | ⟨hn1, hn2⟩
        all_goals
          go_wp2_with fail
          refine (Copy_some H3'.out.1).mono ?_
          rintro e w7 ⟨p', q', rfl, hp', hq', hs', k7⟩
          obtain ⟨c0, c1⟩ := CB.out _ (H3'.out.2.trans' k7)
          have H7 := Lib.hid (And.intro (H3'.out.1.keeps k7 (fun e => e) (fun e => e)) (H3'.out.2.trans' k7))
          clear k7 hs' hp' hq'
          go_wp2_with fail
          refine (Format_again H7.out.1 HWL.out a _ rfl).mono ?_
          rintro e w8 ⟨rfl, s8, k8⟩
          have hf2 : formE a = 0 := formE_yes HA.out
          have hw2 : againW ws a = fmtW 600 a := againW_yes HA.out
          rw [hw2] at s8
          rw [hf2]
          have hK8 : Keeps Nil wB w8 := H7.out.2.trans k8 (fun i hi e => by have := H2.out.2.2.2; omega)
          clear c0 c1
          obtain ⟨c0, c1⟩ := CB.out _ hK8
          have H8 := Lib.hid (And.intro s8 hK8)
          clear hf2 hw2 s8 k8 hK8
          go_wp2_with fail
          refine (rFits_any _ a 4800 _ _ rfl (by rfl)).mono ?_
          rintro e w' ⟨rfl, rfl⟩
          rw [HA.out]
          go_wp2_with fail
          refine (rFormat_4800 _ a _ rfl).mono ?_
          rintro e w9 ⟨va, rfl, hoa, k9⟩
          rw [formW_yes HA.out] at hoa
          clear c0 c1
          obtain ⟨c0, c1⟩ := CB.out _ (H8.out.2.trans' k9)
          have H9 := Lib.hid (And.intro (H8.out.1.keeps k9 (fun e => e) (fun e => e)) (And.intro (H8.out.2.trans' k9) (And.intro hoa H8.out.1.lt.2)))
          clear k9 hoa
          go_wp2_with fail
          refine (Format_again H9.out.1 (fmtW_length 600 a) b _ rfl).mono ?_
          rintro e w10 ⟨rfl, s10, k10⟩
          have hK10 : Keeps Nil wB w10 := H9.out.2.1.trans k10 (fun i hi e => by have := H2.out.2.2.2; omega)
          have hoa10 := H9.out.2.2.1.keeps k10 (fun g hg _ e => by have := H9.out.2.2.2; omega)
          clear c0 c1
          obtain ⟨c0, c1⟩ := CB.out _ hK10
          have H10 := Lib.hid (And.intro s10 (And.intro hK10 hoa10))
          clear s10 k10 hK10 hoa10
          go_wp2_with fail
          refine (rFormat_4800 _ b _ rfl).mono ?_
          rintro e w11 ⟨vb, rfl, hob, k11⟩
          clear c0 c1
          obtain ⟨c0, c1⟩ := CB.out _ (H10.out.2.1.trans' k11)
          have H11 := Lib.hid (And.intro (H10.out.1.keeps k11 (fun e => e) (fun e => e)) (And.intro (H10.out.2.1.trans' k11) (And.intro (H10.out.2.2.keeps_nil k11) hob)))
          clear k11 hob
          go_wp2_with fail
          refine (rFits_any _ b 4800 _ _ rfl (by rfl)).mono ?_
          rintro e w' ⟨rfl, rfl⟩
          rw [← HFB.out]
          cases fb with
          | true =>
            have hw2 : againW (fmtW 600 a) b = formW b := by rw [againW_yes HFB.out.symm, formW_yes HFB.out.symm]
            have H12 := H11.out
            rw [hw2] at H12
            have H12' := Lib.hid H12
            clear H12 hw2
            go_wp2_with fail
            refine (rFits_any _ b 4800 _ _ rfl (by rfl)).mono ?_
            rintro e w' ⟨rfl, rfl⟩
            rw [← HFB.out]
            go_wp2_with fail
            refine (words4 H12'.out.1 (by rw [formW_length]; decide)).mono ?_
            rintro e w12 ⟨v12, rfl, ho12, k12⟩
            have H13 := Lib.hid (And.intro (H12'.out.2.2.2.keeps_nil k12) (And.intro ho12 (H12'.out.2.1.trans' k12)))
            clear ho12 k12 c0 c1
            go_wp2_with fail
            refine (Nums_any (S := Nil) (S2 := Nil) (H13.out.2.1.view (fun _ _ e => e)) (H13.out.1.view (fun _ _ e => e))).mono ?_
            rintro e w13 ⟨rfl, k13⟩
            rw [decide_eq_true (rfl : formW b = formW b)]
            have H14 := Lib.hid (H13.out.2.2.trans' k13)
            clear k13
            go_wp2_with fail
            go_ret
            exact ⟨rfl, H.out.2.2.trans' H14.out⟩
          | false =>
            have hw2 : againW (fmtW 600 a) b = fmtW 600 a := againW_no HFB.out.symm
            have H12 := H11.out
            rw [hw2] at H12
            have H12' := Lib.hid H12
            clear H12 hw2
            go_wp2_with fail
            refine (rFits_any _ b 4800 _ _ rfl (by rfl)).mono ?_
            rintro e w' ⟨rfl, rfl⟩
            rw [← HFB.out]
            go_wp2_with fail
            refine (words4 H12'.out.1 (by rw [fmtW_length]; decide)).mono ?_
            rintro e w12 ⟨v12, rfl, ho12, k12⟩
            have H13 := Lib.hid (And.intro (H12'.out.2.2.1.keeps_nil k12) (And.intro ho12 (H12'.out.2.1.trans' k12)))
            clear ho12 k12 c0 c1
            go_wp2_with fail
            refine (Nums_any (S := Nil) (S2 := Nil) (H13.out.2.1.view (fun _ _ e => e)) (H13.out.1.view (fun _ _ e => e))).mono ?_
            rintro e w13 ⟨rfl, k13⟩
            rw [decide_eq_true (rfl : fmtW 600 a = fmtW 600 a)]
            have H14 := Lib.hid (H13.out.2.2.trans' k13)
            clear k13
            go_wp2_with fail
            go_ret
            exact ⟨rfl, H.out.2.2.trans' H14.out⟩
end Go.Proofs.Ytccllkgaakmdhaa
