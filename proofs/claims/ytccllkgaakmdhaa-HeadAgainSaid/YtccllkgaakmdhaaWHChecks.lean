/- carracklaw04.HeadChecks. -/
import Derived.Test.YtccllkgaakmdhaaHFormed
namespace Go.Proofs.Ytccllkgaakmdhaa
open Go.RowKit

theorem take_cap {α : Type} (l : List α) (k c : Nat) (hk : k ≤ l.length) (hc : k ≤ c) (h : ¬ (k < l.length ∧ k < c)) : l.take k = l.take c := by
  by_cases e : k = c
  · rw [e]
  · have : k = l.length := by omega
    rw [List.take_of_length_le (by omega), List.take_of_length_le (by omega)]

set_option maxRecDepth 100000 in
set_option maxHeartbeats 2000000 in
theorem hchecks_any {w : World} {vl : Value} {l : List Put} (size : UInt64) (h : Look kP w vl l) : Calls Try.prog 13 #[.int .u64 (size.toNat : Int), vl] w fun e w' => e = .returned (.bool true) ∧ Keeps Nil w w' := by
  obtain ⟨a, lcap, rfl, hlm⟩ := h.val
  obtain ⟨ws, hws⟩ : ∃ ws, ws = formW size := ⟨_, rfl⟩
  have hwl : ws.length = 600 := by rw [hws]; exact formW_length size
  obtain ⟨n, hn⟩ : ∃ n, n = l.length := ⟨_, rfl⟩
  have hnm : n ≤ 9223372036854775807 := by unfold maxLen at hlm; omega
  rw [← hn]
  have H := Lib.hid (And.intro h (And.intro hws (And.intro hwl hn)))
  clear h hws hwl hn hlm
  go_enter Try.func13, Try.ntmps13
  go_wp2_with fail
  refine (awake4 _).mono ?_
  rintro e w1 ⟨rfl, k1⟩
  have H1 := Lib.hid k1
  clear k1
  go_wp2_with fail
  refine (New_4800 w1).mono ?_
  rintro e w2 ⟨p, q, rfl, hs, k2, hp, hq⟩
  have H2 := Lib.hid (And.intro hs (And.intro H1.out (And.intro k2 (And.intro hp hq))))
  clear hs k2 hp hq
  go_wp2_with fail
  refine (Format_form H2.out.1 size _ rfl).mono ?_
  rintro e w3 ⟨rfl, hs, k3⟩
  rw [← H.out.2.1] at hs
  have H3 := Lib.hid (And.intro hs ((H2.out.2.1.trans' H2.out.2.2.1).trans k3 (fun i hi e => by have := H2.out.2.1.size; have := H2.out.2.2.2.2; omega) : Keeps Nil w w3))
  clear k3 hs
  go_wp2_with fail
  refine (H3.out.1.live H3.out.2 (by have := H2.out.2.1.size; have := H2.out.2.2.2.1; omega) (by have := H2.out.2.1.size; have := H2.out.2.2.2.2; omega)).mono ?_
  rintro e w4 ⟨t, rfl, L, _⟩
  have H4 := Lib.hid L
  clear L
  go_wp2_with fail
  go_loopw [8] (fun i wr => ∃ k : Nat, k ≤ n ∧ k ≤ 40 ∧ i = .int .i64 (k : Int) ∧ Hid (Live w wr p t (thP ws (l.take k)) ws Top)) (fun i _ => 60 - (intOf i).toNat)
  case atStart => exact ⟨0, by omega, by omega, rfl, H4.out⟩
  case round =>
    obtain ⟨j, hj, hj2, rfl, HH⟩ := hrel
    by_cases hlt : j < n ∧ j < 40
    · obtain ⟨hl1, hl2⟩ := hlt
      have hll : j < l.length := by have := H.out.2.2.2; omega
      obtain ⟨x, hx⟩ : ∃ x, l[j]? = some x := ⟨l[j]'hll, by simp⟩
      obtain ⟨b2, o2, cap3, hvv, _, _, hbl, _, hcell⟩ := H.out.1.pos (by omega)
      simp only [Value.slice.injEq] at hvv
      obtain ⟨rfl, _, rfl⟩ := hvv
      obtain ⟨y1, y2⟩ := View.cellP hcell j x hx
      have hKr := HH.out.keeps
      have y1' := (hKr.cell hbl (fun e => e) _).trans y1
      have y2' := (hKr.cell hbl (fun e => e) _).trans y2
      have HX := Lib.hid hx
      have hplen : (thP ws (l.take j)).length ≤ 40 := by have := thP_length ws (l.take j); have := List.length_take_le j l; omega
      have HR := Lib.hid ((HH.out.quiet Stable.top (keeps_drew _)).store Stable.top x.1 x.2 (by omega) _ _ rfl rfl)
      clear hcell hx y1 y2 hKr hplen hll HH
      go_wp2_with fail
      go_still_tail 11, (by kernel_rfl)
      change wpList _ _ _ _ _ (World.drew _)
      go_wp2_with fail
      refine HR.out.mono ?_
      rintro e w6 ⟨rfl, L6⟩
      have H6 := Lib.hid L6
      clear L6 y1' y2'
      go_wp2_with fail
      go_roundw
      case rel => exact ⟨j + 1, by omega, by omega, by go_num, by rw [thP_take HX.out]; exact H6.out⟩
      case measure => simp [intOf]; omega
    · have hej : l.take j = l.take 40 := take_cap l j 40 (by have := H.out.2.2.2; omega) hj2 (by have := H.out.2.2.2; omega)
      obtain ⟨P, hP⟩ : ∃ P, P = thP ws (l.take 40) := ⟨_, rfl⟩
      have L := HH.out
      rw [hej, ← hP] at L
      have hg : GoodP ws P := by rw [hP]; exact good_thP _ _
      have ht : told P = P := by rw [hP]; exact told_thP _ _
      have hpl : P.length ≤ 40 := by rw [hP]; have := thP_length ws (l.take 40); have := List.length_take_le 40 l; omega
      have hwl := H.out.2.2.1
      have hce : chkE 4800 (txLoad ws P) = chkE (8 * (applyW ws P).length) (loadV (applyW ws P)) := by
        have : txLoad ws P = loadV (applyW ws P) := funext fun off => (load_applied (by omega) hg off).symm
        rw [this, applyW_length, hwl]
      have T := L.tells
      rw [hwl] at T
      obtain ⟨c, hc⟩ : ∃ c, c = chkE 4800 (txLoad ws P) := ⟨_, rfl⟩
      have HL := Lib.hid (And.intro L (And.intro T (And.intro ht (And.intro hpl (And.intro hwl (And.intro hce hc))))))
      have hcut : (¬ j < n ∧ 0 ≤ j) ∨ (j < n ∧ ¬ j < 40) := by omega
      clear L T hg ht hpl hwl hce hc hej hP HH hlt
      rcases hcut with ⟨hn1, hn2⟩ | ⟨hn1, hn2⟩
      all_goals
        go_wp2_with fail
        refine (hCheck_any HL.out.2.1).mono ?_
        rintro e w6 ⟨rfl, k6⟩
        rw [← HL.out.2.2.2.2.2.2]
        have H6 := Lib.hid k6
        clear k6
        go_wp2_with fail
        refine ((HL.out.1.quiet Stable.top H6.out).apply Stable.top (by have := HL.out.2.2.2.1; omega)).mono ?_
        rintro e w7 ⟨rfl, L7⟩
        rw [HL.out.2.2.1] at L7
        have H7 := Lib.hid (And.intro L7.segAt L7.keeps)
        clear L7
        go_wp2_with fail
        obtain ⟨q7, hs7⟩ := H7.out.1
        have HS := Lib.hid (words4 hs7 (by rw [applyW_length, HL.out.2.2.2.2.1]; decide))
        clear hs7
        refine HS.out.mono ?_
        rintro e w8 ⟨v, rfl, ho, k8⟩
        have hlen : (applyW ws P).length ≤ 131072 := by rw [applyW_length, HL.out.2.2.2.2.1]; decide
        have HC := Lib.hid (rCheck_any (ho.view (S := Nil) (fun _ _ e => e)) hlen)
        have H8 := Lib.hid (H7.out.2.trans' k8)
        clear ho k8 hlen
        go_wp2_with fail
        refine HC.out.mono ?_
        rintro e w9 ⟨rfl, k9⟩
        rw [← HL.out.2.2.2.2.2.1, ← HL.out.2.2.2.2.2.2]
        have H9 := Lib.hid (H8.out.trans' k9)
        clear k9
        go_wp2_with fail
        go_ret
        exact ⟨by simp, H9.out⟩
end Go.Proofs.Ytccllkgaakmdhaa
