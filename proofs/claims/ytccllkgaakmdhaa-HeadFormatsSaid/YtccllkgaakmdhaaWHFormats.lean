/- carracklaw04.HeadFormats. -/
import Derived.Test.YtccllkgaakmdhaaLH
namespace Go.Proofs.Ytccllkgaakmdhaa
open Go.RowKit

set_option maxRecDepth 100000 in
set_option maxHeartbeats 2000000 in
theorem hformats_any {w : World} (all size : UInt64) : Calls Try.prog 5 #[.int .u64 (all.toNat : Int), .int .u64 (size.toNat : Int)] w fun e w' => e = .returned (.bool true) ∧ Keeps Nil w w' := by
  by_cases hbig : all.toNat ≤ 16000
  · have hbig' : ¬ ((16000 : Int) < (all.toNat : Int)) := by omega
    cases hm : mayB all with
    | false =>
      have HM := Lib.hid hm
      clear hm
      go_enter Try.func5, Try.ntmps5
      go_wp2_with fail
      refine (awake4 _).mono ?_
      rintro e w1 ⟨rfl, k1⟩
      have H1 := Lib.hid k1
      clear k1
      go_wp2_with fail
      refine (New_no w1 all HM.out _ rfl).mono ?_
      rintro e w' ⟨rfl, rfl⟩
      go_wp2_with fail
      refine (Format_nil _ _).mono ?_
      rintro e w2 ⟨rfl, k2⟩
      have H2 := Lib.hid (H1.out.trans' k2)
      clear k2
      go_wp2_with fail
      refine (rFormat_no w2 all HM.out _ _ rfl).mono ?_
      rintro e w' ⟨rfl, rfl⟩
      go_wp2_with fail
      refine (words4_nil w2).mono ?_
      rintro e w3 ⟨rfl, k3⟩
      have H3 := Lib.hid (H2.out.trans' k3)
      clear k3
      go_wp2_with fail
      refine (Nums_any (S := Nil) (S2 := Nil) (l := []) (l2 := []) (.inl ⟨rfl, rfl⟩) (.inl ⟨rfl, rfl⟩)).mono ?_
      rintro e w4 ⟨rfl, k4⟩
      have H4 := Lib.hid (H3.out.trans' k4)
      clear k4
      go_wp2_with fail
      go_ret
      exact ⟨rfl, H4.out⟩
    | true =>
      have hn : 8 * (all.toNat / 8) = all.toNat ∧ all.toNat / 8 ≤ 2000 := by simp [mayB] at hm; omega
      obtain ⟨n, hnn⟩ : ∃ n, n = all.toNat / 8 := ⟨_, rfl⟩
      rw [← hnn] at hn
      have HN := Lib.hid (And.intro hm (And.intro hnn hn))
      clear hm hn hnn
      cases hf : fitsN size (8 * n) with
      | false =>
        have HF := Lib.hid hf
        clear hf
        go_enter Try.func5, Try.ntmps5
        go_wp2_with fail
        refine (awake4 _).mono ?_
        rintro e w1 ⟨rfl, k1⟩
        have H1 := Lib.hid k1
        clear k1
        go_wp2_with fail
        refine (New_yes w1 all HN.out.1 _ rfl).mono ?_
        rintro e w2 ⟨rfl, hs, k2, hsz⟩
        rw [← HN.out.2.1] at hs
        have H2 := Lib.hid (And.intro hs (H1.out.trans' k2))
        clear hs k2 hsz
        go_wp2_with fail
        refine (Format_no H2.out.1 size _ rfl (by rw [List.length_replicate]; exact HF.out)).mono ?_
        rintro e w3 ⟨rfl, k3⟩
        have H3 := Lib.hid (And.intro (H2.out.1.keeps k3 (fun e => e) (fun e => e)) (H2.out.2.trans' k3))
        clear k3
        go_wp2_with fail
        refine (rFormat_odd w3 all size HN.out.1 (by rw [← HN.out.2.2.1]; exact HF.out) _ _ rfl rfl).mono ?_
        rintro e w4 ⟨v, rfl, ho, k4⟩
        rw [← HN.out.2.1] at ho
        have H4 := Lib.hid (And.intro (H3.out.1.keeps k4 (fun e => e) (fun e => e)) (And.intro ho (H3.out.2.trans' k4)))
        clear k4 ho
        go_wp2_with fail
        refine (words4 H4.out.1 (by rw [List.length_replicate]; exact HN.out.2.2.2)).mono ?_
        rintro e w5 ⟨v5, rfl, ho5, k5⟩
        have H5 := Lib.hid (And.intro (H4.out.2.1.keeps_nil k5) (And.intro ho5 (H4.out.2.2.trans' k5)))
        clear k5 ho5
        go_wp2_with fail
        refine (Nums_any (S := Nil) (S2 := Nil) (H5.out.2.1.view (fun _ _ e => e)) (H5.out.1.view (fun _ _ e => e))).mono ?_
        rintro e w6 ⟨rfl, k6⟩
        rw [decide_eq_true (rfl : List.replicate n (0 : UInt64) = List.replicate n 0)]
        have H6 := Lib.hid (H5.out.2.2.trans' k6)
        clear k6
        go_wp2_with fail
        go_ret
        exact ⟨rfl, H6.out⟩
      | true =>
        have HF := Lib.hid hf
        clear hf
        go_enter Try.func5, Try.ntmps5
        go_wp2_with fail
        refine (awake4 _).mono ?_
        rintro e w1 ⟨rfl, k1⟩
        have H1 := Lib.hid k1
        clear k1
        go_wp2_with fail
        refine (New_yes w1 all HN.out.1 _ rfl).mono ?_
        rintro e w2 ⟨rfl, hs, k2, hsz⟩
        rw [← HN.out.2.1] at hs
        have H2 := Lib.hid (And.intro hs (And.intro (H1.out.trans' k2) (And.intro H1.out k2)))
        clear hs k2 hsz
        go_wp2_with fail
        refine (Format_yes H2.out.1 size _ rfl (by rw [List.length_replicate]; exact HF.out)).mono ?_
        rintro e w3 ⟨rfl, hs, k3⟩
        rw [List.length_replicate] at hs
        have H3 := Lib.hid (And.intro hs (H2.out.2.1.trans k3 (fun i hi e => by have := H2.out.2.2.1.size; omega) : Keeps Nil w w3))
        clear k3 hs
        go_wp2_with fail
        refine (rFormat_yes w3 all size HN.out.1 (by rw [← HN.out.2.2.1]; exact HF.out) _ _ rfl rfl).mono ?_
        rintro e w4 ⟨v, rfl, ho, k4⟩
        rw [← HN.out.2.1, ← fmt_same HF.out] at ho
        have H4 := Lib.hid (And.intro (H3.out.1.keeps k4 (fun e => e) (fun e => e)) (And.intro ho (H3.out.2.trans' k4)))
        clear k4 ho
        go_wp2_with fail
        refine (words4 H4.out.1 (by rw [fmtW_length]; exact HN.out.2.2.2)).mono ?_
        rintro e w5 ⟨v5, rfl, ho5, k5⟩
        have H5 := Lib.hid (And.intro (H4.out.2.1.keeps_nil k5) (And.intro ho5 (H4.out.2.2.trans' k5)))
        clear k5 ho5
        go_wp2_with fail
        refine (Nums_any (S := Nil) (S2 := Nil) (H5.out.2.1.view (fun _ _ e => e)) (H5.out.1.view (fun _ _ e => e))).mono ?_
        rintro e w6 ⟨rfl, k6⟩
        rw [decide_eq_true (rfl : fmtW n size = fmtW n size)]
        have H6 := Lib.hid (H5.out.2.2.trans' k6)
        clear k6
        go_wp2_with fail
        go_ret
        exact ⟨rfl, H6.out⟩
  · have hbig' : ((16000 : Int) < (all.toNat : Int)) := by omega
    go_enter Try.func5, Try.ntmps5
    go_wp2_with fail
    refine (awake4 _).mono ?_
    rintro e w1 ⟨rfl, k1⟩
    have H1 := Lib.hid k1
    clear k1
    go_wp2_with fail
    go_ret
    exact ⟨rfl, H1.out⟩
end Go.Proofs.Ytccllkgaakmdhaa
