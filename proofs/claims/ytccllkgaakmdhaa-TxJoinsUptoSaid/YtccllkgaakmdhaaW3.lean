/- carracklaw03.TxApplies. -/
import Derived.Test.YtccllkgaakmdhaaL3Awake
import Derived.Test.YtccllkgaakmdhaaL3Pure
import Derived.Test.YtccllkgaakmdhaaEqS
import Derived.Deep.RegionHeld3
namespace Go.Proofs.Ytccllkgaakmdhaa
open Go.RowKit

theorem Mem.words {w : World} {s t : Nat} {l : List Put} {ws : List UInt64} {S : Nat → Prop} (h : Mem w s t l ws S) (hl : ws.length = 10) :
    Calls Try.prog 30 #[.pointer (some ⟨s, 0, none⟩)] w fun e w' => ∃ v, e = .returned v ∧ Own kU w' w.heap.size v ws ∧ Keeps Nil w w' := by
  obtain ⟨q, m, tv, h1, h2, h3, h4, h5⟩ := h
  exact words3 h2 hl
theorem rApply10 {S : Nat → Prop} {w : World} {b o cap : Nat} {vP : Value} {l : List Put} {ws : List UInt64} (h : View kU S w (.slice (some ⟨b, o, none⟩) 10 cap) ws) (hl : ws.length = 10) (h2 : View kP S w vP l) (hS : ∀ k, S k → k < w.heap.size) :
    Calls Try.prog 31 #[.agg #[.slice (some ⟨b, o, none⟩) 10 cap, vP]] w fun e w' =>
      ∃ v, e = .returned v ∧ View kU S w' v (applyW ws l) ∧ Keeps Nil w w' := by
  rw [← hl] at h
  have := rApply_any h h2 hS (by omega)
  rw [hl] at this
  exact this
/-- the words' row and the document's, held against each other -/
theorem nums_same {S : Nat → Prop} {w1 w : World} {v v2 : Value} {base : Nat} {l l2 : List UInt64} (h : Own kU w1 base v l) (hK : Keeps Nil w1 w) (h2 : View kU S w v2 l2) (he : l = l2) :
    Calls Try.prog 29 #[v, v2] w fun e w' => e = .returned (.bool true) ∧ Keeps Nil w w' := by
  have := Nums_any ((h.keeps_nil hK).view (S := Nil) (fun _ _ e => e)) h2
  rw [decide_eq_true he] at this
  exact this
theorem puts_same {S : Nat → Prop} {w1 w : World} {v v2 : Value} {base : Nat} {l l2 : List Put} (h : Own kP w1 base v l) (hK : Keeps Nil w1 w) (h2 : View kP S w v2 l2) (he : l = l2) :
    Calls Try.prog 32 #[v, v2] w fun e w' => e = .returned (.bool true) ∧ Keeps Nil w w' := by
  have := Same_any ((h.keeps_nil hK).view (S := Nil) (fun _ _ e => e)) h2
  rw [decide_eq_true he] at this
  exact this

set_option maxRecDepth 100000 in
set_option maxHeartbeats 1000000 in
theorem applies_any {w : World} {v1 v2 : Value} {l k : List Put} (h1 : Look kP w v1 l) (h2 : Look kP w v2 k) :
    Calls Try.prog 3 #[v1, v2] w fun e w' => e = .returned (.bool true) ∧ Keeps Nil w w' := by
  obtain ⟨a1, c1, rfl, _⟩ := h1.val
  obtain ⟨a2, c2, rfl, _⟩ := h2.val
  have H := Lib.hid (And.intro h1 h2)
  clear h1 h2
  go_enter Try.func3, Try.ntmps3
  go_wp2_with fail
  refine (awake3 _).mono ?_
  rintro e w1 ⟨rfl, hK1⟩
  go_wp2_with fail
  refine (thought_any (H.out.1.keeps_nil hK1) (H.out.2.keeps_nil hK1)).mono ?_
  rintro e w2 ⟨s, t, b, o, cap, vP, S, rfl, hm, hv, hp, hK2, hS⟩
  obtain ⟨aP, cP, rfl, hPl⟩ := hp.val
  obtain ⟨nP, hnP⟩ : ∃ nP, nP = (thP (fillW 10 l) (k.take 40)).length := ⟨_, rfl⟩
  rw [← hnP] at hp ⊢
  have H2 := Lib.hid (And.intro hm (And.intro hv (And.intro hp hnP)))
  clear hm hv hp hnP hPl
  obtain ⟨m, hm⟩ : ∃ m, m = w2.heap.size := ⟨_, rfl⟩
  obtain ⟨w3, hw3⟩ : ∃ w3, w3 = w2.alloc (.cells #[.slice (some ⟨b, o, none⟩) 10 cap, .slice aP nP cP] 28) := ⟨_, rfl⟩
  have hK3 : Keeps Nil w2 w3 := by rw [hw3]; exact (Keeps.refl Nil w2).alloc _
  have q3 : w3.heap[m]? = some (.cells #[.slice (some ⟨b, o, none⟩) 10 cap, .slice aP nP cP] 28 (0, 0)) := by rw [hw3, hm]; exact heap_new w2 _
  have hSm : ¬ S m := fun e => by have := H2.out.1.lt e; omega
  have hm3 := H2.out.1.keeps_nil hK3
  have hlen : (thP (fillW 10 l) (k.take 40)).length < 4294967296 := by have := thP_length (fillW 10 l) (k.take 40); have := List.length_take_le 40 k; omega
  have HW := Lib.hid (And.intro hw3 hm)
  have HA := Lib.hid (hm3.apply hlen)
  have hSw : ∀ j, S j → w.heap.size ≤ j := fun j hj => Nat.le_trans hK1.size (hS j hj)
  have HS := Lib.hid (And.intro hSw hlen)
  have H3 := Lib.hid (And.intro q3 (And.intro hSm (And.intro hm3 hK3)))
  have hKw := (hK1.trans' hK2).trans' hK3
  have HKw := Lib.hid hKw
  clear hw3 hm q3 hSm hm3 hK3 hK1 hK2 hS hlen hKw hSw
  go_wp2_with fail
  rw [← HW.out.1]
  refine HA.out.mono ?_
  rintro e w4 ⟨rfl, hm4, hK4⟩
  rw [told_thP] at hm4
  obtain ⟨q3, hSm, hm3, hK3⟩ := H3.out
  have q4 := hK4.at q3 hSm
  have c0 : w4.cell? ⟨m, 0, none⟩ = some (.slice (some ⟨b, o, none⟩) 10 cap) := by simp [World.cell?, q4]
  have c1 : w4.cell? ⟨m, 1, none⟩ = some (.slice aP nP cP) := by simp [World.cell?, q4]
  rw [← HW.out.2]
  go_wp2_with fail
  obtain ⟨hS, hlen⟩ := HS.out
  have hl4 : (applyW (fillW 10 l) (thP (fillW 10 l) (k.take 40))).length = 10 := by rw [applyW_length, fillW_length]
  have hv4 := (H2.out.2.1.keeps_nil hK3).keeps hK4 (fun _ e => e)
  have hp4 := (H2.out.2.2.1.keeps_nil hK3).keeps hK4 (fun _ e => e)
  have HC := Lib.hid (Mem.words (hm4.keeps_nil (keeps_drew w4)) hl4)
  have H4 := Lib.hid (And.intro hm4 (And.intro hK4 (And.intro q4 (And.intro hv4 (And.intro hp4 hl4)))))
  have hm4lt : m < w4.drew.heap.size := getElem?_lt q4
  clear q3 hSm hm3 hK3 hm4 hK4 q4 hv4 hp4 hl4 hS hlen
  go_region_held3 (fun w' => w'.cell? ⟨m, 0, none⟩ = some (.slice (some ⟨b, o, none⟩) 10 cap) ∧ w'.cell? ⟨m, 1, none⟩ = some (.slice aP nP cP))
    (first | exact ⟨c0, c1⟩ | exact ⟨d0, d1⟩ | exact ⟨e0, e1⟩ | exact ⟨f0, f1⟩ | go_keep)
    (first
      | (go_at_call 30; refine HC.out.mono ?_; rintro e w5 ⟨v5, rfl, ho5, hK5⟩
         have d0 := (hK5.cell hm4lt (fun e => e) 0).trans c0; have d1 := (hK5.cell hm4lt (fun e => e) 1).trans c1
         have HO := Lib.hid (And.intro ho5 hK5)
         clear ho5)
      | (go_at_call 31; refine (rApply10 ((H4.out.2.2.2.1.keeps_nil (keeps_drew w4)).keeps_nil hK5) (fillW_length 10 l) ((H4.out.2.2.2.2.1.keeps_nil (keeps_drew w4)).keeps_nil hK5) (fun g hg => Nat.lt_of_lt_of_le (H4.out.1.lt hg) hK5.size)).mono ?_
         rintro e w6 ⟨v6, rfl, ho6, hK6⟩
         have e0 := (hK6.cell (Nat.lt_of_lt_of_le hm4lt hK5.size) (fun e => e) 0).trans d0; have e1 := (hK6.cell (Nat.lt_of_lt_of_le hm4lt hK5.size) (fun e => e) 1).trans d1
         have HQ := Lib.hid (And.intro ho6 hK6)
         clear ho6)
      | (go_at_call 29; refine (nums_same HO.out.1 hK6 HQ.out.1 rfl).mono ?_
         rintro e w7 ⟨rfl, hK7⟩
         have hm6lt : m < w6.heap.size := Nat.lt_of_lt_of_le hm4lt (hK5.trans' hK6).size
         have f0 := (hK7.cell hm6lt (fun e => e) 0).trans e0; have f1 := (hK7.cell hm6lt (fun e => e) 1).trans e1))
  obtain ⟨hm4, hK4, q4, hv4, hp4, hl4⟩ := H4.out
  have hK47 : Keeps Nil w4 w7 := (keeps_drew w4).trans' (hK5.trans' (hK6.trans' hK7))
  have HA2 := Lib.hid ((hm4.keeps_nil hK47).apply HS.out.2)
  have H7 := Lib.hid (And.intro hK47 (And.intro hK4 hK7))
  clear hm4 hK4 q4 hv4 hp4 hl4 hK47 hK5 hK6 hK7 hm6lt c0 c1 d0 d1 e0 e1 HO HQ HC
  go_wp2_with fail
  refine HA2.out.mono ?_
  rintro e w8 ⟨rfl, hm8, hK8⟩
  rw [told_thP, applyW_again (by rw [fillW_length]; decide) (good_thP _ _)] at hm8
  obtain ⟨hm4, hK4, q4, hv4, hp4, hl4⟩ := H4.out
  obtain ⟨hK47, hK34, hK7⟩ := H7.out
  have q8 := hK8.at (hK47.at q4 (fun e => e)) H3.out.2.1
  have g0 : w8.cell? ⟨m, 0, none⟩ = some (.slice (some ⟨b, o, none⟩) 10 cap) := by simp [World.cell?, q8]
  have g1 : w8.cell? ⟨m, 1, none⟩ = some (.slice aP nP cP) := by simp [World.cell?, q8]
  have hv8 := (hv4.keeps_nil hK47).keeps hK8 (fun _ e => e)
  have hp8 := (hp4.keeps_nil hK47).keeps hK8 (fun _ e => e)
  have HC := Lib.hid (Mem.words (hm8.keeps_nil (keeps_drew w8)) hl4)
  have hm8lt : m < w8.drew.heap.size := getElem?_lt q8
  have H8 := Lib.hid (And.intro hm8 (And.intro hK8 (And.intro hv8 hp8)))
  clear hm4 hK4 q4 hv4 hp4 hl4 hK47 hK34 hK7 hm8 hK8 q8 hv8 hp8 f0 f1
  go_wp2_with fail
  go_region_held3 (fun w' => w'.cell? ⟨m, 0, none⟩ = some (.slice (some ⟨b, o, none⟩) 10 cap) ∧ w'.cell? ⟨m, 1, none⟩ = some (.slice aP nP cP))
    (first | exact ⟨g0, g1⟩ | exact ⟨d0, d1⟩ | exact ⟨e0, e1⟩ | exact ⟨f0, f1⟩ | exact ⟨i0, i1⟩ | exact ⟨j0, j1⟩ | go_keep)
    (first
      | (go_at_call 30; refine HC.out.mono ?_; rintro e w5 ⟨v5, rfl, ho5, hK5⟩
         have d0 := (hK5.cell hm8lt (fun e => e) 0).trans g0; have d1 := (hK5.cell hm8lt (fun e => e) 1).trans g1
         have HO := Lib.hid (And.intro ho5 hK5)
         clear ho5)
      | (go_at_call 31; refine (rApply10 ((H8.out.2.2.1.keeps_nil (keeps_drew w8)).keeps_nil hK5) (fillW_length 10 l) ((H8.out.2.2.2.keeps_nil (keeps_drew w8)).keeps_nil hK5) (fun g hg => Nat.lt_of_lt_of_le (H8.out.1.lt hg) hK5.size)).mono ?_
         rintro e w6 ⟨v6, rfl, ho6, hK6⟩
         have e0 := (hK6.cell (Nat.lt_of_lt_of_le hm8lt hK5.size) (fun e => e) 0).trans d0; have e1 := (hK6.cell (Nat.lt_of_lt_of_le hm8lt hK5.size) (fun e => e) 1).trans d1
         have HQ := Lib.hid (And.intro ho6 hK6)
         clear ho6)
      | (go_at_call 29; refine (nums_same HO.out.1 hK6 HQ.out.1 rfl).mono ?_
         rintro e w7 ⟨rfl, hK7⟩
         have hm6lt : m < w6.heap.size := Nat.lt_of_lt_of_le hm8lt (hK5.trans' hK6).size
         have f0 := (hK7.cell hm6lt (fun e => e) 0).trans e0; have f1 := (hK7.cell hm6lt (fun e => e) 1).trans e1)
      | (go_at_call 33; have hK567 := hK5.trans' (hK6.trans' hK7); refine (((H8.out.1.keeps_nil (keeps_drew w8)).keeps_nil hK567).puts HS.out.2).mono ?_
         rintro e w9 ⟨v9, rfl, ho9, hK9⟩
         have hm7lt : m < w7.heap.size := Nat.lt_of_lt_of_le hm8lt hK567.size
         have i0 := (hK9.cell hm7lt (fun e => e) 0).trans f0; have i1 := (hK9.cell hm7lt (fun e => e) 1).trans f1
         have HP := Lib.hid (And.intro ho9 hK9)
         clear ho9)
      | (go_at_call 32; refine (puts_same HP.out.1 (Keeps.refl Nil _) ((H8.out.2.2.2.keeps_nil (keeps_drew w8)).keeps_nil (hK567.trans' hK9)) (told_thP _ _)).mono ?_
         rintro e w10 ⟨rfl, hK10⟩
         have hm9lt : m < w9.heap.size := Nat.lt_of_lt_of_le hm7lt hK9.size
         have j0 := (hK10.cell hm9lt (fun e => e) 0).trans i0; have j1 := (hK10.cell hm9lt (fun e => e) 1).trans i1))
  obtain ⟨hK47, hK34, hK7⟩ := H7.out
  have hKe := HKw.out.trans ((hK34.trans' hK47.of_nil).trans' (H8.out.2.1.trans' ((keeps_drew w8).trans' (hK567.trans' (hK9.trans' hK10))).of_nil)) (fun i hi e => by have := HS.out.1 i e; omega)
  have HE := Lib.hid hKe
  clear hKe hK47 hK34 hK7 hK5 hK6 hK9 hK10 hK567 HKw H7 H8 H4 H3 H2
  go_wp2_with fail
  go_ret
  exact ⟨rfl, HE.out⟩
end Go.Proofs.Ytccllkgaakmdhaa
