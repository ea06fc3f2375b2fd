/- carracklaw03.TxPlays. -/
import Derived.Test.YtccllkgaakmdhaaW3
import Derived.Test.YtccllkgaakmdhaaW4
import Derived.Test.YtccllkgaakmdhaaSegDiff
namespace Go.Proofs.Ytccllkgaakmdhaa
open Go.RowKit

theorem diffL_self (ws : List UInt64) : diffL ws ws = [] := by
  simp [diffL, diffTo]
theorem Mem.bare {w : World} {s t : Nat} {l : List Put} {ws : List UInt64} {S : Nat → Prop} (h : Mem w s t l ws S) :
    Calls Try.prog 47 #[.pointer (some ⟨t, 0, none⟩)] w fun e w' => ∃ tb S', e = .returned (.pointer (some ⟨tb, 0, none⟩)) ∧ Mem w' s tb [] ws S' ∧ Keeps Nil w w' := by
  obtain ⟨q, m, tv, h1, h2, h3, h4, h5⟩ := h
  refine (TxBare_some h1).mono ?_
  rintro e w' ⟨rfl, g1, g2, _⟩
  have hl := h2.lt
  have hS : ∀ k, txS (w.heap.size + 1) w.heap.size (.slice none 0 0) k → w.heap.size ≤ k := fun k hk => by
    rcases hk with rfl | rfl | hk
    · omega
    · omega
    · cases hk
  exact ⟨w.heap.size + 1, fun k => txS (w.heap.size + 1) w.heap.size (.slice none 0 0) k ∨ k = s ∨ k = q, rfl, ⟨q, _, _, g1, h2.keeps g2 (fun e => e) (fun e => e), fun e => by have := hS _ e; omega, fun e => by have := hS _ e; omega, fun k => Iff.rfl⟩, g2⟩
theorem Mem.diff {w : World} {s t p' q' : Nat} {l : List Put} {ws vs : List UInt64} {S : Nat → Prop} (h : Mem w s t l ws S) (h' : SegAt w p' q' vs) (hl : ws.length = vs.length) :
    Calls Try.prog 44 #[.pointer (some ⟨s, 0, none⟩), .pointer (some ⟨p', 0, none⟩)] w fun e w' => ∃ v, e = .returned v ∧ Own kU w' w.heap.size v (diffL ws vs) ∧ Keeps Nil w w' := by
  obtain ⟨q, m, tv, h1, h2, h3, h4, h5⟩ := h
  exact Diff_any h2 h' hl
theorem Own.empty {α : Type} {K : Kind α} {w : World} {base : Nat} {v : Value} (h : Own K w base v []) : ∃ a cap, v = .slice a 0 cap := by
  obtain ⟨a, cap, e, _⟩ := (h.view (S := Nil) (fun _ _ e => e)).val
  exact ⟨a, cap, e⟩
theorem rOld10 {S S2 : Nat → Prop} {w : World} {b o cap : Nat} {vP : Value} {l : List Put} {ws : List UInt64} (h : View kU S w (.slice (some ⟨b, o, none⟩) 10 cap) ws) (hl : ws.length = 10) (h2 : View kP S2 w vP l) (off : UInt64) (x : Int) (hx : x = (off.toNat : Int)) :
    Calls Try.prog 57 #[.agg #[.slice (some ⟨b, o, none⟩) 10 cap, vP], .int .u64 x] w fun e w' => e = .returned (.int .u64 ↑(loadV ws off).toNat) ∧ Keeps Nil w w' := by
  obtain ⟨a2, c2, rfl, _⟩ := h2.val
  rw [← hl] at h
  have := rOld_any (a2n := l.length) (cap2 := c2) (a2 := a2) h off x hx
  rw [hl] at this
  exact this

set_option maxRecDepth 100000 in
set_option maxHeartbeats 12000000 in
theorem plays_any {w : World} {v1 v2 : Value} {l k : List Put} (h1 : Look kP w v1 l) (h2 : Look kP w v2 k) (off : UInt64) :
    Calls Try.prog 10 #[v1, v2, .int .u64 (off.toNat : Int)] w fun e w' => e = .returned (.bool true) ∧ Keeps Nil w w' := by
  obtain ⟨a1, c1, rfl, _⟩ := h1.val
  obtain ⟨a2, c2, rfl, _⟩ := h2.val
  have H := Lib.hid (And.intro h1 h2)
  clear h1 h2
  go_enter Try.func10, Try.ntmps10
  go_wp2_with fail
  refine (awake3 _).mono ?_
  rintro e w1 ⟨rfl, hK1⟩
  go_wp2_with fail
  refine (thought_any (H.out.1.keeps_nil hK1) (H.out.2.keeps_nil hK1)).mono ?_
  rintro e w2 ⟨s, t, b, o, cap, vP, S, rfl, hm, hv, hp, hK2, hS⟩
  obtain ⟨aP, cP, rfl, hPl⟩ := hp.val
  clear hPl
  obtain ⟨ws, hws⟩ : ∃ ws, ws = fillW 10 l := ⟨_, rfl⟩
  rw [← hws] at hm hv hp ⊢
  obtain ⟨P, hP⟩ : ∃ P, P = thP ws (k.take 40) := ⟨_, rfl⟩
  rw [← hP] at hm hp ⊢
  have hPlen : P.length ≤ 40 := by rw [hP]; have := thP_length ws (k.take 40); have := List.length_take_le 40 k; omega
  have hwl : ws.length = 10 := by rw [hws]; exact fillW_length 10 l
  have htold : told P = P := by rw [hP]; exact told_thP _ _
  obtain ⟨m, hmm⟩ : ∃ m, m = w2.heap.size := ⟨_, rfl⟩
  obtain ⟨w3, hw3⟩ : ∃ w3, w3 = w2.alloc (.cells #[.slice (some ⟨b, o, none⟩) 10 cap, .slice aP P.length cP] 28) := ⟨_, rfl⟩
  have hK3 : Keeps Nil w2 w3 := by rw [hw3]; exact (Keeps.refl Nil w2).alloc _
  have q3 : w3.heap[m]? = some (.cells #[.slice (some ⟨b, o, none⟩) 10 cap, .slice aP P.length cP] 28 (0, 0)) := by rw [hw3, hmm]; exact heap_new w2 _
  have hKw := hK1.trans' (hK2.trans' hK3)
  have HA := Lib.hid (filled_any (H.out.1.keeps_nil hKw))
  have HW := Lib.hid (And.intro hw3 hmm)
  have H3 := Lib.hid (And.intro q3 (And.intro hKw (And.intro (hm.keeps_nil hK3) (And.intro (hv.keeps_nil hK3) (And.intro (hp.keeps_nil hK3) (And.intro hws (And.intro hwl htold)))))))
  clear hw3 hmm q3 hKw hm hv hp hK1 hK2 hK3 hS hws hP hwl htold
  go_wp2_with fail
  rw [← HW.out.1, ← HW.out.2]
  refine HA.out.mono ?_
  rintro e w4 ⟨p2, q2, b2, o2, cap2, rfl, hs2, _, hK4, _, _⟩
  have HB := Lib.hid ((H3.out.2.2.1.keeps_nil hK4).bare)
  have H4 := Lib.hid (And.intro hs2 hK4)
  clear hs2 hK4
  go_wp2_with fail
  refine HB.out.mono ?_
  rintro e w5 ⟨tb, Sb, rfl, hb, hK5⟩
  obtain ⟨q3, hKw, hm, hv, hp, hws, hwl, htold⟩ := H3.out
  obtain ⟨hs2, hK4⟩ := H4.out
  have hK45 := hK4.trans' hK5
  obtain ⟨b0, b1⟩ := row2 (hK45.at q3 (fun e => e))
  have hml : m < w5.drew.heap.size := getElem?_lt (hK45.at q3 (fun e => e))
  have hd := keeps_drew w5
  have hKd := hK45.trans' hd
  have hK : Keeps Nil w5.drew w5.drew := Keeps.refl _ _
  have LB : Hid (∀ W', Keeps Nil w5.drew W' → Calls Try.prog 36 #[.pointer (some ⟨tb, 0, none⟩), .int .u64 (off.toNat : Int)] W' fun e w' => e = .returned (.int .u64 ↑(loadV ws off).toNat) ∧ Keeps Nil W' w') :=
    fun W' (hK : Keeps Nil w5.drew W') => Mem.load ((hb.keeps_nil hd).keeps_nil hK) off _ rfl
  have LO := Lib.hid (fun W' (hK : Keeps Nil w5.drew W') => rOld10 ((hv.keeps_nil hKd).keeps_nil hK) hwl ((hp.keeps_nil hKd).keeps_nil hK) off _ rfl)
  have PB := Lib.hid (fun W' (hK : Keeps Nil w5.drew W') => Mem.puts ((hb.keeps_nil hd).keeps_nil hK) (by decide))
  have LT := Lib.hid (fun W' (hK : Keeps Nil w5.drew W') => Mem.load ((hm.keeps_nil hKd).keeps_nil hK) off _ rfl)
  have LR := Lib.hid (fun W' (hK : Keeps Nil w5.drew W') => rTxLoad10 ((hv.keeps_nil hKd).keeps_nil hK) hwl ((hp.keeps_nil hKd).keeps_nil hK) off _ rfl)
  have OT := Lib.hid (fun W' (hK : Keeps Nil w5.drew W') => Mem.old ((hm.keeps_nil hKd).keeps_nil hK) off _ rfl)
  have PT := Lib.hid (fun W' (hK : Keeps Nil w5.drew W') => Mem.puts ((hm.keeps_nil hKd).keeps_nil hK) (by omega))
  have VP := Lib.hid (fun W' (hK : Keeps Nil w5.drew W') => (hp.keeps_nil hKd).keeps_nil hK)
  have DF := Lib.hid (fun W' (hK : Keeps Nil w5.drew W') => Mem.diff ((hm.keeps_nil hKd).keeps_nil hK) (((hs2.keeps (hK5.trans' hd) (fun e => e) (fun e => e))).keeps hK (fun e => e) (fun e => e)) (by rw [hws]))
  have SZ := Lib.hid (fun W' (hK : Keeps Nil w5.drew W') => Mem.size ((hm.keeps_nil hKd).keeps_nil hK))
  have HE := Lib.hid (And.intro (hKw.trans' hKd) (And.intro htold (And.intro hws hwl)))
  have c0 := b0
  have c1 := b1
  clear q3 hKw hm hv hp hws hwl htold hs2 hK4 hK45 hd hKd hK5 hb H3 H4 HA HB
  go_wp2_with fail
  go_region_held3 (fun w' => w'.cell? ⟨m, 0, none⟩ = some (.slice (some ⟨b, o, none⟩) 10 cap) ∧ w'.cell? ⟨m, 1, none⟩ = some (.slice aP P.length cP))
    (first | exact ⟨c0, c1⟩ | go_keep)
    (first
      | (go_at_call 36; refine (LB.out _ hK).mono ?_; rintro e w' ⟨rfl, hKn⟩; clear LB; have hK := hK.trans' hKn
         have c0 := (hK.cell hml (fun e => e) 0).trans b0; have c1 := (hK.cell hml (fun e => e) 1).trans b1)
      | (go_at_call 57; refine (LO.out _ hK).mono ?_; rintro e w' ⟨rfl, hKn⟩; have hK := hK.trans' hKn
         have c0 := (hK.cell hml (fun e => e) 0).trans b0; have c1 := (hK.cell hml (fun e => e) 1).trans b1)
      | (go_at_call 33; refine (PB.out _ hK).mono ?_; rintro e w' ⟨v', rfl, ho, hKn⟩; obtain ⟨ae, ce, rfl⟩ := Own.empty ho; clear ho PB; have hK := hK.trans' hKn
         have c0 := (hK.cell hml (fun e => e) 0).trans b0; have c1 := (hK.cell hml (fun e => e) 1).trans b1)
      | (go_at_call 36; refine (LT.out _ hK).mono ?_; rintro e w' ⟨rfl, hKn⟩; have hK := hK.trans' hKn
         have c0 := (hK.cell hml (fun e => e) 0).trans b0; have c1 := (hK.cell hml (fun e => e) 1).trans b1)
      | (go_at_call 35; refine (LR.out _ hK).mono ?_; rintro e w' ⟨rfl, hKn⟩; have hK := hK.trans' hKn
         have c0 := (hK.cell hml (fun e => e) 0).trans b0; have c1 := (hK.cell hml (fun e => e) 1).trans b1)
      | (go_at_call 45; refine (OT.out _ hK).mono ?_; rintro e w' ⟨rfl, hKn⟩; have hK := hK.trans' hKn
         have c0 := (hK.cell hml (fun e => e) 0).trans b0; have c1 := (hK.cell hml (fun e => e) 1).trans b1)
      | (go_at_call 33; refine (PT.out _ hK).mono ?_; rintro e w' ⟨v', rfl, ho, hKn⟩; have HP := Lib.hid ho; clear ho; have hK := hK.trans' hKn
         have c0 := (hK.cell hml (fun e => e) 0).trans b0; have c1 := (hK.cell hml (fun e => e) 1).trans b1)
      | (go_at_call 32; refine (puts_same HP.out (Keeps.refl _ _) (VP.out _ hK) HE.out.2.1).mono ?_; rintro e w' ⟨rfl, hKn⟩; have hK := hK.trans' hKn
         have c0 := (hK.cell hml (fun e => e) 0).trans b0; have c1 := (hK.cell hml (fun e => e) 1).trans b1)
      | (go_at_call 44; refine (DF.out _ hK).mono ?_; rintro e w' ⟨v', rfl, ho, hKn⟩; rw [← HE.out.2.2.1, diffL_self] at ho; obtain ⟨ae, ce, rfl⟩ := Own.empty ho; clear ho; have hK := hK.trans' hKn
         have c0 := (hK.cell hml (fun e => e) 0).trans b0; have c1 := (hK.cell hml (fun e => e) 1).trans b1)
      | (go_at_call 46; refine (SZ.out _ hK).mono ?_; rintro e w' ⟨rfl, hKn⟩; subst hKn; rw [HE.out.2.2.2]))
  have HF := Lib.hid (HE.out.1.trans' hK)
  clear hK
  go_wp2_with fail
  go_ret
  exact ⟨rfl, HF.out⟩
end Go.Proofs.Ytccllkgaakmdhaa
