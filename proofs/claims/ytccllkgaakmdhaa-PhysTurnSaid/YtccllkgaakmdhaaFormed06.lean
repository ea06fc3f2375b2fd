/- carracklaw06.formed: a formatted segment of 4800 bytes, and what is thought of over it, in the program's way and in the document's. -/
import Derived.Test.YtccllkgaakmdhaaFormed
namespace Go.Proofs.Ytccllkgaakmdhaa
open Go.RowKit

set_option maxRecDepth 100000 in
set_option maxHeartbeats 4000000 in
theorem formed06 {w : World} {vl : Value} {l : List Put} (size : UInt64) (h : Look kP w vl l) (x : Int) (hx : x = (size.toNat : Int)) :
    Calls Try.prog 73 #[.int .u64 x, vl] w fun e w' =>
      ∃ s t A B, e = .returned (.tuple #[.pointer (some ⟨t, 0, none⟩), .agg #[A, B]]) ∧ Live w w' s t (thP (formW size) (l.take 60)) (formW size) (fun w' S => TxV S w' A B (formW size) (thP (formW size) (l.take 60))) := by
  subst hx
  obtain ⟨a, lcap, rfl, hlm⟩ := h.val
  obtain ⟨ws, hws⟩ : ∃ ws, ws = formW size := ⟨_, rfl⟩
  have hwl : ws.length = 600 := by rw [hws]; exact formW_length size
  obtain ⟨n, hn⟩ : ∃ n, n = l.length := ⟨_, rfl⟩
  have hnm : n ≤ 9223372036854775807 := by unfold maxLen at hlm; omega
  rw [← hn, ← hws]
  obtain ⟨n0, hn0⟩ : ∃ n0, n0 = w.heap.size := ⟨_, rfl⟩
  obtain ⟨w1, hw1⟩ : ∃ w1, w1 = w.alloc (.cells #[.slice none 0 0, .slice none 0 0] 28) := ⟨_, rfl⟩
  have k1 : Keeps Nil w w1 := by rw [hw1]; exact (Keeps.refl Nil w).alloc _
  have b1 : w1.heap[n0]? = some (.cells #[.slice none 0 0, .slice none 0 0] 28 (0, 0)) := by rw [hw1, hn0]; exact heap_new w _
  have H := Lib.hid (And.intro h (And.intro hws (And.intro hwl hn)))
  have H1 := Lib.hid (And.intro k1 b1)
  have HW := Lib.hid hw1
  have HN0 := Lib.hid hn0
  clear h hws hwl hn hlm k1 b1 hw1 hn0
  go_enter Try.func73, Try.ntmps73
  go_wp2_with fail
  rw [← HW.out, ← HN0.out]
  refine (New_4800 w1).mono ?_
  rintro e w2 ⟨p, q, rfl, hs, k2, hp, hq⟩
  have H2 := Lib.hid (And.intro hs (And.intro k2 (And.intro hp hq)))
  clear hs k2 hp hq
  go_wp2_with fail
  refine (Format_form H2.out.1 size _ rfl).mono ?_
  rintro e w3 ⟨rfl, hs, k3⟩
  rw [← H.out.2.1] at hs
  have H3 := Lib.hid (And.intro hs (H2.out.2.1.trans k3 (fun i hi e => by have := H2.out.2.2.2; omega) : Keeps Nil w1 w3))
  clear hs k3
  go_wp2_with fail
  refine (rFormat_4800 w3 size _ rfl).mono ?_
  rintro e w4 ⟨A, rfl, ho, k4⟩
  rw [← H.out.2.1] at ho
  have hA : View kU (fun k => k = p ∨ k = q) w4 A ws := ho.view (fun g hg e => by have := H3.out.1.lt; omega)
  have H4 := Lib.hid (And.intro (H3.out.1.keeps k4 (fun e => e) (fun e => e)) (And.intro (H3.out.2.trans' k4) hA))
  clear ho k4 hA
  go_wp2_with fail
  have HV := Lib.hid (H4.out.1.liveR (w0 := w) (H1.out.1.trans' H4.out.2.1) (by have := H1.out.1.size; have := H2.out.2.2.1; omega) (by have := H1.out.1.size; have := H2.out.2.2.2; omega)
    (R := fun w' S => TxV S w' A (.slice none 0 0) ws [] ∧ Still n0 #[.slice none 0 0, .slice none 0 0] 28 w' S) ((Stable.txv _ _ _ _).and (Stable.still _ _ _))
    ⟨⟨by rw [H.out.2.2.1]; decide, by rw [H.out.2.2.1]; decide, H4.out.2.2, .inl ⟨rfl, rfl⟩⟩, H4.out.2.1.at H1.out.2 (fun e => e), fun e => by
      have h1 := getElem?_lt H1.out.2
      have h2 := H2.out.2.2.1
      have h3 := H2.out.2.2.2
      rcases e with e | e <;> omega⟩)
  refine HV.out.mono ?_
  rintro e w5 ⟨t, rfl, L⟩
  clear HV
  obtain ⟨ab, ao, ac, _, _, rfl, hA9⟩ := (show TxV Nil w4 A (.slice none 0 0) ws [] from ⟨by rw [H.out.2.2.1]; decide, by rw [H.out.2.2.1]; decide, H4.out.2.2.shut (fun _ _ e => e.elim), .inl ⟨rfl, rfl⟩⟩).val
  clear hA9
  rw [H.out.2.2.1] at L ⊢
  obtain ⟨m, hm⟩ : ∃ m, m = w5.heap.size := ⟨_, rfl⟩
  obtain ⟨w6, hw6⟩ : ∃ w6, w6 = w5.alloc (.cells #[.slice (some ⟨ab, ao, none⟩) 600 ac, .slice none 0 0] 28) := ⟨_, rfl⟩
  have L6 := L.box ((Stable.txv _ _ _ _).and (Stable.still _ _ _)) #[.slice (some ⟨ab, ao, none⟩) 600 ac, .slice none 0 0] 28
  rw [← hw6, ← hm] at L6
  have hmn : n0 < m := by
    obtain ⟨S, _, _, _, r⟩ := L
    have := getElem?_lt r.2.1
    omega
  have hmw : w.heap.size ≤ m := by have := HN0.out; omega
  have HM := Lib.hid (And.intro hm hw6)
  have H6 := Lib.hid L6
  have HMN := Lib.hid (And.intro hmn hmw)
  clear L L6 hm hw6 hmn hmw
  go_wp2_with fail
  rw [← HM.out.2, ← HM.out.1]
  go_loopw [11] (fun i wr => ∃ k : Nat, k ≤ n ∧ k ≤ 60 ∧ i = .int .i64 (k : Int) ∧ Hid (∃ B, Live w wr p t (thP ws (l.take k)) ws (fun w' S => (TxV S w' (.slice (some ⟨ab, ao, none⟩) 600 ac) B ws (thP ws (l.take k)) ∧ Still n0 #[.slice none 0 0, .slice none 0 0] 28 w' S) ∧ Still m #[.slice (some ⟨ab, ao, none⟩) 600 ac, B] 28 w' S))) (fun i _ => 80 - (intOf i).toNat)
  case atStart => exact ⟨0, by omega, by omega, rfl, _, H6.out⟩
  case round =>
    obtain ⟨j, hj, hj2, rfl, HH⟩ := hrel
    obtain ⟨B, L⟩ := HH.out
    have hT : ∃ S, TxV S wr (.slice (some ⟨ab, ao, none⟩) 600 ac) B ws (thP ws (l.take j)) ∧ wr.heap[n0]? = some (.cells #[.slice none 0 0, .slice none 0 0] 28 (0, 0)) ∧ wr.heap[m]? = some (.cells #[.slice (some ⟨ab, ao, none⟩) 600 ac, B] 28 (0, 0)) := by
      obtain ⟨S, _, _, _, r⟩ := L
      exact ⟨S, r.1.1, r.1.2.1, r.2.1⟩
    obtain ⟨S9, hT, hb0, hbm⟩ := hT
    obtain ⟨_, _, _, a2, c2, hA9, rfl⟩ := hT.val
    clear hA9
    have hst := ((Stable.txv (.slice (some ⟨ab, ao, none⟩) 600 ac) (.slice a2 (thP ws (l.take j)).length c2) ws (thP ws (l.take j))).and (Stable.still n0 #[.slice none 0 0, .slice none 0 0] 28)).and (Stable.still m #[.slice (some ⟨ab, ao, none⟩) 600 ac, .slice a2 (thP ws (l.take j)).length c2] 28)
    have hplen : (thP ws (l.take j)).length ≤ 60 := by have := thP_length ws (l.take j); have := List.length_take_le j l; omega
    by_cases hlt : j < n ∧ j < 60
    · obtain ⟨hl1, hl2⟩ := hlt
      have hll : j < l.length := by have := H.out.2.2.2; omega
      obtain ⟨y, hy⟩ : ∃ y, l[j]? = some y := ⟨l[j]'hll, by simp⟩
      obtain ⟨b2, o2, cap3, hvv, _, _, hbl, _, hcell⟩ := H.out.1.pos (by omega)
      simp only [Value.slice.injEq] at hvv
      obtain ⟨rfl, _, rfl⟩ := hvv
      obtain ⟨y1, y2⟩ := View.cellP hcell j y hy
      have y1' := (L.keeps.cell hbl (fun e => e) _).trans y1
      have y2' := (L.keeps.cell hbl (fun e => e) _).trans y2
      have HX := Lib.hid hy
      have HR := Lib.hid ((L.quiet hst (keeps_drew _)).store hst y.1 y.2 (by omega) _ _ rfl rfl)
      have HST := Lib.hid hst
      have HL := Lib.hid L
      clear hcell hy hll HH L hT hb0 hbm hst
      have Y := Lib.hid (And.intro y1 y2)
      clear y1 y2
      go_wp2_with fail
      go_still_tail 11, (by kernel_rfl)
      change wpList _ _ _ _ _ (World.drew _)
      go_wp2_with fail
      refine HR.out.mono ?_
      rintro e w7 ⟨rfl, L7⟩
      have hb7 : w7.heap[m]? = some (.cells #[.slice (some ⟨ab, ao, none⟩) 600 ac, .slice a2 (thP ws (l.take j)).length c2] 28 (0, 0)) := L7.still
      clear y1' y2'
      have y1' : w7.drew.cell? ⟨b2, o2 + j * 2, none⟩ = some (.int .u64 ↑y.1.toNat) := (L7.keeps.cell hbl (fun e => e) _).trans Y.out.1
      have y2' : w7.drew.cell? ⟨b2, o2 + j * 2 + 1, none⟩ = some (.int .u64 ↑y.2.toNat) := (L7.keeps.cell hbl (fun e => e) _).trans Y.out.2
      have c0 : w7.drew.cell? ⟨m, 0, none⟩ = some (.slice (some ⟨ab, ao, none⟩) 600 ac) := (row2 hb7).1
      have c1 : w7.drew.cell? ⟨m, 1, none⟩ = some (.slice a2 (thP ws (l.take j)).length c2) := (row2 hb7).2
      have L7d := L7.quiet HST.out (keeps_drew _)
      obtain ⟨S, g1, g2, g3, g4⟩ := L7d
      have HS := Lib.hid (g4.1.1.store (fun k hk => g1.lt hk) (by omega) y.1 y.2 _ _ rfl rfl)
      have H7 := Lib.hid (And.intro g1 (And.intro g2 (And.intro g3 g4)))
      clear L7 hb7 g1 g2 g3 g4
      go_wp2_with fail
      go_still_tail 11, (by kernel_rfl)
      change wpList _ _ _ _ _ (World.drew _)
      go_wp2_with fail
      refine HS.out.mono ?_
      rintro e w8 ⟨B', rfl, hT8, k8⟩
      obtain ⟨_, _, _, a3, c3, hA9, rfl⟩ := hT8.val
      clear hA9
      have hb8 := k8.at H7.out.2.2.2.2.1 (fun e => e)
      clear y1' y2' c0 c1
      have c0 := (row2 hb8).1
      have c1 := (row2 hb8).2
      have f0 := frz hb8 0
      have f1 := frz hb8 1
      have H8 := Lib.hid (And.intro hT8 (And.intro k8 hb8))
      clear hT8 k8 hb8
      go_wp2_with fail
      go_roundw
      case rel =>
        refine ⟨j + 1, by omega, by omega, by go_num, ?_⟩
        rw [thP_take HX.out]
        obtain ⟨g1, g2, g3, g4⟩ := H7.out
        obtain ⟨hT8, k8, hb8⟩ := H8.out
        have hset : Keeps (fun i => i = m) w8 _ := (keeps_setCell w8 ⟨m, 0, none⟩ (.slice (some ⟨ab, ao, none⟩) 600 ac)).trans' (keeps_setCell _ ⟨m, 1, none⟩ (.slice a3 (txStore ws (thP ws (l.take j)) y.1 y.2).length c3))
        have hSm : ¬ S m := g4.2.2
        have hno : ∀ g, S g → ¬ (g = m) := fun g hg e => hSm (by rw [← e]; exact hg)
        have hn0m : ¬ n0 = m := by have := HMN.out.1; omega
        exact ⟨_, S, (g1.keeps_nil k8).keeps hset hno, g2, (g3.trans' k8).trans hset (fun i hi e => by have := HMN.out.2; omega),
          ⟨⟨⟨hT8.1, hT8.2.1, hT8.2.2.1.box hb8 (noU _ _ _ _ _ _) hset, hT8.2.2.2.box hb8 (noP _ _ _ _ _ _) hset⟩, hset.at (k8.at g4.1.2.1 (fun e => e)) hn0m, g4.1.2.2⟩, setRow2 hb8, hSm⟩⟩
      case measure => simp [intOf]; omega
    · have hej : l.take j = l.take 60 := take_cap l j 60 (by have := H.out.2.2.2; omega) hj2 (by have := H.out.2.2.2; omega)
      have hcut : (¬ j < n ∧ 0 ≤ j) ∨ (j < n ∧ ¬ j < 60) := by omega
      have c0 := (row2 hbm).1
      have c1 := (row2 hbm).2
      have d0 := (row2 hb0).1
      have d1 := (row2 hb0).2
      have f0 := frz hb0 0
      have f1 := frz hb0 1
      have HL := Lib.hid (And.intro L (And.intro hb0 hej))
      clear hej HH L hT hb0 hbm hst hlt
      rcases hcut with ⟨hn1, hn2⟩ | ⟨hn1, hn2⟩
      all_goals
        go_wp2_with fail
        go_region
        all_goals go_wp2_with fail
        all_goals
          obtain ⟨⟨S, g1, g2, g3, g4⟩, hb0, hej⟩ := HL.out
          have hset : Keeps (fun i => i = n0) wr _ := (keeps_setCell wr ⟨n0, 0, none⟩ (.slice (some ⟨ab, ao, none⟩) 600 ac)).trans' (keeps_setCell _ ⟨n0, 1, none⟩ (.slice a2 (thP ws (l.take j)).length c2))
          have hno : ∀ g, S g → ¬ (g = n0) := fun g hg e => g4.1.2.2 (by rw [← e]; exact hg)
          have hdr : ∀ w' : World, Keeps Nil w' w'.drew := fun w' => keeps_drew w'
          refine bodyPost_ret (results_tmp_row rfl rfl (setRow2 hb0) Try.underlying28 rfl (by kernel_rfl)) rfl ?_
          rw [← hej]
          have L9 : Live w _ p t (thP ws (l.take j)) ws (fun w' S => TxV S w' (.slice (some ⟨ab, ao, none⟩) 600 ac) (.slice a2 (thP ws (l.take j)).length c2) ws (thP ws (l.take j))) :=
            ⟨S, g1.keeps hset hno, g2, g3.trans hset (fun i hi e => by have := HN0.out; omega), g4.1.1.1, g4.1.1.2.1, g4.1.1.2.2.1.box hb0 (noU none none 0 0 0 0) hset, g4.1.1.2.2.2.box hb0 (noP none none 0 0 0 0) hset⟩
          exact ⟨p, t, _, _, rfl, L9.quiet (Stable.txv _ _ _ _) ⟨rfl, rfl, rfl, Nat.le_refl _, fun _ _ _ => rfl⟩⟩

theorem formed06' {w : World} {vl : Value} {l : List Put} (size : UInt64) (h : Look kP w vl l) (x : Int) (hx : x = (size.toNat : Int)) :
    Calls Try.prog 73 #[.int .u64 x, vl] w fun e w' =>
      ∃ s t ab ao ac a2 n2 c2, e = .returned (.tuple #[.pointer (some ⟨t, 0, none⟩), .agg #[.slice (some ⟨ab, ao, none⟩) 600 ac, .slice a2 n2 c2]]) ∧
        Live w w' s t (thP (formW size) (l.take 60)) (formW size) (fun w' S => TxV S w' (.slice (some ⟨ab, ao, none⟩) 600 ac) (.slice a2 n2 c2) (formW size) (thP (formW size) (l.take 60))) := by
  refine (formed06 size h x hx).mono ?_
  rintro e w' ⟨s, t, A, B, rfl, L⟩
  obtain ⟨ab, ao, ac, a2, c2, rfl, rfl⟩ : ∃ b o c a2 c2, A = .slice (some ⟨b, o, none⟩) 600 c ∧ B = .slice a2 (thP (formW size) (l.take 60)).length c2 := by
    obtain ⟨S, _, _, _, r⟩ := L
    obtain ⟨b, o, c, a2, c2, h1, h2⟩ := r.val
    rw [formW_length] at h1
    exact ⟨b, o, c, a2, c2, h1, h2⟩
  exact ⟨s, t, ab, ao, ac, a2, _, c2, rfl, L⟩
end Go.Proofs.Ytccllkgaakmdhaa
