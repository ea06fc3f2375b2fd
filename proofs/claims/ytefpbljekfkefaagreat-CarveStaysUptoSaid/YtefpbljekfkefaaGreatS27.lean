/- Formed10, Law10: written short. -/
import Derived.Test.YtefpbljekfkefaaGreatS06
import Derived.Test.YtefpbljekfkefaaGreatS01
import Derived.Test.YtefpbljekfkefaaGreatS10
import Derived.Test.YtefpbljekfkefaaGreatS26
set_option maxRecDepth 100000
set_option maxHeartbeats 8000000
namespace Go.Proofs.YtefpbljekfkefaaGreat
section
open Go.RowKit
theorem formed10 {w : World} {vl : Value} {l : List Put} (size : UInt64) (h : Look kP w vl l) (x : Int) (hx : x = (size.toNat : Int)) :
    Calls Tryz.prog 65 #[.int .u64 x, vl] w fun e w' =>
      ∃ s t A B, e = .returned (.tuple #[.pointer (some ⟨t, 0, none⟩), .agg #[A, B]]) ∧ Live w w' s t (thP (formW size) (l.take 60)) (formW size) (fun w' S => TxV S w' A B (formW size) (thP (formW size) (l.take 60))) := by
  subst hx
  obtain ⟨a, lcap, rfl, hlm⟩ := h.val
  obtain ⟨ws, hws⟩ : ∃ ws, ws = formW size := ⟨_, rfl⟩
  have hwl : ws.length = 600 := by rw [hws]; exact formW_length size
  obtain ⟨n, hn⟩ : ∃ n, n = l.length := ⟨_, rfl⟩
  have hnm : n ≤ 9223372036854775807 := by unfold maxLen at hlm; omega
  rw [← hn, ← hws]
  obtain ⟨n0, hn0⟩ : ∃ n0, n0 = w.heap.size := ⟨_, rfl⟩
  obtain ⟨w1, hw1⟩ : ∃ w1, w1 = w.alloc (.cells #[.slice none 0 0, .slice none 0 0] 71) := ⟨_, rfl⟩
  have k1 : Keeps Nil w w1 := by rw [hw1]; exact (Keeps.refl Nil w).alloc _
  have b1 : w1.heap[n0]? = some (.cells #[.slice none 0 0, .slice none 0 0] 71 (0, 0)) := by rw [hw1, hn0]; exact heap_new w _
  have H := qH (And.intro h (And.intro hws (And.intro hwl hn)))
  have H1 := qH (And.intro k1 b1)
  have HW := qH hw1
  have HN0 := qH hn0
  clear h hws hwl hn hlm k1 b1 hw1 hn0
  go_enter Tryz.func65, Tryz.ntmps65
  go_wp2_with fail
  rw [← HW.out, ← HN0.out]
  refine (New_4800 w1).mono ?_
  rintro e w2 ⟨p, q, rfl, hs, k2, hp, hq⟩
  have H2 := qH (And.intro hs (And.intro k2 (And.intro hp hq)))
  clear hs k2 hp hq
  go_wp2_with fail
  refine (Format_form H2.out.1 size _ rfl).mono ?_
  rintro e w3 ⟨rfl, hs, k3⟩
  rw [← H.out.2.1] at hs
  have H3 := qH (And.intro hs (H2.out.2.1.trans k3 (fun i hi e => by have := H2.out.2.2.2; omega) : Keeps Nil w1 w3))
  clear hs k3
  go_wp2_with fail
  refine (rFormat_4800 w3 size _ rfl).mono ?_
  rintro e w4 ⟨A, rfl, ho, k4⟩
  rw [← H.out.2.1] at ho
  have hA : View kU (fun k => k = p ∨ k = q) w4 A ws := ho.view (fun g hg e => by have := H3.out.1.lt; omega)
  have H4 := qH (And.intro (H3.out.1.keeps k4 (fun e => e) (fun e => e)) (And.intro (H3.out.2.trans' k4) hA))
  clear ho k4 hA
  go_wp2_with fail
  have HV := qH (H4.out.1.liveR (w0 := w) (H1.out.1.trans' H4.out.2.1) (by have := H1.out.1.size; have := H2.out.2.2.1; omega) (by have := H1.out.1.size; have := H2.out.2.2.2; omega)
    (R := fun w' S => TxV S w' A (.slice none 0 0) ws [] ∧ Still n0 #[.slice none 0 0, .slice none 0 0] 71 w' S) ((Stable.txv _ _ _ _).and (Stable.still _ _ _))
    ⟨⟨by rw [H.out.2.2.1]; decide, by rw [H.out.2.2.1]; decide, H4.out.2.2, .inl ⟨rfl, rfl⟩⟩, H4.out.2.1.at H1.out.2 (fun e => e), fun e => by
      have h1 := getElem?_lt H1.out.2
      have h2 := H2.out.2.2.1
      have h3 := H2.out.2.2.2
      rcases e with e | e <;> omega⟩)
  refine HV.out.mono ?_
  rintro e w5 ⟨t, rfl, L⟩
  clear HV
  obtain ⟨ab, ao, ac, _, _, rfl, hA9⟩ := (show TxV Nil w4 A (.slice none 0 0) ws [] from ⟨by rw [H.out.2.2.1]; decide, by rw [H.out.2.2.1]; decide, H4.out.2.2.shut (fun _ _ e => e.elim), .inl ⟨rfl, rfl⟩⟩).val
  clear hA9
  rw [H.out.2.2.1] at L ⊢
  obtain ⟨m, hm⟩ : ∃ m, m = w5.heap.size := ⟨_, rfl⟩
  obtain ⟨w6, hw6⟩ : ∃ w6, w6 = w5.alloc (.cells #[.slice (some ⟨ab, ao, none⟩) 600 ac, .slice none 0 0] 71) := ⟨_, rfl⟩
  have L6 := L.box ((Stable.txv _ _ _ _).and (Stable.still _ _ _)) #[.slice (some ⟨ab, ao, none⟩) 600 ac, .slice none 0 0] 71
  rw [← hw6, ← hm] at L6
  have hmn : n0 < m := by
    obtain ⟨S, _, _, _, r⟩ := L
    have := getElem?_lt r.2.1
    omega
  have hmw : w.heap.size ≤ m := by have := HN0.out; omega
  have HM := qH (And.intro hm hw6)
  have H6 := qH L6
  have HMN := qH (And.intro hmn hmw)
  clear L L6 hm hw6 hmn hmw
  go_wp2_with fail
  rw [← HM.out.2, ← HM.out.1]
  go_loopw [11] (fun i wr => ∃ k : Nat, k ≤ n ∧ k ≤ 60 ∧ i = .int .i64 (k : Int) ∧ Hid (∃ B, Live w wr p t (thP ws (l.take k)) ws (fun w' S => (TxV S w' (.slice (some ⟨ab, ao, none⟩) 600 ac) B ws (thP ws (l.take k)) ∧ Still n0 #[.slice none 0 0, .slice none 0 0] 71 w' S) ∧ Still m #[.slice (some ⟨ab, ao, none⟩) 600 ac, B] 71 w' S))) (fun i _ => 80 - (intOf i).toNat)
  case atStart => exact ⟨0, by omega, by omega, rfl, _, H6.out⟩
  case round =>
    obtain ⟨j, hj, hj2, rfl, HH⟩ := hrel
    obtain ⟨B, L⟩ := HH.out
    have hT : ∃ S, TxV S wr (.slice (some ⟨ab, ao, none⟩) 600 ac) B ws (thP ws (l.take j)) ∧ wr.heap[n0]? = some (.cells #[.slice none 0 0, .slice none 0 0] 71 (0, 0)) ∧ wr.heap[m]? = some (.cells #[.slice (some ⟨ab, ao, none⟩) 600 ac, B] 71 (0, 0)) := by
      obtain ⟨S, _, _, _, r⟩ := L
      exact ⟨S, r.1.1, r.1.2.1, r.2.1⟩
    obtain ⟨S9, hT, hb0, hbm⟩ := hT
    obtain ⟨_, _, _, a2, c2, hA9, rfl⟩ := hT.val
    clear hA9
    have hst := ((Stable.txv (.slice (some ⟨ab, ao, none⟩) 600 ac) (.slice a2 (thP ws (l.take j)).length c2) ws (thP ws (l.take j))).and (Stable.still n0 #[.slice none 0 0, .slice none 0 0] 71)).and (Stable.still m #[.slice (some ⟨ab, ao, none⟩) 600 ac, .slice a2 (thP ws (l.take j)).length c2] 71)
    have hplen : (thP ws (l.take j)).length ≤ 60 := by have := thP_length ws (l.take j); have := List.length_take_le j l; omega
    by_cases hlt : j < n ∧ j < 60
    · obtain ⟨hl1, hl2⟩ := hlt
      have hll : j < l.length := by have := H.out.2.2.2; omega
      obtain ⟨y, hy⟩ : ∃ y, l[j]? = some y := ⟨l[j]'hll, by simp⟩
      obtain ⟨b2, o2, cap3, hvv, _, _, hbl, _, hcell⟩ := H.out.1.pos (by omega)
      simp only [Value.slice.injEq] at hvv
      obtain ⟨rfl, _, rfl⟩ := hvv
      obtain ⟨y1, y2⟩ := View.cellP hcell j y hy
      have y1' := (L.keeps.cell hbl (fun e => e) _).trans y1
      have y2' := (L.keeps.cell hbl (fun e => e) _).trans y2
      have HX := qH hy
      have HR := qH ((L.quiet hst (keeps_drew _)).store hst y.1 y.2 (by omega) _ _ rfl rfl)
      have HST := qH hst
      have HL := qH L
      clear hcell hy hll HH L hT hb0 hbm hst
      have Y := qH (And.intro y1 y2)
      clear y1 y2
      go_wp2_with fail
      go_still_tail 11, (by kernel_rfl)
      change wpList _ _ _ _ _ (World.drew _)
      go_wp2_with fail
      refine HR.out.mono ?_
      rintro e w7 ⟨rfl, L7⟩
      have hb7 : w7.heap[m]? = some (.cells #[.slice (some ⟨ab, ao, none⟩) 600 ac, .slice a2 (thP ws (l.take j)).length c2] 71 (0, 0)) := L7.still
      clear y1' y2'
      have y1' : w7.drew.cell? ⟨b2, o2 + j * 2, none⟩ = some (.int .u64 ↑y.1.toNat) := (L7.keeps.cell hbl (fun e => e) _).trans Y.out.1
      have y2' : w7.drew.cell? ⟨b2, o2 + j * 2 + 1, none⟩ = some (.int .u64 ↑y.2.toNat) := (L7.keeps.cell hbl (fun e => e) _).trans Y.out.2
      have c0 : w7.drew.cell? ⟨m, 0, none⟩ = some (.slice (some ⟨ab, ao, none⟩) 600 ac) := (row2 hb7).1
      have c1 : w7.drew.cell? ⟨m, 1, none⟩ = some (.slice a2 (thP ws (l.take j)).length c2) := (row2 hb7).2
      have L7d := L7.quiet HST.out (keeps_drew _)
      obtain ⟨S, g1, g2, g3, g4⟩ := L7d
      have HS := qH (g4.1.1.store (fun k hk => g1.lt hk) (by omega) y.1 y.2 _ _ rfl rfl)
      have H7 := qH (And.intro g1 (And.intro g2 (And.intro g3 g4)))
      clear L7 hb7 g1 g2 g3 g4
      go_wp2_with fail
      go_still_tail 11, (by kernel_rfl)
      change wpList _ _ _ _ _ (World.drew _)
      go_wp2_with fail
      refine HS.out.mono ?_
      rintro e w8 ⟨B', rfl, hT8, k8⟩
      obtain ⟨_, _, _, a3, c3, hA9, rfl⟩ := hT8.val
      clear hA9
      have hb8 := k8.at H7.out.2.2.2.2.1 (fun e => e)
      clear y1' y2' c0 c1
      have c0 := (row2 hb8).1
      have c1 := (row2 hb8).2
      have f0 := frz hb8 0
      have f1 := frz hb8 1
      have H8 := qH (And.intro hT8 (And.intro k8 hb8))
      clear hT8 k8 hb8
      go_wp2_with fail
      go_roundw
      case rel =>
        refine ⟨j + 1, by omega, by omega, by go_num, ?_⟩
        rw [thP_take HX.out]
        obtain ⟨g1, g2, g3, g4⟩ := H7.out
        obtain ⟨hT8, k8, hb8⟩ := H8.out
        have hset : Keeps (fun i => i = m) w8 _ := (keeps_setCell w8 ⟨m, 0, none⟩ (.slice (some ⟨ab, ao, none⟩) 600 ac)).trans' (keeps_setCell _ ⟨m, 1, none⟩ (.slice a3 (txStore ws (thP ws (l.take j)) y.1 y.2).length c3))
        have hSm : ¬ S m := g4.2.2
        have hno : ∀ g, S g → ¬ (g = m) := fun g hg e => hSm (by rw [← e]; exact hg)
        have hn0m : ¬ n0 = m := by have := HMN.out.1; omega
        exact ⟨_, S, (g1.keeps_nil k8).keeps hset hno, g2, (g3.trans' k8).trans hset (fun i hi e => by have := HMN.out.2; omega),
          ⟨⟨⟨hT8.1, hT8.2.1, hT8.2.2.1.box hb8 (noU _ _ _ _ _ _) hset, hT8.2.2.2.box hb8 (noP _ _ _ _ _ _) hset⟩, hset.at (k8.at g4.1.2.1 (fun e => e)) hn0m, g4.1.2.2⟩, setRow2 hb8, hSm⟩⟩
      case measure => simp [intOf]; omega
    · have hej : l.take j = l.take 60 := take_cap l j 60 (by have := H.out.2.2.2; omega) hj2 (by have := H.out.2.2.2; omega)
      have hcut : (¬ j < n ∧ 0 ≤ j) ∨ (j < n ∧ ¬ j < 60) := by omega
      have c0 := (row2 hbm).1
      have c1 := (row2 hbm).2
      have d0 := (row2 hb0).1
      have d1 := (row2 hb0).2
      have f0 := frz hb0 0
      have f1 := frz hb0 1
      have HL := qH (And.intro L (And.intro hb0 hej))
      clear hej HH L hT hb0 hbm hst hlt
      rcases hcut with ⟨hn1, hn2⟩ | ⟨hn1, hn2⟩
      all_goals
        go_wp2_with fail
        go_region
        all_goals go_wp2_with fail
        all_goals
          obtain ⟨⟨S, g1, g2, g3, g4⟩, hb0, hej⟩ := HL.out
          have hset : Keeps (fun i => i = n0) wr _ := (keeps_setCell wr ⟨n0, 0, none⟩ (.slice (some ⟨ab, ao, none⟩) 600 ac)).trans' (keeps_setCell _ ⟨n0, 1, none⟩ (.slice a2 (thP ws (l.take j)).length c2))
          have hno : ∀ g, S g → ¬ (g = n0) := fun g hg e => g4.1.2.2 (by rw [← e]; exact hg)
          have hdr : ∀ w' : World, Keeps Nil w' w'.drew := fun w' => keeps_drew w'
          refine bodyPost_ret (results_tmp_row rfl rfl (setRow2 hb0) Tryz.underlying71 rfl (by kernel_rfl)) rfl ?_
          rw [← hej]
          have L9 : Live w _ p t (thP ws (l.take j)) ws (fun w' S => TxV S w' (.slice (some ⟨ab, ao, none⟩) 600 ac) (.slice a2 (thP ws (l.take j)).length c2) ws (thP ws (l.take j))) :=
            ⟨S, g1.keeps hset hno, g2, g3.trans hset (fun i hi e => by have := HN0.out; omega), g4.1.1.1, g4.1.1.2.1, g4.1.1.2.2.1.box hb0 (noU none none 0 0 0 0) hset, g4.1.1.2.2.2.box hb0 (noP none none 0 0 0 0) hset⟩
          exact ⟨p, t, _, _, rfl, L9.quiet (Stable.txv _ _ _ _) ⟨rfl, rfl, rfl, Nat.le_refl _, fun _ _ _ => rfl⟩⟩
theorem formed10' {w : World} {vl : Value} {l : List Put} (size : UInt64) (h : Look kP w vl l) (x : Int) (hx : x = (size.toNat : Int)) :
    Calls Tryz.prog 65 #[.int .u64 x, vl] w fun e w' =>
      ∃ s t ab ao ac a2 n2 c2, e = .returned (.tuple #[.pointer (some ⟨t, 0, none⟩), .agg #[.slice (some ⟨ab, ao, none⟩) 600 ac, .slice a2 n2 c2]]) ∧
        Live w w' s t (thP (formW size) (l.take 60)) (formW size) (fun w' S => TxV S w' (.slice (some ⟨ab, ao, none⟩) 600 ac) (.slice a2 n2 c2) (formW size) (thP (formW size) (l.take 60))) := by
  refine (formed10 size h x hx).mono ?_
  rintro e w' ⟨s, t, A, B, rfl, L⟩
  obtain ⟨ab, ao, ac, a2, c2, rfl, rfl⟩ : ∃ b o c a2 c2, A = .slice (some ⟨b, o, none⟩) 600 c ∧ B = .slice a2 (thP (formW size) (l.take 60)).length c2 := by
    obtain ⟨S, _, _, _, r⟩ := L
    obtain ⟨b, o, c, a2, c2, h1, h2⟩ := r.val
    rw [formW_length] at h1
    exact ⟨b, o, c, a2, c2, h1, h2⟩
  exact ⟨s, t, ab, ao, ac, a2, _, c2, rfl, L⟩
end
section
open Go.RowKit PT
theorem blk_eq (p q : BlockV) (w : World) : (Op.equalIn 10000 37 (.agg p.cells) (.agg q.cells)).run Tryz.prog w = .ok (((p.off.toNat : Int) == (q.off.toNat : Int)) && (((((p.tag.size.toNat : Int) == (q.tag.size.toNat : Int)) && ((p.tag.used == q.tag.used) && ((p.tag.owner == q.tag.owner) && true)))) && (((p.len.toNat : Int) == (q.len.toNat : Int)) && true))) w := by
 obtain ⟨a, ⟨s, u, o⟩, n⟩ := p
 obtain ⟨b, ⟨t, v, r⟩, m⟩ := q
 rw [BlockV.cells_def, BlockV.cells_def]
 dsimp only
 refine equalIn_fields (d := 9999) Tryz.underlying37 (by kernel_rfl) ?_
 refine eqFields_one (by decide) (a := .int .u64 (a.toNat : Int)) (b := .int .u64 (b.toNat : Int)) (by kernel_rfl) (by kernel_rfl) (equalIn_int (d := 9998) Tryz.underlying25) ?_
 refine eqFields_one (by decide) (a := .agg #[.int .u64 (s.toNat : Int), .bool u, .int .i64 o]) (b := .agg #[.int .u64 (t.toNat : Int), .bool v, .int .i64 r]) (by kernel_rfl) (by kernel_rfl) ?_ ?_
 ·refine equalIn_fields (d := 9998) Tryz.underlying35 (by kernel_rfl) ?_
  refine eqFields_one (by decide) (a := .int .u64 (s.toNat : Int)) (b := .int .u64 (t.toNat : Int)) (by kernel_rfl) (by kernel_rfl) (equalIn_int (d := 9997) Tryz.underlying25) ?_
  refine eqFields_one (by decide) (a := .bool u) (b := .bool v) (by kernel_rfl) (by kernel_rfl) (equalIn_bool (d := 9997) Tryz.underlying4) ?_
  exact eqFields_one (by decide) (a := .int .i64 o) (b := .int .i64 r) (by kernel_rfl) (by kernel_rfl) (equalIn_int (d := 9997) Tryz.underlying3) eqFields_none
 ·exact eqFields_one (by decide) (a := .int .u64 (n.toNat : Int)) (b := .int .u64 (m.toNat : Int)) (by kernel_rfl) (by kernel_rfl) (equalIn_int (d := 9998) Tryz.underlying25) eqFields_none
theorem blk_beq (p q : BlockV) : (((p.off.toNat : Int) == (q.off.toNat : Int)) && (((((p.tag.size.toNat : Int) == (q.tag.size.toNat : Int)) && ((p.tag.used == q.tag.used) && ((p.tag.owner == q.tag.owner) && true)))) && (((p.len.toNat : Int) == (q.len.toNat : Int)) && true))) = decide (p = q) := by
 obtain ⟨a, ⟨s, u, o⟩, n⟩ := p
 obtain ⟨b, ⟨t, v, r⟩, m⟩ := q
 rw [Bool.eq_iff_iff, decide_eq_true_iff]
 have hi : ∀ x y : UInt64, ((x.toNat : Int) = (y.toNat : Int)) ↔ x = y := fun x y => ⟨fun h => UInt64.toNat_inj.1 (by omega), fun h => by rw [h]⟩
 simp [hi, and_assoc]
theorem blk_neq (p q : BlockV) (w : World) : (binOp .neq 37 (.agg p.cells) (.agg q.cells)).run Tryz.prog w = .ok (.bool (!decide (p = q))) w := by
  rw [run_neq_struct, blk_eq, blk_beq]; simp [Result.andThen]
theorem blk_gd : Tryz.prog.eqGuardType Tryz.prog.depth 37 = false := by kernel_rfl
theorem blk_neq_no {a s n b t m : UInt64} {u v : Bool} {o r : Int} (h : (⟨a, ⟨s, u, o⟩, n⟩ : BlockV) = ⟨b, ⟨t, v, r⟩, m⟩) (w : World) :
  (binOp .neq 37 (.agg #[.int .u64 (a.toNat : Int), .int .u64 (s.toNat : Int), .bool u, .int .i64 o, .int .u64 (n.toNat : Int)]) (.agg #[.int .u64 (b.toNat : Int), .int .u64 (t.toNat : Int), .bool v, .int .i64 r, .int .u64 (m.toNat : Int)])).run Tryz.prog w = .ok (.bool false) w := by
 have := blk_neq ⟨a, ⟨s, u, o⟩, n⟩ ⟨b, ⟨t, v, r⟩, m⟩ w
 rw [decide_eq_true h] at this; exact this
theorem formedF10 {w : World} {vl : Value} {l : List Put} (size : UInt64) (h : Look kP w vl l) (x : Int) (hx : x = (size.toNat : Int)) :
    Calls Tryz.prog 65 #[.int .u64 x, vl] w fun e w' =>
      ∃ t ab ao ac a2 c2 S, e = .returned (.tuple #[.pointer (some ⟨t, 0, none⟩), .agg #[.slice (some ⟨ab, ao, none⟩) 600 ac, .slice a2 (thP (formW size) (l.take 60)).length c2]]) ∧
        TxF w' t (txLoad (formW size) (thP (formW size) (l.take 60))) 4800 S ∧ TxV S w' (.slice (some ⟨ab, ao, none⟩) 600 ac) (.slice a2 (thP (formW size) (l.take 60)).length c2) (formW size) (thP (formW size) (l.take 60)) ∧ Step Nil S w w' := by
  refine (formed10' size h x hx).mono ?_
  rintro e w' ⟨s, t, ab, ao, ac, a2, n2, c2, rfl, L⟩
  obtain ⟨S, h1, h2, h3⟩ := L.txF (good_thP _ _)
  obtain ⟨a, c, e⟩ := h3.valB
  cases e
  have hl := formW_length size
  rw [hl] at h1
  exact ⟨t, ab, ao, ac, a2, c2, S, rfl, h1, h3, h2⟩
theorem formedN10 (w : World) :
  Calls Tryz.prog 65 #[.int .u64 4800, .slice none 0 0] w fun e w' =>
   ∃ t ab ao ac a2 c2 S, e = .returned (.tuple #[.pointer (some ⟨t, 0, none⟩), .agg #[.slice (some ⟨ab, ao, none⟩) 600 ac, .slice a2 0 c2]]) ∧ TxF w' t f48 4800 S ∧ Step Nil S w w' := by
 refine (formedF10 (l := []) 4800 Look.nil 4800 rfl).mono ?_
 rintro e w' ⟨t, ab, ao, ac, a2, c2, S, rfl, h1, _, h3⟩
 exact ⟨t, ab, ao, ac, a2, c2, S, rfl, h1, h3⟩
theorem made10 (w : World) (b : BlockV) : Calls Tryz.prog 118 #[.agg b.cells] w fun e w' => e = .returned (.agg b.cells) ∧ Keeps Nil w w' := by
 obtain ⟨bo, ⟨bs, bu, bw⟩, bl⟩ := b
 rw [BlockV.cells_def]
 have hst := qH (Step.refl Nil w)
 go_enter Tryz.func118, Tryz.ntmps118
 obtain ⟨W1, hW1⟩ := nm (w.alloc (.cells #[.int .u64 (bo.toNat : Int), .int .u64 (bs.toNat : Int), .bool bu, .int .i64 bw, .int .u64 (bl.toNat : Int)] 63))
 obtain ⟨B1, eB1⟩ := nm (w.heap.size)
 obtain ⟨W2, hW2⟩ := nm (W1.alloc (.cells #[.int .u64 (bo.toNat : Int), .int .u64 (bs.toNat : Int), .bool bu, .int .i64 bw, .int .u64 (bl.toNat : Int)] 37))
 obtain ⟨B2, eB2⟩ := nm (w.heap.size + 1)
 go_wp2_with fail
 rw [← hW1.out]
 rw [← hW2.out]
 try rw [← eB2.out]
 try rw [← eB1.out]
 have k1 := kA hW1
 have e0B1 := eB1.out
 have hB1 := zB hW1 (Bx.new Nil.lt _ _ e0B1)
 have gB1 := gZ e0B1 hst
 replace hst := sN hst k1
 clear k1 e0B1
 have k2 := kA hW2
 have e0B2 : B2 = W1.heap.size := by rw [eB2.out, hW1.out]; simp []
 have hB2 := zB hW2 (Bx.new Nil.lt _ _ e0B2)
 have gB2 := gZ e0B2 hst
 have nB1B2 := nZ e0B2 hB1
 replace hst := sN hst k2
 replace hB1 := bN hB1 k2
 clear k2 e0B2
 refine bodyPost_ret (results_row rfl rfl hB2.out.1 Tryz.underlying37 rfl (by kernel_rfl)) rfl ?_
 exact ⟨rfl, hst.out.keeps⟩
theorem blk_view {S S2 : Nat → Prop} {w : World} {B : Nat} {T : TypeId} (h : Bx w S2 B #[.int .u64 3776, .int .u64 1024, .bool false, .int .i64 0, .int .u64 0] T) (hS : ¬ S B) : View kRB S w (.slice (some ⟨B, 0, none⟩) 1 1) [blk0] :=
 .inr ⟨B, 0, 1, rfl, Nat.le_refl _, by decide, h.lt, hS, fun i j hj hi => by
  have hi' : i = 0 := by have : i < 1 := hi; omega
  subst hi'
  have hj' : j = 0 ∨ j = 1 ∨ j = 2 ∨ j = 3 ∨ j = 4 := by have : j < 5 := hj; omega
  rcases hj' with rfl | rfl | rfl | rfl | rfl
  · exact h.cell 0 _ rfl
  · exact h.cell 1 _ rfl
  · exact h.cell 2 _ rfl
  · exact h.cell 3 _ rfl
  · exact h.cell 4 _ rfl⟩
theorem New10 {S : Nat → Prop} (w : World) (hS : ∀ k, S k → k < w.heap.size) : Calls Tryz.prog 71 #[.int .u64 4800] w fun e w' => ∃ hv, e = .returned hv ∧ HeapX S w' 4800 hv ([blk0], fun _ => []) ∧ Keeps Nil w w' := by
 have q_1 : IntKind.u64.wrap (4800 - 3776) = 1024 := by decide
 have q_2 : IntKind.u64.wrap 1024 = 1024 := by decide
 have HS := qH hS
 clear hS
 have hst := qH (Step.refl Nil w)
 go_enter Tryz.func71, Tryz.ntmps71
 obtain ⟨B1, eB1⟩ := nm (w.heap.size)
 obtain ⟨B2, eB2⟩ := nm (w.heap.size + 1)
 obtain ⟨B3, eB3⟩ := nm (w.heap.size + 2)
 obtain ⟨W1, hW1⟩ := nm (w.alloc (.cells #[.int .u64 4800, .slice (some ⟨B3, 0, none⟩) 1 1, .slice none 0 0, .slice none 0 0, .slice none 0 0, .slice none 0 0, .slice none 0 0, .slice none 0 0, .slice none 0 0, .slice none 0 0] 30))
 obtain ⟨W2, hW2⟩ := nm (W1.alloc (.cells #[.int .u64 3776, .int .u64 1024, .bool false, .int .i64 0, .int .u64 0] 63))
 obtain ⟨W3, hW3⟩ := nm (W2.alloc (.cells #[.int .u64 3776, .int .u64 1024, .bool false, .int .i64 0, .int .u64 0] 63))
 go_wp2_with fail
 try rw [← eB3.out]
 try rw [← eB2.out]
 try rw [← eB1.out]
 rw [← hW1.out]
 rw [← hW2.out]
 rw [← hW3.out]
 try rw [← eB3.out]
 try rw [← eB2.out]
 try rw [← eB1.out]
 have k1 := kA hW1
 have e0B1 := eB1.out
 have hB1 := zB hW1 (Bx.new Nil.lt _ _ e0B1)
 have gB1 := gZ e0B1 hst
 replace hst := sN hst k1
 clear k1 e0B1
 have k2 := kA hW2
 have e0B2 : B2 = W1.heap.size := by rw [eB2.out, hW1.out]; simp []
 have hB2 := zB hW2 (Bx.new Nil.lt _ _ e0B2)
 have gB2 := gZ e0B2 hst
 have nB1B2 := nZ e0B2 hB1
 replace hst := sN hst k2
 replace hB1 := bN hB1 k2
 clear k2 e0B2
 have k3 := kA hW3
 have e0B3 : B3 = W2.heap.size := by rw [eB3.out, hW2.out, hW1.out]; simp []
 have hB3 := zB hW3 (Bx.new Nil.lt _ _ e0B3)
 have gB3 := gZ e0B3 hst
 have nB1B3 := nZ e0B3 hB1
 have nB2B3 := nZ e0B3 hB2
 replace hst := sN hst k3
 replace hB1 := bN hB1 k3
 replace hB2 := bN hB2 k3
 clear k3 e0B3
 refine bodyPost_ret (results_row rfl rfl hB1.out.1 Tryz.underlying30 rfl (by kernel_rfl)) rfl ?_
 refine ⟨_, rfl, ⟨some ⟨B3, 0, none⟩, 1, fun _ => none, fun _ => 0, fun _ => 0, rfl, blk_view hB3.out (fun e => Nat.not_lt.2 gB3.out (HS.out _ e)), fun c _ => .inl ⟨rfl, rfl⟩⟩, hst.out.keeps⟩
theorem LCheck_nat {S : Nat → Prop} {a : Option Addr} {f : UInt64 → UInt64} {N k : Nat} {w : World} {v : Value} {l : List UInt64} (h : Reads (.pointer a) f N w) (hv : View kU S w v l) (hk : k < 8) (hl : LedOK f (UInt64.ofNat k) l) :
  Calls Tryz.prog 119 #[.pointer a, .int .i64 (k : Int), v] w fun e w' => e = .returned (.bool true) ∧ Keeps Nil w w' := by
 have e : (UInt64.ofNat k).toNat = k := by rw [UInt64.toNat_ofNat']; omega
 have := LCheck_any h hv (c := UInt64.ofNat k) (by rw [e]; exact hk) hl
 rw [e] at this
 exact this
theorem Wd.led_nat {f : UInt64 → UInt64} {e : UInt64} {H : List BlockV} {Ls : Nat → List UInt64} {K : UInt64 → UInt64 → Prop} (h : Wd f e H Ls K) {k : Nat} (hk : k < 8) : LedOK f (UInt64.ofNat k) (Ls k) := by
 have e : (UInt64.ofNat k).toNat = k := by rw [UInt64.toNat_ofNat']; omega
 have := h.leds (UInt64.ofNat k) (by rw [e]; exact hk)
 rw [e] at this
 exact this
theorem Wd.ne {f : UInt64 → UInt64} {e : UInt64} {H : List BlockV} {Ls : Nat → List UInt64} {K : UInt64 → UInt64 → Prop} (h : Wd f e H Ls K) (ht : Tile 3776 H e.toNat) : 0 < H.length := by
 cases H with
 | nil =>
   have h1 : 3776 = e.toNat := ht
   have hc := h.chk
   unfold chkB at hc
   simp only [Bool.and_eq_true] at hc
   have := fits_spec hc.2
   rw [h.e16] at this
   omega
 | cons => simp
theorem sound10 {w : World} {t : Nat} {S : Nat → Prop} {f : UInt64 → UInt64} {e : UInt64} {h : HeapV} {K : UInt64 → UInt64 → Prop} {hv : Value} (hT0 : TxF w t f 4800 S) (hW : Wd f e h.1 h.2 K) (ht : Tile 3776 h.1 e.toNat) (he : e.toNat ≤ 4800) (hX : HeapX S w e hv h) :
  Calls Tryz.prog 61 #[.pointer (some ⟨t, 0, none⟩), hv] w fun e' w' => e' = .returned (.bool true) ∧ Keeps Nil w w' := by
 obtain ⟨H, Ls⟩ := h
 obtain ⟨ab, cl, LA, LN, LC, rfl, hv0, hLv⟩ := hX
 simp only at hW ht hv0 hLv ⊢
 have hgd := blk_gd
 have hne := hW.ne ht
 obtain ⟨M, hM⟩ : ∃ M, M = H.length := ⟨_, rfl⟩
 have hlen := ht.len
 have hM6 : M ≤ 65535 := by omega
 obtain ⟨gb, go, cap, e1, hcp, hcm, hgb, _, hcell⟩ := hv0.pos hne
 have HV0 := qH hv0
 rw [← hM] at e1 hcp ⊢
 simp only [Value.slice.injEq] at e1
 obtain ⟨rfl, hn1, rfl⟩ := e1
 clear hn1
 have HTX := qH hT0
 have HWK := qH (hW.walk ht he)
 have HE := qH hW.e16
 obtain ⟨T, hct⟩ := hW.checkT (ht.lay he)
 have HCT := qH hct
 have HN := qH hM
 have HNE := qH hne
 have HC := qH (show ∀ i j, j < kRB.size → i < H.length → w.cell? ⟨gb, go + (i * kRB.size + j), none⟩ = (H[i]?).bind (fun x => (kRB.enc x)[j]?) from hcell)
 have HGB := qH hgb
 have HLV := qH hLv
 have HLE := qH (fun k (hk : k < 8) => hW.led_nat hk)
 obtain ⟨FL, hFL⟩ : ∃ l, l = freeOf H := ⟨_, rfl⟩
 have hFl : FL.length ≤ 65535 := by
  rw [hFL]; unfold freeOf; rw [List.length_map]
  have := List.length_filter_le (fun b : BlockV => !b.tag.used) H
  omega
 obtain ⟨FN, hFN⟩ : ∃ n, n = FL.length := ⟨_, rfl⟩
 rw [← hFL] at HCT
 have HFL := qH (And.intro hFL (And.intro hFN hFl))
 have hM1 : 0 < M := by omega
 clear hT0 hW ht hv0 hLv hne hM hlen hcm hgb hcell he hFL hFN hFl hct
 have hst := qH (Step.refl Nil w)
 go_enter Tryz.func61, Tryz.ntmps61
 obtain ⟨W1, hW1⟩ := nm (w.alloc (.cells #[.int .u64 (e.toNat : Int), .slice (some ⟨gb, go, none⟩) M cl, .slice (LA 0) (LN 0) (LC 0), .slice (LA 1) (LN 1) (LC 1), .slice (LA 2) (LN 2) (LC 2), .slice (LA 3) (LN 3) (LC 3), .slice (LA 4) (LN 4) (LC 4), .slice (LA 5) (LN 5) (LC 5), .slice (LA 6) (LN 6) (LC 6), .slice (LA 7) (LN 7) (LC 7)] 30))
 obtain ⟨B1, eB1⟩ := nm (w.heap.size)
 go_wp2_with fail
 rw [← hW1.out]
 try rw [← eB1.out]
 have k1 := kA hW1
 have e0B1 := eB1.out
 have hB1 := zB hW1 (Bx.new Nil.lt _ _ e0B1)
 have gB1 := gZ e0B1 hst
 replace hst := sN hst k1
 clear k1 e0B1
 refine (Walk_any (HTX.out.nil hst.out.keeps).readsK (HTX.out.nil hst.out.keeps).lt (by decide)).mono ?_
 rintro _ W2 ⟨v, rfl, ho, kn⟩
 rw [HWK.out.1, codeOf_true]
 rw [HWK.out.2] at ho
 replace ho := ho.view (S := Nil) (fun _ _ e => e)
 obtain ⟨pb, po, pc, rfl, hpc, hpm, hpb, _, hcell2⟩ := ho.pos HNE.out
 rw [← HN.out] at hpc ⊢
 have HC2 := qH (show ∀ i j, j < kB.size → i < H.length → (W2).cell? ⟨pb, po + (i * kB.size + j), none⟩ = (H[i]?).bind (fun x => (kB.enc x)[j]?) from hcell2)
 have HGB2 := qH hpb
 obtain ⟨WK, hWK⟩ : ∃ W, W = W2 := ⟨_, rfl⟩
 rw [← hWK] at HC2 HGB2
 have hkW := qH (show Keeps Nil WK W2 by rw [hWK]; exact Keeps.refl Nil _)
 clear ho hcell2 hpb hpm hWK
 replace hst := sN hst kn
 replace hB1 := bN hB1 kn
 clear kn
 go_wp2_with fail
 obtain ⟨W3, hW3⟩ := nm (W2.drew)
 have kn := kD hW3
 replace hst := sN hst kn
 replace hkW := qH (hkW.out.trans' kn)
 replace hB1 := bN hB1 kn
 clear kn
 refine wp_region_held_drew (S := fun w' => w'.cell? ⟨B1, 0, none⟩ = some (.int .u64 (e.toNat : Int)) ∧ w'.cell? ⟨B1, 1, none⟩ = some (.slice (some ⟨gb, go, none⟩) M cl)) (by kernel_rfl) (by rw [← hW3.out]; exact ⟨cB hB1 0, cB hB1 1⟩) (fun hHeld => ?_)
 rw [← hW3.out] at hHeld ⊢
 refine fT 0 rfl hHeld ?_
 try simp only [Act.put, List.getElem_toArray, List.getElem_cons_zero, List.setIfInBounds_toArray, List.set_cons_zero, List.set_cons_succ]
 refine fT 1 rfl hHeld ?_; try simp only [sP,sQ]
 refine fT 2 rfl hHeld ?_; try simp only [sP,sQ]
 refine fT 3 rfl hHeld ?_; try simp only [sP,sQ]
 refine fT 4 rfl hHeld ?_; try simp only [sP,sQ]
 refine fT 5 rfl hHeld ?_; try simp only [sP,sQ]
 refine fT 6 rfl hHeld ?_; try simp only [sP,sQ]
 refine fT 7 rfl hHeld ?_; try simp only [sP,sQ]
 refine fT 8 rfl hHeld ?_; try simp only [sP,sQ]
 refine fT 9 rfl hHeld ?_; try simp only [sP,sQ]
 refine fT 10 rfl hHeld ?_; try simp only [sP,sQ]
 refine fT 11 rfl hHeld ?_; try simp only [sP,sQ]
 refine fT 13 rfl hHeld ?_; try simp only [sP,sQ]
 refine fT 14 rfl hHeld ?_; try simp only [sP,sQ]
 refine wpAnyH_ready (rs := [12]) (by kernel_rfl) (by simp) ?_
 refine (AllReadyH.cons (o := _) rfl (fun K hK => ?_) AllReadyH.nil)
 go_simp
 refine (hSize_any (HTX.out.nil hst.out.keeps).reads).mono ?_
 rintro _ W4 ⟨rfl, kn⟩
 rw [HE.out]
 replace hst := sN hst kn
 replace hkW := qH (hkW.out.trans' kn)
 replace hB1 := bN hB1 kn
 clear kn
 refine hK.out _ _ (⟨cB hB1 0, cB hB1 1⟩) (fun hHeld => ?_)
 clear hK K
 try simp only [sP,sQ]
 refine fT 15 rfl hHeld ?_; try simp only [sP,sQ]
 refine fT 16 rfl hHeld ?_; try simp only [sP,sQ]
 refine fD ?_
 clear hHeld
 have c_B1_0 := cB hB1 0
 have c_B1_1 := cB hB1 1
 have l_B1 := hB1.out.lt
 go_wp2_with fail
 clear c_B1_0 c_B1_1 l_B1
 go_loopw [7] (fun i wr => (∃ k : Nat, k ≤ M ∧ i = .int .i64 (k : Int) ∧ Hid (Keeps Nil w wr) ∧ Hid (Keeps Nil WK wr)) ∧ Hid (Bx wr Nil B1 #[.int .u64 (e.toNat : Int), .slice (some ⟨gb, go, none⟩) M cl, .slice (LA 0) (LN 0) (LC 0), .slice (LA 1) (LN 1) (LC 1), .slice (LA 2) (LN 2) (LC 2), .slice (LA 3) (LN 3) (LC 3), .slice (LA 4) (LN 4) (LC 4), .slice (LA 5) (LN 5) (LC 5), .slice (LA 6) (LN 6) (LC 6), .slice (LA 7) (LN 7) (LC 7)] 30)) (fun i _ => M - (intOf i).toNat)
 case atStart => exact ⟨⟨0, by omega, rfl, qH hst.out.keeps, hkW⟩, hB1⟩
 case round =>
  clear hB1
  obtain ⟨hrel, hB1⟩ := hrel
  clear hkW
  obtain ⟨k, hk, rfl, hK0, hkW⟩ := hrel
  replace hst := qH (Step.of_nil (S := Nil) hK0.out)
  clear hK0
  by_cases hlt : k < M
  ·obtain ⟨⟨bo, ⟨bs, bu, bw⟩, bl⟩, hx⟩ : ∃ x, H[k]? = some x := ⟨H[k]'(by have := HN.out; omega), by simp⟩
   have HX := qH hx
   have HLT := qH hlt
   clear hx
   have e_x0 := eX hst HGB (View.cellB HC.out k _ HX.out).1
   have e_x1 := eX hst HGB (View.cellB HC.out k _ HX.out).2.1
   have e_x2 := eX hst HGB (View.cellB HC.out k _ HX.out).2.2.1
   have e_x3 := eX hst HGB (View.cellB HC.out k _ HX.out).2.2.2.1
   have e_x4 := eX hst HGB (View.cellB HC.out k _ HX.out).2.2.2.2
   have e_y0 := (hkW.out.cell HGB2.out (fun e => e) _).trans (View.cellB HC2.out k _ HX.out).1
   have e_y1 := (hkW.out.cell HGB2.out (fun e => e) _).trans (View.cellB HC2.out k _ HX.out).2.1
   have e_y2 := (hkW.out.cell HGB2.out (fun e => e) _).trans (View.cellB HC2.out k _ HX.out).2.2.1
   have e_y3 := (hkW.out.cell HGB2.out (fun e => e) _).trans (View.cellB HC2.out k _ HX.out).2.2.2.1
   have e_y4 := (hkW.out.cell HGB2.out (fun e => e) _).trans (View.cellB HC2.out k _ HX.out).2.2.2.2
   go_wp2_with fail
   clear e_x0 e_x1 e_x2 e_x3 e_x4 e_y0 e_y1 e_y2 e_y3 e_y4
   obtain ⟨W5, hW5⟩ := nm (wr.drew)
   have kn := kD hW5
   replace hst := sN hst kn
   replace hkW := qH (hkW.out.trans' kn)
   replace hB1 := bN hB1 kn
   clear kn
   refine wp_region_held_drew (S := fun w' => w'.cell? ⟨B1, 1, none⟩ = some (.slice (some ⟨gb, go, none⟩) M cl) ∧ w'.cell? ⟨gb, go + k * 5, none⟩ = some (.int .u64 (bo.toNat : Int)) ∧ w'.cell? ⟨gb, go + k * 5 + 1, none⟩ = some (.int .u64 (bs.toNat : Int)) ∧ w'.cell? ⟨gb, go + k * 5 + 2, none⟩ = some (.bool bu) ∧ w'.cell? ⟨gb, go + k * 5 + 3, none⟩ = some (.int .i64 bw) ∧ w'.cell? ⟨gb, go + k * 5 + 4, none⟩ = some (.int .u64 (bl.toNat : Int)) ∧ w'.cell? ⟨pb, po + k * 5, none⟩ = some (.int .u64 (bo.toNat : Int)) ∧ w'.cell? ⟨pb, po + k * 5 + 1, none⟩ = some (.int .u64 (bs.toNat : Int)) ∧ w'.cell? ⟨pb, po + k * 5 + 2, none⟩ = some (.bool bu) ∧ w'.cell? ⟨pb, po + k * 5 + 3, none⟩ = some (.int .i64 bw) ∧ w'.cell? ⟨pb, po + k * 5 + 4, none⟩ = some (.int .u64 (bl.toNat : Int))) (by kernel_rfl) (by rw [← hW5.out]; exact ⟨cB hB1 1, eX hst HGB (View.cellB HC.out k _ HX.out).1, (hst.out.keeps.cell HGB.out (fun e => e) _).trans (View.cellB HC.out k _ HX.out).2.1, (hst.out.keeps.cell HGB.out (fun e => e) _).trans (View.cellB HC.out k _ HX.out).2.2.1, (hst.out.keeps.cell HGB.out (fun e => e) _).trans (View.cellB HC.out k _ HX.out).2.2.2.1, (hst.out.keeps.cell HGB.out (fun e => e) _).trans (View.cellB HC.out k _ HX.out).2.2.2.2, (hkW.out.cell HGB2.out (fun e => e) _).trans (View.cellB HC2.out k _ HX.out).1, (hkW.out.cell HGB2.out (fun e => e) _).trans (View.cellB HC2.out k _ HX.out).2.1, (hkW.out.cell HGB2.out (fun e => e) _).trans (View.cellB HC2.out k _ HX.out).2.2.1, (hkW.out.cell HGB2.out (fun e => e) _).trans (View.cellB HC2.out k _ HX.out).2.2.2.1, (hkW.out.cell HGB2.out (fun e => e) _).trans (View.cellB HC2.out k _ HX.out).2.2.2.2⟩) (fun hHeld => ?_)
   rw [← hW5.out] at hHeld ⊢
   refine fT 0 rfl hHeld ?_
   try simp only [Act.put, List.getElem_toArray, List.getElem_cons_zero, List.setIfInBounds_toArray, List.set_cons_zero, List.set_cons_succ]
   refine fT 1 rfl hHeld ?_; try simp only [sP,sQ]
   refine fT 2 rfl hHeld ?_; try simp only [sP,sQ]
   refine fT 3 rfl hHeld ?_; try simp only [sP,sQ]
   refine fT 4 rfl hHeld ?_; try simp only [sP,sQ]
   refine fT 5 rfl hHeld ?_; try simp only [sP,sQ]
   refine fT 6 rfl hHeld ?_; try simp only [sP,sQ]
   refine fT 7 rfl hHeld ?_; try simp only [sP,sQ]
   refine fT 8 rfl hHeld ?_; try simp only [sP,sQ]
   refine wpAnyH_ready (rs := [9]) (by kernel_rfl) (by simp) ?_
   refine (AllReadyH.cons (o := _) rfl (fun K hK => ?_) AllReadyH.nil)
   go_simp
   refine (made10 _ ⟨bo, ⟨bs, bu, bw⟩, bl⟩).mono ?_
   rintro _ W6 ⟨rfl, kn⟩
   rw [BlockV.cells_def]
   replace hst := sN hst kn
   replace hkW := qH (hkW.out.trans' kn)
   replace hB1 := bN hB1 kn
   clear kn
   refine hK.out _ _ (⟨cB hB1 1, eX hst HGB (View.cellB HC.out k _ HX.out).1, (hst.out.keeps.cell HGB.out (fun e => e) _).trans (View.cellB HC.out k _ HX.out).2.1, (hst.out.keeps.cell HGB.out (fun e => e) _).trans (View.cellB HC.out k _ HX.out).2.2.1, (hst.out.keeps.cell HGB.out (fun e => e) _).trans (View.cellB HC.out k _ HX.out).2.2.2.1, (hst.out.keeps.cell HGB.out (fun e => e) _).trans (View.cellB HC.out k _ HX.out).2.2.2.2, (hkW.out.cell HGB2.out (fun e => e) _).trans (View.cellB HC2.out k _ HX.out).1, (hkW.out.cell HGB2.out (fun e => e) _).trans (View.cellB HC2.out k _ HX.out).2.1, (hkW.out.cell HGB2.out (fun e => e) _).trans (View.cellB HC2.out k _ HX.out).2.2.1, (hkW.out.cell HGB2.out (fun e => e) _).trans (View.cellB HC2.out k _ HX.out).2.2.2.1, (hkW.out.cell HGB2.out (fun e => e) _).trans (View.cellB HC2.out k _ HX.out).2.2.2.2⟩) (fun hHeld => ?_)
   clear hK K
   try simp only [sP,sQ]
   have qs1 : ∀ w, (binOp .neq 37 (.agg #[.int .u64 (bo.toNat : Int), .int .u64 (bs.toNat : Int), .bool bu, .int .i64 bw, .int .u64 (bl.toNat : Int)]) (.agg #[.int .u64 (bo.toNat : Int), .int .u64 (bs.toNat : Int), .bool bu, .int .i64 bw, .int .u64 (bl.toNat : Int)])).run Tryz.prog w = .ok (.bool false) w := blk_neq_no rfl
   refine fT 10 rfl hHeld ?_; try simp only [sP,sQ]
   refine fD ?_
   clear hHeld
   have c_B1_1 := cB hB1 1
   have l_B1 := hB1.out.lt
   have e_x0 := eX hst HGB (View.cellB HC.out k _ HX.out).1
   have e_x1 := eX hst HGB (View.cellB HC.out k _ HX.out).2.1
   have e_x2 := eX hst HGB (View.cellB HC.out k _ HX.out).2.2.1
   have e_x3 := eX hst HGB (View.cellB HC.out k _ HX.out).2.2.2.1
   have e_x4 := eX hst HGB (View.cellB HC.out k _ HX.out).2.2.2.2
   have e_y0 := (hkW.out.cell HGB2.out (fun e => e) _).trans (View.cellB HC2.out k _ HX.out).1
   have e_y1 := (hkW.out.cell HGB2.out (fun e => e) _).trans (View.cellB HC2.out k _ HX.out).2.1
   have e_y2 := (hkW.out.cell HGB2.out (fun e => e) _).trans (View.cellB HC2.out k _ HX.out).2.2.1
   have e_y3 := (hkW.out.cell HGB2.out (fun e => e) _).trans (View.cellB HC2.out k _ HX.out).2.2.2.1
   have e_y4 := (hkW.out.cell HGB2.out (fun e => e) _).trans (View.cellB HC2.out k _ HX.out).2.2.2.2
   go_wp2_with fail
   clear c_B1_1 l_B1 e_x0 e_x1 e_x2 e_x3 e_x4 e_y0 e_y1 e_y2 e_y3 e_y4
   go_roundw
   case rel => exact ⟨⟨k + 1, by have := HLT.out; omega, by go_num, qH hst.out.keeps, hkW⟩, hB1⟩
   case measure => simp [intOf]; have := HLT.out; omega
  ·skip
   clear hkW
   go_wp2_with fail
   go_loopw [8] (fun i wr => (∃ k : Nat, k ≤ 8 ∧ i = .int .i64 (k : Int) ∧ Hid (Keeps Nil w wr)) ∧ Hid (Bx wr Nil B1 #[.int .u64 (e.toNat : Int), .slice (some ⟨gb, go, none⟩) M cl, .slice (LA 0) (LN 0) (LC 0), .slice (LA 1) (LN 1) (LC 1), .slice (LA 2) (LN 2) (LC 2), .slice (LA 3) (LN 3) (LC 3), .slice (LA 4) (LN 4) (LC 4), .slice (LA 5) (LN 5) (LC 5), .slice (LA 6) (LN 6) (LC 6), .slice (LA 7) (LN 7) (LC 7)] 30)) (fun i _ => 8 - (intOf i).toNat)
   case atStart => exact ⟨⟨0, by omega, rfl, qH hst.out.keeps⟩, hB1⟩
   case round =>
        clear hB1
        obtain ⟨hrel, hB1⟩ := hrel
        clear hk
        obtain ⟨k, hk, rfl, hK0⟩ := hrel
        replace hst := qH (Step.of_nil (S := Nil) hK0.out)
        clear hK0
        by_cases hlt : k < 8
        ·have HK8 := qH hlt
         have hk8 : (k : Int) < 8 := by omega
         have e_l := hB1.out.famc HK8.out
         go_wp2_with fail
         clear e_l
         refine (LCheck_nat (HTX.out.nil hst.out.keeps).reads ((HLV.out k HK8.out).keeps_nil hst.out.keeps) HK8.out (HLE.out k HK8.out)).mono ?_
         rintro _ W5 ⟨rfl, kn⟩
         replace hst := sN hst kn
         replace hB1 := bN hB1 kn
         clear kn
         have e_l := hB1.out.famc HK8.out
         go_wp2_with fail
         clear e_l
         go_roundw
         case rel => exact ⟨⟨k + 1, by have := HK8.out; omega, by go_num, qH hst.out.keeps⟩, hB1⟩
         case measure => simp [intOf]; have := HK8.out; omega
        ·skip
         have c_B1_0 := cB hB1 0
         have c_B1_1 := cB hB1 1
         have c_B1_2 := cB hB1 2
         have c_B1_3 := cB hB1 3
         have c_B1_4 := cB hB1 4
         have c_B1_5 := cB hB1 5
         have c_B1_6 := cB hB1 6
         have c_B1_7 := cB hB1 7
         have c_B1_8 := cB hB1 8
         have c_B1_9 := cB hB1 9
         have l_B1 := hB1.out.lt
         go_wp2_with fail
         clear c_B1_0 c_B1_1 c_B1_2 c_B1_3 c_B1_4 c_B1_5 c_B1_6 c_B1_7 c_B1_8 c_B1_9 l_B1
         refine (rFrees_any (show View kRB S _ (.slice (some ⟨gb, go, none⟩) M cl) H by rw [HN.out]; exact HV0.out.keeps_nil hst.out.keeps) (by rw [← HN.out]; omega)).mono ?_
         rintro _ W5 ⟨v, rfl, ho, kn⟩
         rw [← HFL.out.1] at ho
         replace ho := ho.view (S := Nil) (fun _ _ e => e)
         obtain ⟨fa, fc, rfl, _⟩ := ho.val
         rw [← HFL.out.2.1] at ho ⊢
         have hFV := qH ho
         clear ho
         replace hst := sN hst kn
         replace hB1 := bN hB1 kn
         clear kn
         go_wp2_with fail
         refine (Check_any (HTX.out.nil hst.out.keeps) hFV.out (by have := HFL.out.2.2; omega) HCT.out.1 HCT.out.2.1).mono ?_
         rintro _ W6 ⟨rfl, kn⟩
         rw [HCT.out.2.2]
         replace hst := sN hst kn
         replace hFV := qH (hFV.out.keeps_nil kn)
         replace hB1 := bN hB1 kn
         clear kn
         go_wp2_with fail
         go_ret
         exact ⟨rfl, hst.out.keeps⟩
end
end Go.Proofs.YtefpbljekfkefaaGreat
