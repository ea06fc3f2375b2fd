/- Ref7T: merged. -/
import Derived.Test.YtefpbljekfkefaaGreatM23
import Derived.Test.YtefpbljekfkefaaGreatM21
/- carrackref07.Turned: a list in another turn. -/
namespace Go.Proofs.YtefpbljekfkefaaGreat
open Go.RowKit

theorem part_at {l : List UInt64} {i : Nat} (h : i < l.length) : ∃ A x B, l = A ++ x :: B ∧ A.length = i := by
  refine ⟨l.take i, l[i], l.drop (i + 1), ?_, by simp; omega⟩
  rw [List.getElem_cons_drop h, List.take_append_drop]
theorem wrap_step (a b : Nat) (ha : a ≤ 65535) (hb : b ≤ 65535) : wrap64 ((a : Int) + (b : Int)) = (a : Int) + (b : Int) := IntWalk.wrap64_in _ (by omega)
theorem part_get {l A B : List UInt64} {x : UInt64} {i : Nat} (h : l = A ++ x :: B) (hi : A.length = i) : l[i]? = some x := by subst h hi; simp

set_option maxRecDepth 100000 in
set_option maxHeartbeats 4000000 in
theorem Turned_any {S : Nat → Prop} {w : World} {vl : Value} {l : List UInt64} (h : View kU S w vl l) (from_ step : Nat) (hf : from_ ≤ 65535) (hs : step ≤ 65535) (hll : l.length ≤ 65535) :
    Calls Tryz.prog 46 #[vl, .int .i64 (from_ : Int), .int .i64 (step : Int)] w fun e w' => ∃ v R, e = .returned v ∧ Own kU w' w.heap.size v R ∧ R.Perm l ∧ Keeps Nil w w' := by
  obtain ⟨al, cl, rfl, _⟩ := h.val
  obtain ⟨N, hN⟩ : ∃ N, N = l.length := ⟨_, rfl⟩
  rw [← hN]
  have HV := Lib.hid h
  have HN := Lib.hid hN
  have hN6 : N ≤ 65535 := by omega
  clear h hN hll
  have hst := Lib.hid (Step.refl Nil w)
  go_enter Tryz.func46, Tryz.ntmps46
  go_wp2_with (at_builtin
               obtain ⟨W1, hW1⟩ : ∃ W, W = w.alloc (.cells #[] 25) := ⟨_, rfl⟩
               obtain ⟨B1, eB1⟩ : ∃ B, B = w.heap.size := ⟨_, rfl⟩
               replace hW1 := Lib.hid hW1
               replace eB1 := Lib.hid eB1
               rw [← hW1.out]
               try rw [← eB1.out]
               have k1 : Keeps Nil w W1 := by rw [hW1.out]; exact alloc_keeps _ _
               have e0B1 : B1 = w.heap.size := by rw [eB1.out]
               have hB1 := Lib.hid (show Bx W1 Nil B1 #[] 25 by rw [hW1.out]; exact Bx.new Nil.lt _ _ e0B1)
               have gB1 := Lib.hid (show w.heap.size ≤ B1 by rw [e0B1]; exact hst.out.keeps.size)
               replace hst := Lib.hid (hst.out.nil k1)
               clear k1 e0B1
               have hO2 := (show Own kU W1 B1 (.slice (some ⟨B1, 0, none⟩) 0 0) [] by rw [hW1.out, eB1.out]; exact Own.made kU _ _ (Nat.le_refl _))
               have hB2 := Nat.le_of_lt hB1.out.lt
               clear hB1
               refine wpList_append_any kU rfl _ _ rfl hO2 rfl rfl ((show View kU S W1 (.slice al N cl) l by rw [HN.out]; exact HV.out.keeps_nil hst.out.keeps)) N (by rw [HN.out]; simp) (show N * 8 ≤ _ by omega) hB2 (by decide) ?_
               rintro _ W2 ho2 kA2 hg2 ⟨a2, c2, rfl⟩
               have hst2 := Lib.hid (hst.out.own hO2 gB1.out kA2)
               replace ho2 := Lib.hid ho2
               have hs2 := Lib.hid (Nat.le_trans hB2 kA2.size)
               clear kA2 hg2 hO2 hB2
               clear hst; have hst := hst2; clear hst2)
  obtain ⟨rb, hrb⟩ : ∃ b, b = W2.heap.size := ⟨_, rfl⟩
  have grb := Lib.hid (show w.heap.size ≤ rb by rw [hrb]; exact hst.out.keeps.size)
  have srb := Lib.hid (show rb ≤ W2.heap.size by rw [hrb]; exact Nat.le_refl _)
  clear hrb
  have hvl := Lib.hid (ho2.out.view (S := fun k => (Value.slice none 0 0).ownBlock = some k) (fun g hg e => by cases e))
  go_loopw [7, 8, 9] (fun vo vl atv wr => ∃ (rv : Value) (O Lf : List UInt64) (n at_ : Nat) (a : Option Addr) (c : Nat), n ≤ 65535 ∧ at_ ≤ 4294967295 ∧ rv = vo ∧ vl = .slice a n c ∧ atv = .int .i64 (at_ : Int) ∧ Hid (Keeps Nil w wr) ∧ Hid (Own kU wr rb rv O) ∧ Hid (rb ≤ wr.heap.size) ∧ Hid (View kU (fun k => rv.ownBlock = some k) wr (.slice a n c) Lf) ∧ Hid (n = Lf.length ∧ O.length + n ≤ 65535) ∧ Hid ((O ++ Lf).Perm l)) (fun vo vl atv _ => sliceN vl)
  case atStart => exact ⟨_, [], l, N, from_, _, _, by omega, by omega, rfl, rfl, rfl, Lib.hid hst.out.keeps, Lib.hid (Own.nil _ _ _), srb, Lib.hid (by have := hvl.out; rw [List.nil_append] at this; exact this), Lib.hid ⟨HN.out, by simp; omega⟩, Lib.hid (by simp)⟩
  case round =>
    obtain ⟨rv, O, Lf, n, at_, a, c, hn6, hat, rfl, rfl, rfl, hK0, ho, hso, hvl, HLn, HPm⟩ := hrel
    replace hst := Lib.hid (Step.of_nil (S := Nil) hK0.out)
    clear hK0
    by_cases hn0 : 0 < n
    · obtain ⟨gb, go, cap, e1, hc, hm, hgb, hgS, hcell⟩ := hvl.out.pos (by rw [← HLn.out.1]; exact hn0)
      simp only [Value.slice.injEq] at e1
      obtain ⟨rfl, hn1, rfl⟩ := e1
      clear hn1
      obtain ⟨i, hi⟩ : ∃ i, i = at_ % n := ⟨_, rfl⟩
      have hin : i < n := by rw [hi]; exact Nat.mod_lt _ hn0
      replace hi := Lib.hid hi
      have q_z : ((n : Int) == 0) = false := by simp; omega
      have q_z2 : (n = 0) = False := by simp; omega
      obtain ⟨A, x, Bk, hpt, hA⟩ := part_at (l := Lf) (i := i) (by rw [← HLn.out.1]; exact hin)
      obtain ⟨i1, hi1⟩ : ∃ k, k = i + 1 := ⟨_, rfl⟩
      obtain ⟨j, hj⟩ : ∃ k, k = i + step := ⟨_, rfl⟩
      obtain ⟨m2, hm2⟩ : ∃ k, k = n - i1 := ⟨_, rfl⟩
      obtain ⟨c1, hc1⟩ : ∃ k, k = c - i1 := ⟨_, rfl⟩
      obtain ⟨m, hmm⟩ : ∃ k, k = i + m2 := ⟨_, rfl⟩
      have hLl : n = A.length + 1 + Bk.length := by rw [HLn.out.1, hpt]; simp; omega
      have hm2B : m2 = Bk.length := by omega
      have hcn : n ≤ c := by rw [HLn.out.1]; exact hc
      have hi1n : i1 ≤ n := by omega
      have hicap : i ≤ c := by omega
      have hi1cap : i1 ≤ c := by omega
      have hin2 : i ≤ n := by omega
      have q_m2 := hm2.symm
      have q_c1 := hc1.symm
      have HX := Lib.hid (part_get hpt hA)
      have HC := Lib.hid hcell
      have HGB := Lib.hid (And.intro hgb hgS)
      have HPT := Lib.hid hpt
      have HI := Lib.hid (And.intro hi.out (And.intro hA hm2B))
      have HJ := Lib.hid (And.intro hj (And.intro hmm hi1))
      have HVF := Lib.hid (hvl.out.front (A := A) (B := x :: Bk) (m := i) hpt hA.symm)
      have hb0 : View kU (fun k => rv.ownBlock = some k) wr (.slice (some ⟨gb, go + i1, none⟩) m2 c1) Bk := by rw [hc1]; exact hvl.out.back (A := A ++ [x]) (B := Bk) (by rw [hpt]; simp) (by simp; omega) hm2B
      have hb1 : c = i1 → View kU (fun k => rv.ownBlock = some k) wr (.slice (some ⟨gb, go, none⟩) m2 c1) Bk := fun e => hvl.out.none (by omega) (by omega)
      have hOl : O.length < 4294967296 := by have := HLn.out.2; omega
      have HSM := Lib.hid (And.intro hLl (And.intro hin hcn))
      have hkr := Lib.hid (Keeps.refl (fun k => rv.ownBlock = some k) wr)
      have hm6 : m ≤ 65535 := by omega
      have hi6 : i ≤ 65535 := by omega
      have hi65 : i ≤ 65535 := by omega
      have q_i : ((at_ : Int) % (n : Int)) = (i : Int) := by rw [hi.out]; rfl
      have q_i1 : wrap64 ((i : Int) + 1) = (i1 : Int) := by rw [hi1]; exact wrap_step i 1 hi65 (by decide)
      have q_i12 : IntKind.i64.wrap ((i : Int) + 1) = (i1 : Int) := by rw [IntWalk.i64_left]; exact q_i1
      have q_j : wrap64 ((i : Int) + (step : Int)) = (j : Int) := by rw [hj, Int.natCast_add]; exact wrap_step i step hi65 hs
      have q_i2 : Int.tmod (at_ : Int) (n : Int) = (i : Int) := by rw [hi.out]; rfl
      clear hpt hA hLl hm2B hcell hgb hgS hi hj hmm hi1 hc hm hm2 hc1
      by_cases hca : c = i1
      · have HVB := Lib.hid (hb1 hca)
        have q_e : (c = i1) = True := eq_true hca
        clear hca hb0 hb1
        have e_x := (hkr.out.cell HGB.out.1 HGB.out.2 _).trans (View.cellX HC.out i x HX.out)
        go_wp2_with (first | (at_builtin
                              refine wpList_append_one kU rfl _ _ rfl ho.out rfl (x) _ rfl rfl hOl hso.out ?_
                              rintro _ W3 ho3 kA3 ⟨g3, cap3, rfl, hg3⟩
                              have hst3 := Lib.hid (hst.out.own ho.out grb.out kA3)
                              have hkr_3 := Lib.hid (hkr.out.transN kA3 (fun i hi e => e))
                              replace ho3 := Lib.hid ho3
                              have hs3 := Lib.hid (Nat.le_trans hso.out kA3.size)
                              clear kA3
                              clear hst; have hst := hst3; clear hst3
                              clear hkr; have hkr := hkr_3; clear hkr_3)
                           | (at_builtin
                              have szp := Lib.hid (show wr.heap.size ≤ W3.heap.size from hkr.out.size)
                              obtain ⟨W4, hW4⟩ : ∃ W, W = W3.alloc (.cells #[] 25) := ⟨_, rfl⟩
                              obtain ⟨B2, eB2⟩ : ∃ B, B = W3.heap.size := ⟨_, rfl⟩
                              replace hW4 := Lib.hid hW4
                              replace eB2 := Lib.hid eB2
                              rw [← hW4.out]
                              try rw [← eB2.out]
                              have k2 : Keeps Nil W3 W4 := by rw [hW4.out]; exact alloc_keeps _ _
                              have e0B2 : B2 = W3.heap.size := by rw [eB2.out]
                              have hB2 := Lib.hid (show Bx W4 Nil B2 #[] 25 by rw [hW4.out]; exact Bx.new Nil.lt _ _ e0B2)
                              have gB2 := Lib.hid (show w.heap.size ≤ B2 by rw [e0B2]; exact hst.out.keeps.size)
                              have r_ho3_B2 := Lib.hid (show ∀ g, (.slice (some ⟨g3, 0, none⟩) (O.length + 1) cap3 : Value).ownBlock = some g → g < B2 by intro g hg; rw [e0B2]; exact (ho3.out.block hg).2)
                              replace hst := Lib.hid (hst.out.nil k2)
                              replace hkr := Lib.hid (hkr.out.trans' k2.of_nil)
                              replace ho3 := Lib.hid (ho3.out.keeps_nil k2)
                              replace hs3 := Lib.hid (Nat.le_trans hs3.out k2.size)
                              clear k2 e0B2
                              have hO5 := (show Own kU W4 B2 (.slice (some ⟨B2, 0, none⟩) 0 0) [] by rw [hW4.out, eB2.out]; exact Own.made kU _ _ (Nat.le_refl _))
                              have hB5 := Nat.le_of_lt hB2.out.lt
                              clear hB2
                              have lt_ho3_B2 := Lib.hid (show ∀ g, (.slice (some ⟨g3, 0, none⟩) (O.length + 1) cap3 : Value).ownBlock = some g → g < B2 from fun g hg => r_ho3_B2.out g hg)
                              refine wpList_append_any kU rfl _ _ rfl hO5 rfl rfl (HVF.out.keeps hkr.out (fun _ e => e)) i (by rw [List.length_nil, Nat.zero_add]; exact HI.out.2.1) (show i * 8 ≤ _ by omega) hB5 (by decide) ?_
                              rintro _ W5 ho5 kA5 hg5 ⟨a5, c5, rfl⟩
                              have hst5 := Lib.hid (hst.out.own hO5 gB2.out kA5)
                              have ge_B2 := Lib.hid (show wr.heap.size ≤ B2 by rw [eB2.out]; exact szp.out)
                              have hkr_5 := Lib.hid (hkr.out.transN kA5 (fun i hi e => by have h1 := (hO5.block e).1; have h2 := ge_B2.out; omega))
                              have ho3_5 := Lib.hid (ho3.out.keeps' kA5 (fun g hg e => Nat.lt_irrefl _ (Nat.lt_of_lt_of_le (lt_ho3_B2.out g hg) (hO5.block e).1)))
                              have hs3_5 := Lib.hid (Nat.le_trans hs3.out kA5.size)
                              replace ho5 := Lib.hid ho5
                              have hs5 := Lib.hid (Nat.le_trans hB5 kA5.size)
                              clear kA5 hg5 hO5 hB5
                              clear hst; have hst := hst5; clear hst5
                              clear hkr; have hkr := hkr_5; clear hkr_5
                              clear ho3; have ho3 := ho3_5; clear ho3_5
                              clear hs3; have hs3 := hs3_5; clear hs3_5)
                           | (at_builtin
                              refine wpList_append_any kU rfl _ _ rfl ho5.out rfl rfl (HVB.out.keeps hkr.out (fun _ e => e)) m (by have h1 := HI.out.2.1; have h2 := HI.out.2.2; have h3 := HJ.out.2.1; simp; omega) (show m * 8 ≤ _ by omega) hs5.out (by decide) ?_
                              rintro _ W6 ho6 kA6 hg6 ⟨a6, c6, rfl⟩
                              have hst6 := Lib.hid (hst.out.own ho5.out gB2.out kA6)
                              have hkr_6 := Lib.hid (hkr.out.transN kA6 (fun i hi e => by have h1 := (ho5.out.block e).1; have h2 := ge_B2.out; omega))
                              have ho3_6 := Lib.hid (ho3.out.keeps' kA6 (fun g hg e => Nat.lt_irrefl _ (Nat.lt_of_lt_of_le (lt_ho3_B2.out g hg) (ho5.out.block e).1)))
                              have hs3_6 := Lib.hid (Nat.le_trans hs3.out kA6.size)
                              replace ho6 := Lib.hid ho6
                              have hs6 := Lib.hid (Nat.le_trans hs5.out kA6.size)
                              clear kA6 hg6
                              clear hst; have hst := hst6; clear hst6
                              clear hkr; have hkr := hkr_6; clear hkr_6
                              clear ho3; have ho3 := ho3_6; clear ho3_6
                              clear hs3; have hs3 := hs3_6; clear hs3_6))
        clear e_x
        go_roundw
        case rel => exact ⟨_, O ++ [x], A ++ Bk, m, j, _, _, by (clear q_i q_i2 q_i1 q_i12 q_j; omega), by have := HJ.out.1; (clear q_i q_i2 q_i1 q_i12 q_j; omega), rfl, rfl, by rw [HJ.out.1]; simp, Lib.hid hst.out.keeps, ho3, hs3, Lib.hid (by have := ho6.out.view (S := fun k => (.slice (some ⟨g3, 0, none⟩) (O.length + 1) cap3 : Value).ownBlock = some k) (fun g hg e => absurd (lt_ho3_B2.out g e) (Nat.not_lt.2 hg)); simpa using this), Lib.hid ⟨by have h1 := HI.out.2.1; have h2 := HI.out.2.2; have h3 := HJ.out.2.1; simp; (clear q_i q_i2 q_i1 q_i12 q_j; omega), by have h1 := HLn.out.2; have h2 := HSM.out.1; have h3 := HI.out.2; have h4 := HJ.out.2; simp; (clear q_i q_i2 q_i1 q_i12 q_j; omega)⟩, Lib.hid (by refine List.Perm.trans ?_ HPm.out; rw [HPT.out, List.append_assoc]; exact List.Perm.append_left _ (by simpa using (List.perm_middle (a := x) (l₁ := A) (l₂ := Bk)).symm))⟩
        case measure => simp only [sliceN]; clear q_i q_i2 q_i1 q_i12 q_j; have h1 := HSM.out; have h2 := HI.out.2; have h3 := HJ.out.2; omega
      · have HVB := Lib.hid hb0
        have q_e : (c = i1) = False := eq_false hca
        clear hca hb0 hb1
        have e_x := (hkr.out.cell HGB.out.1 HGB.out.2 _).trans (View.cellX HC.out i x HX.out)
        go_wp2_with (first | (at_builtin
                              refine wpList_append_one kU rfl _ _ rfl ho.out rfl (x) _ rfl rfl hOl hso.out ?_
                              rintro _ W3 ho3 kA3 ⟨g3, cap3, rfl, hg3⟩
                              have hst3 := Lib.hid (hst.out.own ho.out grb.out kA3)
                              have hkr_3 := Lib.hid (hkr.out.transN kA3 (fun i hi e => e))
                              replace ho3 := Lib.hid ho3
                              have hs3 := Lib.hid (Nat.le_trans hso.out kA3.size)
                              clear kA3
                              clear hst; have hst := hst3; clear hst3
                              clear hkr; have hkr := hkr_3; clear hkr_3)
                           | (at_builtin
                              have szp := Lib.hid (show wr.heap.size ≤ W3.heap.size from hkr.out.size)
                              obtain ⟨W4, hW4⟩ : ∃ W, W = W3.alloc (.cells #[] 25) := ⟨_, rfl⟩
                              obtain ⟨B2, eB2⟩ : ∃ B, B = W3.heap.size := ⟨_, rfl⟩
                              replace hW4 := Lib.hid hW4
                              replace eB2 := Lib.hid eB2
                              rw [← hW4.out]
                              try rw [← eB2.out]
                              have k2 : Keeps Nil W3 W4 := by rw [hW4.out]; exact alloc_keeps _ _
                              have e0B2 : B2 = W3.heap.size := by rw [eB2.out]
                              have hB2 := Lib.hid (show Bx W4 Nil B2 #[] 25 by rw [hW4.out]; exact Bx.new Nil.lt _ _ e0B2)
                              have gB2 := Lib.hid (show w.heap.size ≤ B2 by rw [e0B2]; exact hst.out.keeps.size)
                              have r_ho3_B2 := Lib.hid (show ∀ g, (.slice (some ⟨g3, 0, none⟩) (O.length + 1) cap3 : Value).ownBlock = some g → g < B2 by intro g hg; rw [e0B2]; exact (ho3.out.block hg).2)
                              replace hst := Lib.hid (hst.out.nil k2)
                              replace hkr := Lib.hid (hkr.out.trans' k2.of_nil)
                              replace ho3 := Lib.hid (ho3.out.keeps_nil k2)
                              replace hs3 := Lib.hid (Nat.le_trans hs3.out k2.size)
                              clear k2 e0B2
                              have hO5 := (show Own kU W4 B2 (.slice (some ⟨B2, 0, none⟩) 0 0) [] by rw [hW4.out, eB2.out]; exact Own.made kU _ _ (Nat.le_refl _))
                              have hB5 := Nat.le_of_lt hB2.out.lt
                              clear hB2
                              have lt_ho3_B2 := Lib.hid (show ∀ g, (.slice (some ⟨g3, 0, none⟩) (O.length + 1) cap3 : Value).ownBlock = some g → g < B2 from fun g hg => r_ho3_B2.out g hg)
                              refine wpList_append_any kU rfl _ _ rfl hO5 rfl rfl (HVF.out.keeps hkr.out (fun _ e => e)) i (by rw [List.length_nil, Nat.zero_add]; exact HI.out.2.1) (show i * 8 ≤ _ by omega) hB5 (by decide) ?_
                              rintro _ W5 ho5 kA5 hg5 ⟨a5, c5, rfl⟩
                              have hst5 := Lib.hid (hst.out.own hO5 gB2.out kA5)
                              have ge_B2 := Lib.hid (show wr.heap.size ≤ B2 by rw [eB2.out]; exact szp.out)
                              have hkr_5 := Lib.hid (hkr.out.transN kA5 (fun i hi e => by have h1 := (hO5.block e).1; have h2 := ge_B2.out; omega))
                              have ho3_5 := Lib.hid (ho3.out.keeps' kA5 (fun g hg e => Nat.lt_irrefl _ (Nat.lt_of_lt_of_le (lt_ho3_B2.out g hg) (hO5.block e).1)))
                              have hs3_5 := Lib.hid (Nat.le_trans hs3.out kA5.size)
                              replace ho5 := Lib.hid ho5
                              have hs5 := Lib.hid (Nat.le_trans hB5 kA5.size)
                              clear kA5 hg5 hO5 hB5
                              clear hst; have hst := hst5; clear hst5
                              clear hkr; have hkr := hkr_5; clear hkr_5
                              clear ho3; have ho3 := ho3_5; clear ho3_5
                              clear hs3; have hs3 := hs3_5; clear hs3_5)
                           | (at_builtin
                              refine wpList_append_any kU rfl _ _ rfl ho5.out rfl rfl (HVB.out.keeps hkr.out (fun _ e => e)) m (by have h1 := HI.out.2.1; have h2 := HI.out.2.2; have h3 := HJ.out.2.1; simp; omega) (show m * 8 ≤ _ by omega) hs5.out (by decide) ?_
                              rintro _ W6 ho6 kA6 hg6 ⟨a6, c6, rfl⟩
                              have hst6 := Lib.hid (hst.out.own ho5.out gB2.out kA6)
                              have hkr_6 := Lib.hid (hkr.out.transN kA6 (fun i hi e => by have h1 := (ho5.out.block e).1; have h2 := ge_B2.out; omega))
                              have ho3_6 := Lib.hid (ho3.out.keeps' kA6 (fun g hg e => Nat.lt_irrefl _ (Nat.lt_of_lt_of_le (lt_ho3_B2.out g hg) (ho5.out.block e).1)))
                              have hs3_6 := Lib.hid (Nat.le_trans hs3.out kA6.size)
                              replace ho6 := Lib.hid ho6
                              have hs6 := Lib.hid (Nat.le_trans hs5.out kA6.size)
                              clear kA6 hg6
                              clear hst; have hst := hst6; clear hst6
                              clear hkr; have hkr := hkr_6; clear hkr_6
                              clear ho3; have ho3 := ho3_6; clear ho3_6
                              clear hs3; have hs3 := hs3_6; clear hs3_6))
        clear e_x
        go_roundw
        case rel => exact ⟨_, O ++ [x], A ++ Bk, m, j, _, _, by (clear q_i q_i2 q_i1 q_i12 q_j; omega), by have := HJ.out.1; (clear q_i q_i2 q_i1 q_i12 q_j; omega), rfl, rfl, by rw [HJ.out.1]; simp, Lib.hid hst.out.keeps, ho3, hs3, Lib.hid (by have := ho6.out.view (S := fun k => (.slice (some ⟨g3, 0, none⟩) (O.length + 1) cap3 : Value).ownBlock = some k) (fun g hg e => absurd (lt_ho3_B2.out g e) (Nat.not_lt.2 hg)); simpa using this), Lib.hid ⟨by have h1 := HI.out.2.1; have h2 := HI.out.2.2; have h3 := HJ.out.2.1; simp; (clear q_i q_i2 q_i1 q_i12 q_j; omega), by have h1 := HLn.out.2; have h2 := HSM.out.1; have h3 := HI.out.2; have h4 := HJ.out.2; simp; (clear q_i q_i2 q_i1 q_i12 q_j; omega)⟩, Lib.hid (by refine List.Perm.trans ?_ HPm.out; rw [HPT.out, List.append_assoc]; exact List.Perm.append_left _ (by simpa using (List.perm_middle (a := x) (l₁ := A) (l₂ := Bk)).symm))⟩
        case measure => simp only [sliceN]; clear q_i q_i2 q_i1 q_i12 q_j; have h1 := HSM.out; have h2 := HI.out.2; have h3 := HJ.out.2; omega
    · have hn9 : n = 0 := by omega
      have hLf : Lf = [] := List.eq_nil_of_length_eq_zero (by rw [← HLn.out.1]; exact hn9)
      subst hLf
      subst hn9
      go_wp2_with fail
      go_ret
      exact ⟨_, _, rfl, ho.out.base grb.out, by have := HPm.out; simpa using this, hst.out.keeps⟩
end Go.Proofs.YtefpbljekfkefaaGreat
