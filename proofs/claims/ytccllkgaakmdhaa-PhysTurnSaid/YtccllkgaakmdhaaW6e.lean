/- carracklaw06: PhysTurn. -/
import Derived.Test.YtccllkgaakmdhaaW6a
import Derived.Test.YtccllkgaakmdhaaLaidP
namespace Go.Proofs.Ytccllkgaakmdhaa
open Go.RowKit

theorem RowL.idx {L : List BlockV} {e : UInt64} (h : RowL L e) {k : Nat} {x : BlockV} (hx : L[k]? = some x) : idxP (offP x.off) L = (k : Int) := by
  refine idxP_some hx (by simp [offP]) (fun j y hj hy => ?_)
  cases hp : offP x.off y with
  | false => rfl
  | true => have := h.same hy hx (by simpa [offP] using hp); omega
theorem RowL.after {L : List BlockV} {e : UInt64} (h : RowL L e) {k : Nat} {x y : BlockV} (hx : L[k]? = some x) (hy : L[k + 1]? = some y) : besideO L x.off 1 = some y := by
  have hl := (List.getElem?_eq_some_iff.1 hy).1
  unfold besideO
  rw [h.idx hx, if_neg (by omega), show ((k : Int) + 1).toNat = k + 1 by omega]
  exact hy
theorem RowL.last {L : List BlockV} {e : UInt64} (h : RowL L e) {k : Nat} {x : BlockV} (hx : L[k]? = some x) (hl : L.length = k + 1) : besideO L x.off 1 = none := by
  unfold besideO
  rw [h.idx hx, if_pos (.inr (.inr (by omega)))]
theorem RowL.before {L : List BlockV} {e : UInt64} (h : RowL L e) {k : Nat} {x y : BlockV} (hx : L[k]? = some x) (hy : L[k + 1]? = some y) : besideO L y.off (-1) = some x := by
  have hl := (List.getElem?_eq_some_iff.1 hy).1
  unfold besideO
  rw [h.idx hy, if_neg (by omega), show (((k + 1 : Nat) : Int) + -1).toNat = k by omega]
  exact hx

set_option maxRecDepth 100000 in
set_option maxHeartbeats 4000000 in
theorem physTurn_any {w : World} {vl : Value} {ps : List PieceV} (hl : Look kPc w vl ps) : Calls Try.prog 25 #[vl] w fun e w' => e = .returned (.bool true) ∧ Keeps Nil w w' := by
  obtain ⟨ws, hws⟩ : ∃ ws, ws = formW 4480 := ⟨_, rfl⟩
  obtain ⟨P, hP⟩ : ∃ P, P = layAll (formW 4480) [] (ps.take 20) := ⟨_, rfl⟩
  obtain ⟨L, hwb, hwl, hrow, hne, _, _, _⟩ := laid_walk (e := 4480) (by decide) (ps.take 20)
  rw [← hP, ← hws] at hwb hwl
  obtain ⟨N, hN⟩ : ∃ N, N = L.length := ⟨_, rfl⟩
  have hN0 : 0 < N := by rw [hN]; exact List.length_pos_iff.2 hne
  have HL := Lib.hid hl
  have HE := Lib.hid (And.intro hws (And.intro (show P = laidP ws ps [] by rw [hP, hws]; rfl) (And.intro hwb hwl)))
  have HR := Lib.hid hrow
  have HN := Lib.hid hN
  obtain ⟨al, lcap, rfl, hlm⟩ := hl.val
  have hgd := blk_gd
  have hNm : N ≤ 4800 := by
    obtain ⟨x, hx⟩ : ∃ x, L[N - 1]? = some x := ⟨L[N - 1]'(by omega), by simp⟩
    have key : ∀ k, ∀ x, L[k]? = some x → 3776 + 48 * k ≤ x.off.toNat := by
      intro k
      induction k with
      | zero => intro x hx; have := (hrow.at_ 0 x hx).2.2.2.2.1; omega
      | succ k ih =>
        intro x hx
        have hkl := (List.getElem?_eq_some_iff.1 hx).1
        obtain ⟨z, hz⟩ : ∃ z, L[k]? = some z := ⟨L[k]'(by omega), by simp⟩
        have h1 := ih z hz
        have h2 := hrow.below 0 k hz hx
        have h3 := (hrow.at_ k z hz).2.2.1
        omega
    have h1 := key (N - 1) x hx
    have h2 := (hrow.at_ (N - 1) x hx).2.2.2.2.2
    simp at h2
    omega
  clear hl hws hP hwb hwl hrow hne hN hlm
  have hst := Lib.hid (Step.refl Nil w)
  go_enter Try.func25, Try.ntmps25
  go_wp2_with fail
  refine (awake06 _).mono ?_
  rintro _ W1 ⟨rfl, kn⟩
  replace hst := Lib.hid (hst.out.nil kn)
  clear kn
  go_wp2_with fail
  refine (laid06_any (ks := []) (HL.out.keeps_nil hst.out.keeps) Look.nil).mono ?_
  rintro _ W2 ⟨t, ab, ao, ac, a2, c2, S1, rfl, hT, hX, kn⟩
  replace hT := Lib.hid hT
  replace hX := Lib.hid hX
  replace hT := hT.out; replace hX := hX.out
  rw [← HE.out.1, ← HE.out.2.1] at hT hX
  rw [← HE.out.1, ← HE.out.2.1]
  replace hT := Lib.hid hT; replace hX := Lib.hid hX
  replace hst := Lib.hid (hst.out.trans kn)
  clear kn
  obtain ⟨W3, hW3⟩ : ∃ W, W = W2.alloc (.cells #[.slice (some ⟨ab, ao, none⟩) 600 ac, .slice a2 P.length c2] 28) := ⟨_, rfl⟩
  obtain ⟨B1, eB1⟩ : ∃ B, B = W2.heap.size := ⟨_, rfl⟩
  replace hW3 := Lib.hid hW3
  replace eB1 := Lib.hid eB1
  go_wp2_with fail
  rw [← hW3.out]
  try rw [← eB1.out]
  have k1 : Keeps Nil W2 W3 := by rw [hW3.out]; exact alloc_keeps _ _
  have e0B1 : B1 = W2.heap.size := by rw [eB1.out]
  have hB1 := Lib.hid (show Bx W3 S1 B1 #[.slice (some ⟨ab, ao, none⟩) 600 ac, .slice a2 P.length c2] 28 by rw [hW3.out]; exact Bx.new hT.out.lt _ _ e0B1)
  have gB1 := Lib.hid (show w.heap.size ≤ B1 by rw [e0B1]; exact hst.out.keeps.size)
  replace hst := Lib.hid (hst.out.nil k1)
  replace hX := Lib.hid (hX.out.keeps_nil k1)
  replace hT := Lib.hid (hT.out.nil k1)
  clear k1 e0B1
  refine (Walk_any hT.out.readsK hT.out.lt (by decide)).mono ?_
  rintro _ W4 ⟨v, rfl, ho, kn⟩
  rw [HE.out.2.2.2] at ho
  rw [HE.out.2.2.1, codeOf_true]
  replace ho := ho.view (S := S1) (fun g hg e => absurd (hT.out.lt g e) (Nat.not_lt.2 hg))
  obtain ⟨gb, go, cl, rfl, hcl, hcm, hgb, _, hcell⟩ := ho.pos (by rw [← HN.out]; exact hN0)
  clear hcl hcm hgb hcell
  have hV := Lib.hid ho
  clear ho
  rw [← HN.out]
  replace hst := Lib.hid (hst.out.nil kn)
  replace hX := Lib.hid (hX.out.keeps_nil kn)
  replace hT := Lib.hid (hT.out.nil kn)
  replace hB1 := Lib.hid (hB1.out.nil kn)
  clear kn
  have c_B1_0 := hB1.out.cell 0 _ rfl
  have f_B1_0 := hB1.out.frz 0
  have c_B1_1 := hB1.out.cell 1 _ rfl
  have f_B1_1 := hB1.out.frz 1
  have l_B1 := hB1.out.lt
  go_wp2_with fail
  clear c_B1_0 f_B1_0 c_B1_1 f_B1_1 l_B1
  have c_B1_0 := hB1.out.cell 0 _ rfl
  have f_B1_0 := hB1.out.frz 0
  have c_B1_1 := hB1.out.cell 1 _ rfl
  have f_B1_1 := hB1.out.frz 1
  have l_B1 := hB1.out.lt
  go_wp2_with fail
  clear c_B1_0 f_B1_0 c_B1_1 f_B1_1 l_B1
  go_loopw [8] (fun i wr => (∃ (k : Nat), k ≤ N ∧ i = .int .i64 (k : Int) ∧ Hid (Step Nil S1 w wr) ∧ Hid (TxF wr t (txLoad ws P) 4800 S1) ∧ Hid (View kB S1 wr (.slice (some ⟨gb, go, none⟩) L.length cl) L)) ∧ Hid (Bx wr S1 B1 #[.slice (some ⟨ab, ao, none⟩) 600 ac, .slice a2 P.length c2] 28)) (fun i _ => N - (intOf i).toNat)
  case atStart => exact ⟨⟨0, by omega, rfl, hst, hT, hV⟩, hB1⟩
  case round =>
    clear hB1
    obtain ⟨hrel, hB1⟩ := hrel
    clear hst hT hX hV
    obtain ⟨k, hk, rfl, hst, hT, hV⟩ := hrel
    by_cases hlt : k < N
    · obtain ⟨⟨bo, ⟨bs, bu, bw⟩, bl⟩, hx⟩ : ∃ x, L[k]? = some x := ⟨L[k]'(by have := HN.out; omega), by simp⟩
      obtain ⟨j, hj⟩ : ∃ j : Nat, j = k + 1 := ⟨_, rfl⟩
      have q_j : wrap64 ((k : Int) + 1) = (j : Int) := by rw [hj]; exact IntWalk.wrap64_in _ (by omega)
      have q_j2 : IntKind.i64.wrap ((k : Int) + 1) = (j : Int) := by rw [IntWalk.i64_left]; exact q_j
      by_cases hm : j < N
      · obtain ⟨⟨qo, ⟨qs, qu, qw⟩, ql⟩, hy⟩ : ∃ x, L[k + 1]? = some x := ⟨L[k + 1]'(by have := HN.out; omega), by simp⟩
        have hd : decide (j < N) = true := decide_eq_true hm
        have HX := Lib.hid hx
        have HA := Lib.hid (HR.out.after hx hy)
        have HB := Lib.hid (HR.out.before hx hy)
        have HQ := Lib.hid (HR.out.next hx hy)
        have HJ := Lib.hid hj
        have hjN : j ≤ N := by omega
        clear hx hy hj
        have c_B1_0 := hB1.out.cell 0 _ rfl
        have f_B1_0 := hB1.out.frz 0
        have c_B1_1 := hB1.out.cell 1 _ rfl
        have f_B1_1 := hB1.out.frz 1
        have l_B1 := hB1.out.lt
        have e_b0 := (View.cellB hV.out.at.2.2.2.2.2 k _ HX.out).1
        have e_b1 := (View.cellB hV.out.at.2.2.2.2.2 k _ HX.out).2.1
        have e_b2 := (View.cellB hV.out.at.2.2.2.2.2 k _ HX.out).2.2.1
        have e_b3 := (View.cellB hV.out.at.2.2.2.2.2 k _ HX.out).2.2.2.1
        have e_b4 := (View.cellB hV.out.at.2.2.2.2.2 k _ HX.out).2.2.2.2
        go_wp2_with fail
        clear c_B1_0 f_B1_0 c_B1_1 f_B1_1 l_B1 e_b0 e_b1 e_b2 e_b3 e_b4
        refine (pAfter_any (show View kB S1 _ (.slice (some ⟨gb, go, none⟩) N cl) L by rw [HN.out]; exact hV.out) bo _ rfl).mono ?_
        rintro _ W5 ⟨rfl, kn⟩
        rw [HA.out, show blockOf (some (⟨qo, ⟨qs, qu, qw⟩, ql⟩ : BlockV)) = ⟨qo, ⟨qs, qu, qw⟩, ql⟩ from rfl, BlockV.cells_def, Option.isSome_some]
        replace hst := Lib.hid (hst.out.nil kn)
        replace hV := Lib.hid (hV.out.keeps_nil kn)
        replace hT := Lib.hid (hT.out.nil kn)
        replace hB1 := Lib.hid (hB1.out.nil kn)
        clear kn
        have c_B1_0 := hB1.out.cell 0 _ rfl
        have f_B1_0 := hB1.out.frz 0
        have c_B1_1 := hB1.out.cell 1 _ rfl
        have f_B1_1 := hB1.out.frz 1
        have l_B1 := hB1.out.lt
        have e_b0 := (View.cellB hV.out.at.2.2.2.2.2 k _ HX.out).1
        have e_b1 := (View.cellB hV.out.at.2.2.2.2.2 k _ HX.out).2.1
        have e_b2 := (View.cellB hV.out.at.2.2.2.2.2 k _ HX.out).2.2.1
        have e_b3 := (View.cellB hV.out.at.2.2.2.2.2 k _ HX.out).2.2.2.1
        have e_b4 := (View.cellB hV.out.at.2.2.2.2.2 k _ HX.out).2.2.2.2
        obtain ⟨W6, hW6⟩ : ∃ W, W = W5.alloc (.cells #[.int .u64 (qo.toNat : Int), .int .u64 (qs.toNat : Int), .bool qu, .int .i64 qw, .int .u64 (ql.toNat : Int)] 103) := ⟨_, rfl⟩
        obtain ⟨B2, eB2⟩ : ∃ B, B = W5.heap.size := ⟨_, rfl⟩
        replace hW6 := Lib.hid hW6
        replace eB2 := Lib.hid eB2
        go_wp2_with fail
        clear c_B1_0 f_B1_0 c_B1_1 f_B1_1 l_B1 e_b0 e_b1 e_b2 e_b3 e_b4
        rw [← hW6.out]
        try rw [← eB2.out]
        have k2 : Keeps Nil W5 W6 := by rw [hW6.out]; exact alloc_keeps _ _
        have e0B2 : B2 = W5.heap.size := by rw [eB2.out]
        have hB2 := Lib.hid (show Bx W6 S1 B2 #[.int .u64 (qo.toNat : Int), .int .u64 (qs.toNat : Int), .bool qu, .int .i64 qw, .int .u64 (ql.toNat : Int)] 103 by rw [hW6.out]; exact Bx.new hT.out.lt _ _ e0B2)
        have gB2 := Lib.hid (show w.heap.size ≤ B2 by rw [e0B2]; exact hst.out.keeps.size)
        have nB1B2 := Lib.hid (show B1 < B2 by rw [e0B2]; exact hB1.out.lt)
        replace hst := Lib.hid (hst.out.nil k2)
        replace hV := Lib.hid (hV.out.keeps_nil k2)
        replace hT := Lib.hid (hT.out.nil k2)
        replace hB1 := Lib.hid (hB1.out.nil k2)
        clear k2 e0B2
        obtain ⟨W7, hW7⟩ : ∃ W, W = W6.drew := ⟨_, rfl⟩
        replace hW7 := Lib.hid hW7
        have kn : Keeps Nil W6 W7 := by rw [hW7.out]; exact keeps_drew _
        replace hst := Lib.hid (hst.out.nil kn)
        replace hV := Lib.hid (hV.out.keeps_nil kn)
        replace hT := Lib.hid (hT.out.nil kn)
        replace hB1 := Lib.hid (hB1.out.nil kn)
        replace hB2 := Lib.hid (hB2.out.nil kn)
        clear kn
        refine wp_region_held_drew (S := fun w' => w'.cell? ⟨B1, 0, none⟩ = some (.slice (some ⟨ab, ao, none⟩) 600 ac) ∧ w'.cell? ⟨B1, 1, none⟩ = some (.slice a2 P.length c2) ∧ w'.cell? ⟨B2, 0, none⟩ = some (.int .u64 (qo.toNat : Int)) ∧ w'.cell? ⟨B2, 1, none⟩ = some (.int .u64 (qs.toNat : Int)) ∧ w'.cell? ⟨B2, 2, none⟩ = some (.bool qu) ∧ w'.cell? ⟨B2, 3, none⟩ = some (.int .i64 qw) ∧ w'.cell? ⟨B2, 4, none⟩ = some (.int .u64 (ql.toNat : Int)) ∧ w'.cell? ⟨gb, go + k * 5, none⟩ = some (.int .u64 (bo.toNat : Int)) ∧ w'.cell? ⟨gb, go + k * 5 + 1, none⟩ = some (.int .u64 (bs.toNat : Int)) ∧ w'.cell? ⟨gb, go + k * 5 + 2, none⟩ = some (.bool bu) ∧ w'.cell? ⟨gb, go + k * 5 + 3, none⟩ = some (.int .i64 bw) ∧ w'.cell? ⟨gb, go + k * 5 + 4, none⟩ = some (.int .u64 (bl.toNat : Int))) (by kernel_rfl) (by rw [← hW7.out]; exact ⟨hB1.out.cell 0 _ rfl, hB1.out.cell 1 _ rfl, hB2.out.cell 0 _ rfl, hB2.out.cell 1 _ rfl, hB2.out.cell 2 _ rfl, hB2.out.cell 3 _ rfl, hB2.out.cell 4 _ rfl, (View.cellB hV.out.at.2.2.2.2.2 k _ HX.out).1, (View.cellB hV.out.at.2.2.2.2.2 k _ HX.out).2.1, (View.cellB hV.out.at.2.2.2.2.2 k _ HX.out).2.2.1, (View.cellB hV.out.at.2.2.2.2.2 k _ HX.out).2.2.2.1, (View.cellB hV.out.at.2.2.2.2.2 k _ HX.out).2.2.2.2⟩) (fun hHeld => ?_)
        rw [← hW7.out] at hHeld ⊢
        refine wpAnyH_take (i := 0) (oi := _) (v := ?m33_v) rfl (by kernel_rfl) (by kernel_rfl) (by kernel_rfl) (fun _ _ _ h => h) (Or.inl ⟨by kernel_rfl, ?m33_h⟩) hHeld ?m33_r
        case m33_h => (intro w hSw; (try dsimp only at hSw); go_simp; try with_reducible rfl)
        try simp only [Act.put, List.getElem_toArray, List.getElem_cons_succ, List.getElem_cons_zero, List.setIfInBounds_toArray, List.set_cons_zero, List.set_cons_succ]
        refine wpAnyH_take (i := 1) (oi := _) (v := ?m34_v) rfl (by kernel_rfl) (by kernel_rfl) (by kernel_rfl) (fun _ _ _ h => h) (Or.inl ⟨by kernel_rfl, ?m34_h⟩) hHeld ?m34_r
        case m34_h => (intro w hSw; (try dsimp only at hSw); go_simp; try with_reducible rfl)
        try simp only [Act.put, List.getElem_toArray, List.getElem_cons_succ, List.getElem_cons_zero, List.setIfInBounds_toArray, List.set_cons_zero, List.set_cons_succ]
        refine wpAnyH_take (i := 2) (oi := _) (v := ?m35_v) rfl (by kernel_rfl) (by kernel_rfl) (by kernel_rfl) (fun _ _ _ h => h) (Or.inl ⟨by kernel_rfl, ?m35_h⟩) hHeld ?m35_r
        case m35_h => (intro w hSw; (try dsimp only at hSw); go_simp; try with_reducible rfl)
        try simp only [Act.put, List.getElem_toArray, List.getElem_cons_succ, List.getElem_cons_zero, List.setIfInBounds_toArray, List.set_cons_zero, List.set_cons_succ]
        refine wpAnyH_take (i := 3) (oi := _) (v := ?m36_v) rfl (by kernel_rfl) (by kernel_rfl) (by kernel_rfl) (fun _ _ _ h => h) (Or.inl ⟨by kernel_rfl, ?m36_h⟩) hHeld ?m36_r
        case m36_h => (intro w hSw; (try dsimp only at hSw); go_simp; try with_reducible rfl)
        try simp only [Act.put, List.getElem_toArray, List.getElem_cons_succ, List.getElem_cons_zero, List.setIfInBounds_toArray, List.set_cons_zero, List.set_cons_succ]
        refine wpAnyH_take (i := 4) (oi := _) (v := ?m37_v) rfl (by kernel_rfl) (by kernel_rfl) (by kernel_rfl) (fun _ _ _ h => h) (Or.inl ⟨by kernel_rfl, ?m37_h⟩) hHeld ?m37_r
        case m37_h => (intro w hSw; (try dsimp only at hSw); go_simp; try with_reducible rfl)
        try simp only [Act.put, List.getElem_toArray, List.getElem_cons_succ, List.getElem_cons_zero, List.setIfInBounds_toArray, List.set_cons_zero, List.set_cons_succ]
        refine wpAnyH_take (i := 5) (oi := _) (v := ?m38_v) rfl (by kernel_rfl) (by kernel_rfl) (by kernel_rfl) (fun _ _ _ h => h) (Or.inl ⟨by kernel_rfl, ?m38_h⟩) hHeld ?m38_r
        case m38_h => (intro w hSw; (try dsimp only at hSw); go_simp; try with_reducible rfl)
        try simp only [Act.put, List.getElem_toArray, List.getElem_cons_succ, List.getElem_cons_zero, List.setIfInBounds_toArray, List.set_cons_zero, List.set_cons_succ]
        refine wpAnyH_take (i := 6) (oi := _) (v := ?m39_v) rfl (by kernel_rfl) (by kernel_rfl) (by kernel_rfl) (fun _ _ _ h => h) (Or.inl ⟨by kernel_rfl, ?m39_h⟩) hHeld ?m39_r
        case m39_h => (intro w hSw; (try dsimp only at hSw); go_simp; try with_reducible rfl)
        try simp only [Act.put, List.getElem_toArray, List.getElem_cons_succ, List.getElem_cons_zero, List.setIfInBounds_toArray, List.set_cons_zero, List.set_cons_succ]
        refine wpAnyH_take (i := 7) (oi := _) (v := ?m40_v) rfl (by kernel_rfl) (by kernel_rfl) (by kernel_rfl) (fun _ _ _ h => h) (Or.inl ⟨by kernel_rfl, ?m40_h⟩) hHeld ?m40_r
        case m40_h => (intro w hSw; (try dsimp only at hSw); go_simp; try with_reducible rfl)
        try simp only [Act.put, List.getElem_toArray, List.getElem_cons_succ, List.getElem_cons_zero, List.setIfInBounds_toArray, List.set_cons_zero, List.set_cons_succ]
        refine wpAnyH_take (i := 8) (oi := _) (v := ?m41_v) rfl (by kernel_rfl) (by kernel_rfl) (by kernel_rfl) (fun _ _ _ h => h) (Or.inl ⟨by kernel_rfl, ?m41_h⟩) hHeld ?m41_r
        case m41_h => (intro w hSw; (try dsimp only at hSw); go_simp; try with_reducible rfl)
        try simp only [Act.put, List.getElem_toArray, List.getElem_cons_succ, List.getElem_cons_zero, List.setIfInBounds_toArray, List.set_cons_zero, List.set_cons_succ]
        refine wpAnyH_take (i := 9) (oi := _) (v := ?m42_v) rfl (by kernel_rfl) (by kernel_rfl) (by kernel_rfl) (fun _ _ _ h => h) (Or.inl ⟨by kernel_rfl, ?m42_h⟩) hHeld ?m42_r
        case m42_h => (intro w hSw; (try dsimp only at hSw); go_simp; try with_reducible rfl)
        try simp only [Act.put, List.getElem_toArray, List.getElem_cons_succ, List.getElem_cons_zero, List.setIfInBounds_toArray, List.set_cons_zero, List.set_cons_succ]
        refine wpAnyH_take (i := 10) (oi := _) (v := ?m43_v) rfl (by kernel_rfl) (by kernel_rfl) (by kernel_rfl) (fun _ _ _ h => h) (Or.inl ⟨by kernel_rfl, ?m43_h⟩) hHeld ?m43_r
        case m43_h => (intro w hSw; (try dsimp only at hSw); go_simp; try with_reducible rfl)
        try simp only [Act.put, List.getElem_toArray, List.getElem_cons_succ, List.getElem_cons_zero, List.setIfInBounds_toArray, List.set_cons_zero, List.set_cons_succ]
        refine wpAnyH_take (i := 11) (oi := _) (v := ?m44_v) rfl (by kernel_rfl) (by kernel_rfl) (by kernel_rfl) (fun _ _ _ h => h) (Or.inl ⟨by kernel_rfl, ?m44_h⟩) hHeld ?m44_r
        case m44_h => (intro w hSw; (try dsimp only at hSw); go_simp; try with_reducible rfl)
        try simp only [Act.put, List.getElem_toArray, List.getElem_cons_succ, List.getElem_cons_zero, List.setIfInBounds_toArray, List.set_cons_zero, List.set_cons_succ]
        refine wpAnyH_take (i := 12) (oi := _) (v := ?m45_v) rfl (by kernel_rfl) (by kernel_rfl) (by kernel_rfl) (fun _ _ _ h => h) (Or.inl ⟨by kernel_rfl, ?m45_h⟩) hHeld ?m45_r
        case m45_h => (intro w hSw; (try dsimp only at hSw); go_simp; try with_reducible rfl)
        try simp only [Act.put, List.getElem_toArray, List.getElem_cons_succ, List.getElem_cons_zero, List.setIfInBounds_toArray, List.set_cons_zero, List.set_cons_succ]
        refine wpAnyH_take (i := 13) (oi := _) (v := ?m46_v) rfl (by kernel_rfl) (by kernel_rfl) (by kernel_rfl) (fun _ _ _ h => h) (Or.inl ⟨by kernel_rfl, ?m46_h⟩) hHeld ?m46_r
        case m46_h => (intro w hSw; (try dsimp only at hSw); go_simp; try with_reducible rfl)
        try simp only [Act.put, List.getElem_toArray, List.getElem_cons_succ, List.getElem_cons_zero, List.setIfInBounds_toArray, List.set_cons_zero, List.set_cons_succ]
        refine wpAnyH_take (i := 14) (oi := _) (v := ?m47_v) rfl (by kernel_rfl) (by kernel_rfl) (by kernel_rfl) (fun _ _ _ h => h) (Or.inl ⟨by kernel_rfl, ?m47_h⟩) hHeld ?m47_r
        case m47_h => (intro w hSw; (try dsimp only at hSw); go_simp; try with_reducible rfl)
        try simp only [Act.put, List.getElem_toArray, List.getElem_cons_succ, List.getElem_cons_zero, List.setIfInBounds_toArray, List.set_cons_zero, List.set_cons_succ]
        refine wpAnyH_take (i := 15) (oi := _) (v := ?m48_v) rfl (by kernel_rfl) (by kernel_rfl) (by kernel_rfl) (fun _ _ _ h => h) (Or.inl ⟨by kernel_rfl, ?m48_h⟩) hHeld ?m48_r
        case m48_h => (intro w hSw; (try dsimp only at hSw); go_simp; try with_reducible rfl)
        try simp only [Act.put, List.getElem_toArray, List.getElem_cons_succ, List.getElem_cons_zero, List.setIfInBounds_toArray, List.set_cons_zero, List.set_cons_succ]
        refine wpAnyH_take (i := 16) (oi := _) (v := ?m49_v) rfl (by kernel_rfl) (by kernel_rfl) (by kernel_rfl) (fun _ _ _ h => h) (Or.inl ⟨by kernel_rfl, ?m49_h⟩) hHeld ?m49_r
        case m49_h => (intro w hSw; (try dsimp only at hSw); go_simp; try with_reducible rfl)
        try simp only [Act.put, List.getElem_toArray, List.getElem_cons_succ, List.getElem_cons_zero, List.setIfInBounds_toArray, List.set_cons_zero, List.set_cons_succ]
        refine wpAnyH_take (i := 17) (oi := _) (v := ?m50_v) rfl (by kernel_rfl) (by kernel_rfl) (by kernel_rfl) (fun _ _ _ h => h) (Or.inl ⟨by kernel_rfl, ?m50_h⟩) hHeld ?m50_r
        case m50_h => (intro w hSw; (try dsimp only at hSw); go_simp; try with_reducible rfl)
        try simp only [Act.put, List.getElem_toArray, List.getElem_cons_succ, List.getElem_cons_zero, List.setIfInBounds_toArray, List.set_cons_zero, List.set_cons_succ]
        refine wpAnyH_take (i := 18) (oi := _) (v := ?m51_v) rfl (by kernel_rfl) (by kernel_rfl) (by kernel_rfl) (fun _ _ _ h => h) (Or.inl ⟨by kernel_rfl, ?m51_h⟩) hHeld ?m51_r
        case m51_h => (intro w hSw; (try dsimp only at hSw); go_simp; try with_reducible rfl)
        try simp only [Act.put, List.getElem_toArray, List.getElem_cons_succ, List.getElem_cons_zero, List.setIfInBounds_toArray, List.set_cons_zero, List.set_cons_succ]
        refine wpAnyH_take (i := 19) (oi := _) (v := ?m52_v) rfl (by kernel_rfl) (by kernel_rfl) (by kernel_rfl) (fun _ _ _ h => h) (Or.inl ⟨by kernel_rfl, ?m52_h⟩) hHeld ?m52_r
        case m52_h => (intro w hSw; (try dsimp only at hSw); go_simp; try with_reducible rfl)
        try simp only [Act.put, List.getElem_toArray, List.getElem_cons_succ, List.getElem_cons_zero, List.setIfInBounds_toArray, List.set_cons_zero, List.set_cons_succ]
        refine wpAnyH_take (i := 20) (oi := _) (v := ?m53_v) rfl (by kernel_rfl) (by kernel_rfl) (by kernel_rfl) (fun _ _ _ h => h) (Or.inl ⟨by kernel_rfl, ?m53_h⟩) hHeld ?m53_r
        case m53_h => (intro w hSw; (try dsimp only at hSw); go_simp; try with_reducible rfl)
        try simp only [Act.put, List.getElem_toArray, List.getElem_cons_succ, List.getElem_cons_zero, List.setIfInBounds_toArray, List.set_cons_zero, List.set_cons_succ]
        refine wpAnyH_take (i := 21) (oi := _) (v := ?m54_v) rfl (by kernel_rfl) (by kernel_rfl) (by kernel_rfl) (fun _ _ _ h => h) (Or.inl ⟨by kernel_rfl, ?m54_h⟩) hHeld ?m54_r
        case m54_h => (intro w hSw; (try dsimp only at hSw); go_simp; try with_reducible rfl)
        try simp only [Act.put, List.getElem_toArray, List.getElem_cons_succ, List.getElem_cons_zero, List.setIfInBounds_toArray, List.set_cons_zero, List.set_cons_succ]
        refine wpAnyH_take (i := 22) (oi := _) (v := ?m55_v) rfl (by kernel_rfl) (by kernel_rfl) (by kernel_rfl) (fun _ _ _ h => h) (Or.inl ⟨by kernel_rfl, ?m55_h⟩) hHeld ?m55_r
        case m55_h => (intro w hSw; (try dsimp only at hSw); go_simp; try with_reducible rfl)
        try simp only [Act.put, List.getElem_toArray, List.getElem_cons_succ, List.getElem_cons_zero, List.setIfInBounds_toArray, List.set_cons_zero, List.set_cons_succ]
        obtain ⟨y1, zy1⟩ : ∃ y : UInt64, y = bo + bs := ⟨_, rfl⟩
        have q1 : IntKind.u64.wrap ((bo.toNat : Int) + (bs.toNat : Int)) = (y1.toNat : Int) := by rw [zy1]; exact u64_add bo bs
        replace zy1 := Lib.hid zy1
        refine wpAnyH_take (i := 23) (oi := _) (v := ?m56_v) rfl (by kernel_rfl) (by kernel_rfl) (by kernel_rfl) (fun _ _ _ h => h) (Or.inl ⟨by kernel_rfl, ?m56_h⟩) hHeld ?m56_r
        case m56_h => (intro w hSw; (try dsimp only at hSw); go_simp; try with_reducible rfl)
        try simp only [Act.put, List.getElem_toArray, List.getElem_cons_succ, List.getElem_cons_zero, List.setIfInBounds_toArray, List.set_cons_zero, List.set_cons_succ]
        have d1 : (((qo.toNat : Int) : Int) != ((y1.toNat : Int) : Int)) = false := (same_u64 (a := qo) (b := y1) ((show qo = y1 by rw [zy1.out]; exact HQ.out))).1
        refine wpAnyH_take (i := 24) (oi := _) (v := ?m57_v) rfl (by kernel_rfl) (by kernel_rfl) (by kernel_rfl) (fun _ _ _ h => h) (Or.inl ⟨by kernel_rfl, ?m57_h⟩) hHeld ?m57_r
        case m57_h => (intro w hSw; (try dsimp only at hSw); go_simp; try with_reducible rfl)
        try simp only [Act.put, List.getElem_toArray, List.getElem_cons_succ, List.getElem_cons_zero, List.setIfInBounds_toArray, List.set_cons_zero, List.set_cons_succ]
        refine wpAnyH_take (i := 25) (oi := _) (v := ?m58_v) rfl (by kernel_rfl) (by kernel_rfl) (by kernel_rfl) (fun _ _ _ h => h) (Or.inl ⟨by kernel_rfl, ?m58_h⟩) hHeld ?m58_r
        case m58_h => (intro w hSw; (try dsimp only at hSw); go_simp; try with_reducible rfl)
        try simp only [Act.put, List.getElem_toArray, List.getElem_cons_succ, List.getElem_cons_zero, List.setIfInBounds_toArray, List.set_cons_zero, List.set_cons_succ]
        refine wpAnyH_take (i := 26) (oi := _) (v := ?m59_v) rfl (by kernel_rfl) (by kernel_rfl) (by kernel_rfl) (fun _ _ _ h => h) (Or.inl ⟨by kernel_rfl, ?m59_h⟩) hHeld ?m59_r
        case m59_h => (intro w hSw; (try dsimp only at hSw); go_simp; try with_reducible rfl)
        try simp only [Act.put, List.getElem_toArray, List.getElem_cons_succ, List.getElem_cons_zero, List.setIfInBounds_toArray, List.set_cons_zero, List.set_cons_succ]
        refine wpAnyH_done (by kernel_rfl) ?_ _
        clear hHeld
        have c_B1_0 := hB1.out.cell 0 _ rfl
        have f_B1_0 := hB1.out.frz 0
        have c_B1_1 := hB1.out.cell 1 _ rfl
        have f_B1_1 := hB1.out.frz 1
        have l_B1 := hB1.out.lt
        have c_B2_0 := hB2.out.cell 0 _ rfl
        have f_B2_0 := hB2.out.frz 0
        have c_B2_1 := hB2.out.cell 1 _ rfl
        have f_B2_1 := hB2.out.frz 1
        have c_B2_2 := hB2.out.cell 2 _ rfl
        have f_B2_2 := hB2.out.frz 2
        have c_B2_3 := hB2.out.cell 3 _ rfl
        have f_B2_3 := hB2.out.frz 3
        have c_B2_4 := hB2.out.cell 4 _ rfl
        have f_B2_4 := hB2.out.frz 4
        have l_B2 := hB2.out.lt
        have e_b0 := (View.cellB hV.out.at.2.2.2.2.2 k _ HX.out).1
        have e_b1 := (View.cellB hV.out.at.2.2.2.2.2 k _ HX.out).2.1
        have e_b2 := (View.cellB hV.out.at.2.2.2.2.2 k _ HX.out).2.2.1
        have e_b3 := (View.cellB hV.out.at.2.2.2.2.2 k _ HX.out).2.2.2.1
        have e_b4 := (View.cellB hV.out.at.2.2.2.2.2 k _ HX.out).2.2.2.2
        go_wp2_with fail
        clear c_B1_0 f_B1_0 c_B1_1 f_B1_1 l_B1 c_B2_0 f_B2_0 c_B2_1 f_B2_1 c_B2_2 f_B2_2 c_B2_3 f_B2_3 c_B2_4 f_B2_4 l_B2 e_b0 e_b1 e_b2 e_b3 e_b4
        refine (pBefore_any (show View kB S1 _ (.slice (some ⟨gb, go, none⟩) N cl) L by rw [HN.out]; exact hV.out) qo _ rfl).mono ?_
        rintro _ W8 ⟨rfl, kn⟩
        rw [HB.out, show blockOf (some (⟨bo, ⟨bs, bu, bw⟩, bl⟩ : BlockV)) = ⟨bo, ⟨bs, bu, bw⟩, bl⟩ from rfl, BlockV.cells_def, Option.isSome_some]
        replace hst := Lib.hid (hst.out.nil kn)
        replace hV := Lib.hid (hV.out.keeps_nil kn)
        replace hT := Lib.hid (hT.out.nil kn)
        replace hB1 := Lib.hid (hB1.out.nil kn)
        replace hB2 := Lib.hid (hB2.out.nil kn)
        clear kn
        have c_B1_0 := hB1.out.cell 0 _ rfl
        have f_B1_0 := hB1.out.frz 0
        have c_B1_1 := hB1.out.cell 1 _ rfl
        have f_B1_1 := hB1.out.frz 1
        have l_B1 := hB1.out.lt
        have c_B2_0 := hB2.out.cell 0 _ rfl
        have f_B2_0 := hB2.out.frz 0
        have c_B2_1 := hB2.out.cell 1 _ rfl
        have f_B2_1 := hB2.out.frz 1
        have c_B2_2 := hB2.out.cell 2 _ rfl
        have f_B2_2 := hB2.out.frz 2
        have c_B2_3 := hB2.out.cell 3 _ rfl
        have f_B2_3 := hB2.out.frz 3
        have c_B2_4 := hB2.out.cell 4 _ rfl
        have f_B2_4 := hB2.out.frz 4
        have l_B2 := hB2.out.lt
        have e_b0 := (View.cellB hV.out.at.2.2.2.2.2 k _ HX.out).1
        have e_b1 := (View.cellB hV.out.at.2.2.2.2.2 k _ HX.out).2.1
        have e_b2 := (View.cellB hV.out.at.2.2.2.2.2 k _ HX.out).2.2.1
        have e_b3 := (View.cellB hV.out.at.2.2.2.2.2 k _ HX.out).2.2.2.1
        have e_b4 := (View.cellB hV.out.at.2.2.2.2.2 k _ HX.out).2.2.2.2
        obtain ⟨W9, hW9⟩ : ∃ W, W = W8.alloc (.cells #[.int .u64 (bo.toNat : Int), .int .u64 (bs.toNat : Int), .bool bu, .int .i64 bw, .int .u64 (bl.toNat : Int)] 103) := ⟨_, rfl⟩
        obtain ⟨B3, eB3⟩ : ∃ B, B = W8.heap.size := ⟨_, rfl⟩
        replace hW9 := Lib.hid hW9
        replace eB3 := Lib.hid eB3
        go_wp2_with fail
        clear c_B1_0 f_B1_0 c_B1_1 f_B1_1 l_B1 c_B2_0 f_B2_0 c_B2_1 f_B2_1 c_B2_2 f_B2_2 c_B2_3 f_B2_3 c_B2_4 f_B2_4 l_B2 e_b0 e_b1 e_b2 e_b3 e_b4
        rw [← hW9.out]
        try rw [← eB3.out]
        have k3 : Keeps Nil W8 W9 := by rw [hW9.out]; exact alloc_keeps _ _
        have e0B3 : B3 = W8.heap.size := by rw [eB3.out]
        have hB3 := Lib.hid (show Bx W9 S1 B3 #[.int .u64 (bo.toNat : Int), .int .u64 (bs.toNat : Int), .bool bu, .int .i64 bw, .int .u64 (bl.toNat : Int)] 103 by rw [hW9.out]; exact Bx.new hT.out.lt _ _ e0B3)
        have gB3 := Lib.hid (show w.heap.size ≤ B3 by rw [e0B3]; exact hst.out.keeps.size)
        have nB1B3 := Lib.hid (show B1 < B3 by rw [e0B3]; exact hB1.out.lt)
        have nB2B3 := Lib.hid (show B2 < B3 by rw [e0B3]; exact hB2.out.lt)
        replace hst := Lib.hid (hst.out.nil k3)
        replace hV := Lib.hid (hV.out.keeps_nil k3)
        replace hT := Lib.hid (hT.out.nil k3)
        replace hB1 := Lib.hid (hB1.out.nil k3)
        replace hB2 := Lib.hid (hB2.out.nil k3)
        clear k3 e0B3
        obtain ⟨W10, hW10⟩ : ∃ W, W = W9.drew := ⟨_, rfl⟩
        replace hW10 := Lib.hid hW10
        have kn : Keeps Nil W9 W10 := by rw [hW10.out]; exact keeps_drew _
        replace hst := Lib.hid (hst.out.nil kn)
        replace hV := Lib.hid (hV.out.keeps_nil kn)
        replace hT := Lib.hid (hT.out.nil kn)
        replace hB1 := Lib.hid (hB1.out.nil kn)
        replace hB2 := Lib.hid (hB2.out.nil kn)
        replace hB3 := Lib.hid (hB3.out.nil kn)
        clear kn
        refine wp_region_held_drew (S := fun w' => w'.cell? ⟨B1, 0, none⟩ = some (.slice (some ⟨ab, ao, none⟩) 600 ac) ∧ w'.cell? ⟨B1, 1, none⟩ = some (.slice a2 P.length c2) ∧ w'.cell? ⟨B2, 0, none⟩ = some (.int .u64 (qo.toNat : Int)) ∧ w'.cell? ⟨B2, 1, none⟩ = some (.int .u64 (qs.toNat : Int)) ∧ w'.cell? ⟨B2, 2, none⟩ = some (.bool qu) ∧ w'.cell? ⟨B2, 3, none⟩ = some (.int .i64 qw) ∧ w'.cell? ⟨B2, 4, none⟩ = some (.int .u64 (ql.toNat : Int)) ∧ w'.cell? ⟨B3, 0, none⟩ = some (.int .u64 (bo.toNat : Int)) ∧ w'.cell? ⟨B3, 1, none⟩ = some (.int .u64 (bs.toNat : Int)) ∧ w'.cell? ⟨B3, 2, none⟩ = some (.bool bu) ∧ w'.cell? ⟨B3, 3, none⟩ = some (.int .i64 bw) ∧ w'.cell? ⟨B3, 4, none⟩ = some (.int .u64 (bl.toNat : Int)) ∧ w'.cell? ⟨gb, go + k * 5, none⟩ = some (.int .u64 (bo.toNat : Int)) ∧ w'.cell? ⟨gb, go + k * 5 + 1, none⟩ = some (.int .u64 (bs.toNat : Int)) ∧ w'.cell? ⟨gb, go + k * 5 + 2, none⟩ = some (.bool bu) ∧ w'.cell? ⟨gb, go + k * 5 + 3, none⟩ = some (.int .i64 bw) ∧ w'.cell? ⟨gb, go + k * 5 + 4, none⟩ = some (.int .u64 (bl.toNat : Int))) (by kernel_rfl) (by rw [← hW10.out]; exact ⟨hB1.out.cell 0 _ rfl, hB1.out.cell 1 _ rfl, hB2.out.cell 0 _ rfl, hB2.out.cell 1 _ rfl, hB2.out.cell 2 _ rfl, hB2.out.cell 3 _ rfl, hB2.out.cell 4 _ rfl, hB3.out.cell 0 _ rfl, hB3.out.cell 1 _ rfl, hB3.out.cell 2 _ rfl, hB3.out.cell 3 _ rfl, hB3.out.cell 4 _ rfl, (View.cellB hV.out.at.2.2.2.2.2 k _ HX.out).1, (View.cellB hV.out.at.2.2.2.2.2 k _ HX.out).2.1, (View.cellB hV.out.at.2.2.2.2.2 k _ HX.out).2.2.1, (View.cellB hV.out.at.2.2.2.2.2 k _ HX.out).2.2.2.1, (View.cellB hV.out.at.2.2.2.2.2 k _ HX.out).2.2.2.2⟩) (fun hHeld => ?_)
        rw [← hW10.out] at hHeld ⊢
        refine wpAnyH_take (i := 0) (oi := _) (v := ?m60_v) rfl (by kernel_rfl) (by kernel_rfl) (by kernel_rfl) (fun _ _ _ h => h) (Or.inl ⟨by kernel_rfl, ?m60_h⟩) hHeld ?m60_r
        case m60_h => (intro w hSw; (try dsimp only at hSw); go_simp; try with_reducible rfl)
        try simp only [Act.put, List.getElem_toArray, List.getElem_cons_succ, List.getElem_cons_zero, List.setIfInBounds_toArray, List.set_cons_zero, List.set_cons_succ]
        refine wpAnyH_take (i := 1) (oi := _) (v := ?m61_v) rfl (by kernel_rfl) (by kernel_rfl) (by kernel_rfl) (fun _ _ _ h => h) (Or.inl ⟨by kernel_rfl, ?m61_h⟩) hHeld ?m61_r
        case m61_h => (intro w hSw; (try dsimp only at hSw); go_simp; try with_reducible rfl)
        try simp only [Act.put, List.getElem_toArray, List.getElem_cons_succ, List.getElem_cons_zero, List.setIfInBounds_toArray, List.set_cons_zero, List.set_cons_succ]
        refine wpAnyH_take (i := 2) (oi := _) (v := ?m62_v) rfl (by kernel_rfl) (by kernel_rfl) (by kernel_rfl) (fun _ _ _ h => h) (Or.inl ⟨by kernel_rfl, ?m62_h⟩) hHeld ?m62_r
        case m62_h => (intro w hSw; (try dsimp only at hSw); go_simp; try with_reducible rfl)
        try simp only [Act.put, List.getElem_toArray, List.getElem_cons_succ, List.getElem_cons_zero, List.setIfInBounds_toArray, List.set_cons_zero, List.set_cons_succ]
        refine wpAnyH_take (i := 3) (oi := _) (v := ?m63_v) rfl (by kernel_rfl) (by kernel_rfl) (by kernel_rfl) (fun _ _ _ h => h) (Or.inl ⟨by kernel_rfl, ?m63_h⟩) hHeld ?m63_r
        case m63_h => (intro w hSw; (try dsimp only at hSw); go_simp; try with_reducible rfl)
        try simp only [Act.put, List.getElem_toArray, List.getElem_cons_succ, List.getElem_cons_zero, List.setIfInBounds_toArray, List.set_cons_zero, List.set_cons_succ]
        refine wpAnyH_take (i := 4) (oi := _) (v := ?m64_v) rfl (by kernel_rfl) (by kernel_rfl) (by kernel_rfl) (fun _ _ _ h => h) (Or.inl ⟨by kernel_rfl, ?m64_h⟩) hHeld ?m64_r
        case m64_h => (intro w hSw; (try dsimp only at hSw); go_simp; try with_reducible rfl)
        try simp only [Act.put, List.getElem_toArray, List.getElem_cons_succ, List.getElem_cons_zero, List.setIfInBounds_toArray, List.set_cons_zero, List.set_cons_succ]
        refine wpAnyH_take (i := 5) (oi := _) (v := ?m65_v) rfl (by kernel_rfl) (by kernel_rfl) (by kernel_rfl) (fun _ _ _ h => h) (Or.inl ⟨by kernel_rfl, ?m65_h⟩) hHeld ?m65_r
        case m65_h => (intro w hSw; (try dsimp only at hSw); go_simp; try with_reducible rfl)
        try simp only [Act.put, List.getElem_toArray, List.getElem_cons_succ, List.getElem_cons_zero, List.setIfInBounds_toArray, List.set_cons_zero, List.set_cons_succ]
        refine wpAnyH_take (i := 6) (oi := _) (v := ?m66_v) rfl (by kernel_rfl) (by kernel_rfl) (by kernel_rfl) (fun _ _ _ h => h) (Or.inl ⟨by kernel_rfl, ?m66_h⟩) hHeld ?m66_r
        case m66_h => (intro w hSw; (try dsimp only at hSw); go_simp; try with_reducible rfl)
        try simp only [Act.put, List.getElem_toArray, List.getElem_cons_succ, List.getElem_cons_zero, List.setIfInBounds_toArray, List.set_cons_zero, List.set_cons_succ]
        refine wpAnyH_take (i := 7) (oi := _) (v := ?m67_v) rfl (by kernel_rfl) (by kernel_rfl) (by kernel_rfl) (fun _ _ _ h => h) (Or.inl ⟨by kernel_rfl, ?m67_h⟩) hHeld ?m67_r
        case m67_h => (intro w hSw; (try dsimp only at hSw); go_simp; try with_reducible rfl)
        try simp only [Act.put, List.getElem_toArray, List.getElem_cons_succ, List.getElem_cons_zero, List.setIfInBounds_toArray, List.set_cons_zero, List.set_cons_succ]
        refine wpAnyH_take (i := 8) (oi := _) (v := ?m68_v) rfl (by kernel_rfl) (by kernel_rfl) (by kernel_rfl) (fun _ _ _ h => h) (Or.inl ⟨by kernel_rfl, ?m68_h⟩) hHeld ?m68_r
        case m68_h => (intro w hSw; (try dsimp only at hSw); go_simp; try with_reducible rfl)
        try simp only [Act.put, List.getElem_toArray, List.getElem_cons_succ, List.getElem_cons_zero, List.setIfInBounds_toArray, List.set_cons_zero, List.set_cons_succ]
        refine wpAnyH_take (i := 9) (oi := _) (v := ?m69_v) rfl (by kernel_rfl) (by kernel_rfl) (by kernel_rfl) (fun _ _ _ h => h) (Or.inl ⟨by kernel_rfl, ?m69_h⟩) hHeld ?m69_r
        case m69_h => (intro w hSw; (try dsimp only at hSw); go_simp; try with_reducible rfl)
        try simp only [Act.put, List.getElem_toArray, List.getElem_cons_succ, List.getElem_cons_zero, List.setIfInBounds_toArray, List.set_cons_zero, List.set_cons_succ]
        have qs1 : ∀ w, (binOp .neq 103 (.agg #[.int .u64 (bo.toNat : Int), .int .u64 (bs.toNat : Int), .bool bu, .int .i64 bw, .int .u64 (bl.toNat : Int)]) (.agg #[.int .u64 (bo.toNat : Int), .int .u64 (bs.toNat : Int), .bool bu, .int .i64 bw, .int .u64 (bl.toNat : Int)])).run Try.prog w = .ok (.bool false) w := blk_neq_no rfl
        refine wpAnyH_take (i := 10) (oi := _) (v := ?m70_v) rfl (by kernel_rfl) (by kernel_rfl) (by kernel_rfl) (fun _ _ _ h => h) (Or.inl ⟨by kernel_rfl, ?m70_h⟩) hHeld ?m70_r
        case m70_h => (intro w hSw; (try dsimp only at hSw); go_simp; try with_reducible rfl)
        try simp only [Act.put, List.getElem_toArray, List.getElem_cons_succ, List.getElem_cons_zero, List.setIfInBounds_toArray, List.set_cons_zero, List.set_cons_succ]
        refine wpAnyH_take (i := 11) (oi := _) (v := ?m71_v) rfl (by kernel_rfl) (by kernel_rfl) (by kernel_rfl) (fun _ _ _ h => h) (Or.inl ⟨by kernel_rfl, ?m71_h⟩) hHeld ?m71_r
        case m71_h => (intro w hSw; (try dsimp only at hSw); go_simp; try with_reducible rfl)
        try simp only [Act.put, List.getElem_toArray, List.getElem_cons_succ, List.getElem_cons_zero, List.setIfInBounds_toArray, List.set_cons_zero, List.set_cons_succ]
        refine wpAnyH_take (i := 12) (oi := _) (v := ?m72_v) rfl (by kernel_rfl) (by kernel_rfl) (by kernel_rfl) (fun _ _ _ h => h) (Or.inl ⟨by kernel_rfl, ?m72_h⟩) hHeld ?m72_r
        case m72_h => (intro w hSw; (try dsimp only at hSw); go_simp; try with_reducible rfl)
        try simp only [Act.put, List.getElem_toArray, List.getElem_cons_succ, List.getElem_cons_zero, List.setIfInBounds_toArray, List.set_cons_zero, List.set_cons_succ]
        refine wpAnyH_done (by kernel_rfl) ?_ _
        clear hHeld
        have c_B1_0 := hB1.out.cell 0 _ rfl
        have f_B1_0 := hB1.out.frz 0
        have c_B1_1 := hB1.out.cell 1 _ rfl
        have f_B1_1 := hB1.out.frz 1
        have l_B1 := hB1.out.lt
        have c_B2_0 := hB2.out.cell 0 _ rfl
        have f_B2_0 := hB2.out.frz 0
        have c_B2_1 := hB2.out.cell 1 _ rfl
        have f_B2_1 := hB2.out.frz 1
        have c_B2_2 := hB2.out.cell 2 _ rfl
        have f_B2_2 := hB2.out.frz 2
        have c_B2_3 := hB2.out.cell 3 _ rfl
        have f_B2_3 := hB2.out.frz 3
        have c_B2_4 := hB2.out.cell 4 _ rfl
        have f_B2_4 := hB2.out.frz 4
        have l_B2 := hB2.out.lt
        have c_B3_0 := hB3.out.cell 0 _ rfl
        have f_B3_0 := hB3.out.frz 0
        have c_B3_1 := hB3.out.cell 1 _ rfl
        have f_B3_1 := hB3.out.frz 1
        have c_B3_2 := hB3.out.cell 2 _ rfl
        have f_B3_2 := hB3.out.frz 2
        have c_B3_3 := hB3.out.cell 3 _ rfl
        have f_B3_3 := hB3.out.frz 3
        have c_B3_4 := hB3.out.cell 4 _ rfl
        have f_B3_4 := hB3.out.frz 4
        have l_B3 := hB3.out.lt
        have e_b0 := (View.cellB hV.out.at.2.2.2.2.2 k _ HX.out).1
        have e_b1 := (View.cellB hV.out.at.2.2.2.2.2 k _ HX.out).2.1
        have e_b2 := (View.cellB hV.out.at.2.2.2.2.2 k _ HX.out).2.2.1
        have e_b3 := (View.cellB hV.out.at.2.2.2.2.2 k _ HX.out).2.2.2.1
        have e_b4 := (View.cellB hV.out.at.2.2.2.2.2 k _ HX.out).2.2.2.2
        go_wp2_with fail
        clear c_B1_0 f_B1_0 c_B1_1 f_B1_1 l_B1 c_B2_0 f_B2_0 c_B2_1 f_B2_1 c_B2_2 f_B2_2 c_B2_3 f_B2_3 c_B2_4 f_B2_4 l_B2 c_B3_0 f_B3_0 c_B3_1 f_B3_1 c_B3_2 f_B3_2 c_B3_3 f_B3_3 c_B3_4 f_B3_4 l_B3 e_b0 e_b1 e_b2 e_b3 e_b4
        go_roundw
        case rel => exact ⟨⟨j, hjN, rfl, hst, hT, hV⟩, hB1⟩
        case measure => simp [intOf]; have := HJ.out; omega
      · have hd : decide (j < N) = false := decide_eq_false hm
        obtain ⟨⟨zo, ⟨zs, zu, zw⟩, zl⟩, hz⟩ : ∃ z, z = blockOf none := ⟨_, rfl⟩
        obtain ⟨⟨vo, ⟨vs, vu, vw⟩, vl⟩, hv⟩ : ∃ z, z = blockOf (besideO L zo (-1)) := ⟨_, rfl⟩
        obtain ⟨vis, hvi⟩ : ∃ z, z = (besideO L zo (-1)).isSome := ⟨_, rfl⟩
        have HX := Lib.hid hx
        have HA := Lib.hid (HR.out.last hx (by have := HN.out; omega))
        have HZ := Lib.hid (And.intro hz (And.intro hv hvi))
        have HJ := Lib.hid hj
        have hjN : j ≤ N := by omega
        clear hx hj hz hv hvi
        have c_B1_0 := hB1.out.cell 0 _ rfl
        have f_B1_0 := hB1.out.frz 0
        have c_B1_1 := hB1.out.cell 1 _ rfl
        have f_B1_1 := hB1.out.frz 1
        have l_B1 := hB1.out.lt
        have e_b0 := (View.cellB hV.out.at.2.2.2.2.2 k _ HX.out).1
        have e_b1 := (View.cellB hV.out.at.2.2.2.2.2 k _ HX.out).2.1
        have e_b2 := (View.cellB hV.out.at.2.2.2.2.2 k _ HX.out).2.2.1
        have e_b3 := (View.cellB hV.out.at.2.2.2.2.2 k _ HX.out).2.2.2.1
        have e_b4 := (View.cellB hV.out.at.2.2.2.2.2 k _ HX.out).2.2.2.2
        go_wp2_with fail
        clear c_B1_0 f_B1_0 c_B1_1 f_B1_1 l_B1 e_b0 e_b1 e_b2 e_b3 e_b4
        refine (pAfter_any (show View kB S1 _ (.slice (some ⟨gb, go, none⟩) N cl) L by rw [HN.out]; exact hV.out) bo _ rfl).mono ?_
        rintro _ W5 ⟨rfl, kn⟩
        rw [HA.out, ← HZ.out.1, BlockV.cells_def, Option.isSome_none]
        replace hst := Lib.hid (hst.out.nil kn)
        replace hV := Lib.hid (hV.out.keeps_nil kn)
        replace hT := Lib.hid (hT.out.nil kn)
        replace hB1 := Lib.hid (hB1.out.nil kn)
        clear kn
        have c_B1_0 := hB1.out.cell 0 _ rfl
        have f_B1_0 := hB1.out.frz 0
        have c_B1_1 := hB1.out.cell 1 _ rfl
        have f_B1_1 := hB1.out.frz 1
        have l_B1 := hB1.out.lt
        have e_b0 := (View.cellB hV.out.at.2.2.2.2.2 k _ HX.out).1
        have e_b1 := (View.cellB hV.out.at.2.2.2.2.2 k _ HX.out).2.1
        have e_b2 := (View.cellB hV.out.at.2.2.2.2.2 k _ HX.out).2.2.1
        have e_b3 := (View.cellB hV.out.at.2.2.2.2.2 k _ HX.out).2.2.2.1
        have e_b4 := (View.cellB hV.out.at.2.2.2.2.2 k _ HX.out).2.2.2.2
        obtain ⟨W6, hW6⟩ : ∃ W, W = W5.alloc (.cells #[.int .u64 (zo.toNat : Int), .int .u64 (zs.toNat : Int), .bool zu, .int .i64 zw, .int .u64 (zl.toNat : Int)] 103) := ⟨_, rfl⟩
        obtain ⟨B2, eB2⟩ : ∃ B, B = W5.heap.size := ⟨_, rfl⟩
        replace hW6 := Lib.hid hW6
        replace eB2 := Lib.hid eB2
        go_wp2_with fail
        clear c_B1_0 f_B1_0 c_B1_1 f_B1_1 l_B1 e_b0 e_b1 e_b2 e_b3 e_b4
        rw [← hW6.out]
        try rw [← eB2.out]
        have k2 : Keeps Nil W5 W6 := by rw [hW6.out]; exact alloc_keeps _ _
        have e0B2 : B2 = W5.heap.size := by rw [eB2.out]
        have hB2 := Lib.hid (show Bx W6 S1 B2 #[.int .u64 (zo.toNat : Int), .int .u64 (zs.toNat : Int), .bool zu, .int .i64 zw, .int .u64 (zl.toNat : Int)] 103 by rw [hW6.out]; exact Bx.new hT.out.lt _ _ e0B2)
        have gB2 := Lib.hid (show w.heap.size ≤ B2 by rw [e0B2]; exact hst.out.keeps.size)
        have nB1B2 := Lib.hid (show B1 < B2 by rw [e0B2]; exact hB1.out.lt)
        replace hst := Lib.hid (hst.out.nil k2)
        replace hV := Lib.hid (hV.out.keeps_nil k2)
        replace hT := Lib.hid (hT.out.nil k2)
        replace hB1 := Lib.hid (hB1.out.nil k2)
        clear k2 e0B2
        obtain ⟨W7, hW7⟩ : ∃ W, W = W6.drew := ⟨_, rfl⟩
        replace hW7 := Lib.hid hW7
        have kn : Keeps Nil W6 W7 := by rw [hW7.out]; exact keeps_drew _
        replace hst := Lib.hid (hst.out.nil kn)
        replace hV := Lib.hid (hV.out.keeps_nil kn)
        replace hT := Lib.hid (hT.out.nil kn)
        replace hB1 := Lib.hid (hB1.out.nil kn)
        replace hB2 := Lib.hid (hB2.out.nil kn)
        clear kn
        refine wp_region_held_drew (S := fun w' => w'.cell? ⟨B1, 0, none⟩ = some (.slice (some ⟨ab, ao, none⟩) 600 ac) ∧ w'.cell? ⟨B1, 1, none⟩ = some (.slice a2 P.length c2) ∧ w'.cell? ⟨B2, 0, none⟩ = some (.int .u64 (zo.toNat : Int)) ∧ w'.cell? ⟨B2, 1, none⟩ = some (.int .u64 (zs.toNat : Int)) ∧ w'.cell? ⟨B2, 2, none⟩ = some (.bool zu) ∧ w'.cell? ⟨B2, 3, none⟩ = some (.int .i64 zw) ∧ w'.cell? ⟨B2, 4, none⟩ = some (.int .u64 (zl.toNat : Int)) ∧ w'.cell? ⟨gb, go + k * 5, none⟩ = some (.int .u64 (bo.toNat : Int)) ∧ w'.cell? ⟨gb, go + k * 5 + 1, none⟩ = some (.int .u64 (bs.toNat : Int)) ∧ w'.cell? ⟨gb, go + k * 5 + 2, none⟩ = some (.bool bu) ∧ w'.cell? ⟨gb, go + k * 5 + 3, none⟩ = some (.int .i64 bw) ∧ w'.cell? ⟨gb, go + k * 5 + 4, none⟩ = some (.int .u64 (bl.toNat : Int))) (by kernel_rfl) (by rw [← hW7.out]; exact ⟨hB1.out.cell 0 _ rfl, hB1.out.cell 1 _ rfl, hB2.out.cell 0 _ rfl, hB2.out.cell 1 _ rfl, hB2.out.cell 2 _ rfl, hB2.out.cell 3 _ rfl, hB2.out.cell 4 _ rfl, (View.cellB hV.out.at.2.2.2.2.2 k _ HX.out).1, (View.cellB hV.out.at.2.2.2.2.2 k _ HX.out).2.1, (View.cellB hV.out.at.2.2.2.2.2 k _ HX.out).2.2.1, (View.cellB hV.out.at.2.2.2.2.2 k _ HX.out).2.2.2.1, (View.cellB hV.out.at.2.2.2.2.2 k _ HX.out).2.2.2.2⟩) (fun hHeld => ?_)
        rw [← hW7.out] at hHeld ⊢
        refine wpAnyH_take (i := 0) (oi := _) (v := ?m73_v) rfl (by kernel_rfl) (by kernel_rfl) (by kernel_rfl) (fun _ _ _ h => h) (Or.inl ⟨by kernel_rfl, ?m73_h⟩) hHeld ?m73_r
        case m73_h => (intro w hSw; (try dsimp only at hSw); go_simp; try with_reducible rfl)
        try simp only [Act.put, List.getElem_toArray, List.getElem_cons_succ, List.getElem_cons_zero, List.setIfInBounds_toArray, List.set_cons_zero, List.set_cons_succ]
        refine wpAnyH_take (i := 1) (oi := _) (v := ?m74_v) rfl (by kernel_rfl) (by kernel_rfl) (by kernel_rfl) (fun _ _ _ h => h) (Or.inl ⟨by kernel_rfl, ?m74_h⟩) hHeld ?m74_r
        case m74_h => (intro w hSw; (try dsimp only at hSw); go_simp; try with_reducible rfl)
        try simp only [Act.put, List.getElem_toArray, List.getElem_cons_succ, List.getElem_cons_zero, List.setIfInBounds_toArray, List.set_cons_zero, List.set_cons_succ]
        refine wpAnyH_take (i := 2) (oi := _) (v := ?m75_v) rfl (by kernel_rfl) (by kernel_rfl) (by kernel_rfl) (fun _ _ _ h => h) (Or.inl ⟨by kernel_rfl, ?m75_h⟩) hHeld ?m75_r
        case m75_h => (intro w hSw; (try dsimp only at hSw); go_simp; try with_reducible rfl)
        try simp only [Act.put, List.getElem_toArray, List.getElem_cons_succ, List.getElem_cons_zero, List.setIfInBounds_toArray, List.set_cons_zero, List.set_cons_succ]
        refine wpAnyH_take (i := 3) (oi := _) (v := ?m76_v) rfl (by kernel_rfl) (by kernel_rfl) (by kernel_rfl) (fun _ _ _ h => h) (Or.inl ⟨by kernel_rfl, ?m76_h⟩) hHeld ?m76_r
        case m76_h => (intro w hSw; (try dsimp only at hSw); go_simp; try with_reducible rfl)
        try simp only [Act.put, List.getElem_toArray, List.getElem_cons_succ, List.getElem_cons_zero, List.setIfInBounds_toArray, List.set_cons_zero, List.set_cons_succ]
        refine wpAnyH_take (i := 4) (oi := _) (v := ?m77_v) rfl (by kernel_rfl) (by kernel_rfl) (by kernel_rfl) (fun _ _ _ h => h) (Or.inl ⟨by kernel_rfl, ?m77_h⟩) hHeld ?m77_r
        case m77_h => (intro w hSw; (try dsimp only at hSw); go_simp; try with_reducible rfl)
        try simp only [Act.put, List.getElem_toArray, List.getElem_cons_succ, List.getElem_cons_zero, List.setIfInBounds_toArray, List.set_cons_zero, List.set_cons_succ]
        refine wpAnyH_take (i := 5) (oi := _) (v := ?m78_v) rfl (by kernel_rfl) (by kernel_rfl) (by kernel_rfl) (fun _ _ _ h => h) (Or.inl ⟨by kernel_rfl, ?m78_h⟩) hHeld ?m78_r
        case m78_h => (intro w hSw; (try dsimp only at hSw); go_simp; try with_reducible rfl)
        try simp only [Act.put, List.getElem_toArray, List.getElem_cons_succ, List.getElem_cons_zero, List.setIfInBounds_toArray, List.set_cons_zero, List.set_cons_succ]
        refine wpAnyH_take (i := 6) (oi := _) (v := ?m79_v) rfl (by kernel_rfl) (by kernel_rfl) (by kernel_rfl) (fun _ _ _ h => h) (Or.inl ⟨by kernel_rfl, ?m79_h⟩) hHeld ?m79_r
        case m79_h => (intro w hSw; (try dsimp only at hSw); go_simp; try with_reducible rfl)
        try simp only [Act.put, List.getElem_toArray, List.getElem_cons_succ, List.getElem_cons_zero, List.setIfInBounds_toArray, List.set_cons_zero, List.set_cons_succ]
        refine wpAnyH_take (i := 7) (oi := _) (v := ?m80_v) rfl (by kernel_rfl) (by kernel_rfl) (by kernel_rfl) (fun _ _ _ h => h) (Or.inl ⟨by kernel_rfl, ?m80_h⟩) hHeld ?m80_r
        case m80_h => (intro w hSw; (try dsimp only at hSw); go_simp; try with_reducible rfl)
        try simp only [Act.put, List.getElem_toArray, List.getElem_cons_succ, List.getElem_cons_zero, List.setIfInBounds_toArray, List.set_cons_zero, List.set_cons_succ]
        refine wpAnyH_take (i := 8) (oi := _) (v := ?m81_v) rfl (by kernel_rfl) (by kernel_rfl) (by kernel_rfl) (fun _ _ _ h => h) (Or.inl ⟨by kernel_rfl, ?m81_h⟩) hHeld ?m81_r
        case m81_h => (intro w hSw; (try dsimp only at hSw); go_simp; try with_reducible rfl)
        try simp only [Act.put, List.getElem_toArray, List.getElem_cons_succ, List.getElem_cons_zero, List.setIfInBounds_toArray, List.set_cons_zero, List.set_cons_succ]
        refine wpAnyH_take (i := 9) (oi := _) (v := ?m82_v) rfl (by kernel_rfl) (by kernel_rfl) (by kernel_rfl) (fun _ _ _ h => h) (Or.inl ⟨by kernel_rfl, ?m82_h⟩) hHeld ?m82_r
        case m82_h => (intro w hSw; (try dsimp only at hSw); go_simp; try with_reducible rfl)
        try simp only [Act.put, List.getElem_toArray, List.getElem_cons_succ, List.getElem_cons_zero, List.setIfInBounds_toArray, List.set_cons_zero, List.set_cons_succ]
        refine wpAnyH_take (i := 10) (oi := _) (v := undef) rfl (by kernel_rfl) (by kernel_rfl) (by kernel_rfl) (fun _ _ _ h => h) (Or.inr ⟨by kernel_rfl, rfl⟩) hHeld ?_
        try simp only [Act.put, List.getElem_toArray, List.getElem_cons_succ, List.getElem_cons_zero, List.setIfInBounds_toArray, List.set_cons_zero, List.set_cons_succ]
        refine wpAnyH_take (i := 11) (oi := _) (v := undef) rfl (by kernel_rfl) (by kernel_rfl) (by kernel_rfl) (fun _ _ _ h => h) (Or.inr ⟨by kernel_rfl, rfl⟩) hHeld ?_
        try simp only [Act.put, List.getElem_toArray, List.getElem_cons_succ, List.getElem_cons_zero, List.setIfInBounds_toArray, List.set_cons_zero, List.set_cons_succ]
        refine wpAnyH_take (i := 12) (oi := _) (v := undef) rfl (by kernel_rfl) (by kernel_rfl) (by kernel_rfl) (fun _ _ _ h => h) (Or.inr ⟨by kernel_rfl, rfl⟩) hHeld ?_
        try simp only [Act.put, List.getElem_toArray, List.getElem_cons_succ, List.getElem_cons_zero, List.setIfInBounds_toArray, List.set_cons_zero, List.set_cons_succ]
        refine wpAnyH_take (i := 13) (oi := _) (v := undef) rfl (by kernel_rfl) (by kernel_rfl) (by kernel_rfl) (fun _ _ _ h => h) (Or.inr ⟨by kernel_rfl, rfl⟩) hHeld ?_
        try simp only [Act.put, List.getElem_toArray, List.getElem_cons_succ, List.getElem_cons_zero, List.setIfInBounds_toArray, List.set_cons_zero, List.set_cons_succ]
        refine wpAnyH_take (i := 14) (oi := _) (v := undef) rfl (by kernel_rfl) (by kernel_rfl) (by kernel_rfl) (fun _ _ _ h => h) (Or.inr ⟨by kernel_rfl, rfl⟩) hHeld ?_
        try simp only [Act.put, List.getElem_toArray, List.getElem_cons_succ, List.getElem_cons_zero, List.setIfInBounds_toArray, List.set_cons_zero, List.set_cons_succ]
        refine wpAnyH_take (i := 15) (oi := _) (v := undef) rfl (by kernel_rfl) (by kernel_rfl) (by kernel_rfl) (fun _ _ _ h => h) (Or.inr ⟨by kernel_rfl, rfl⟩) hHeld ?_
        try simp only [Act.put, List.getElem_toArray, List.getElem_cons_succ, List.getElem_cons_zero, List.setIfInBounds_toArray, List.set_cons_zero, List.set_cons_succ]
        refine wpAnyH_take (i := 16) (oi := _) (v := undef) rfl (by kernel_rfl) (by kernel_rfl) (by kernel_rfl) (fun _ _ _ h => h) (Or.inr ⟨by kernel_rfl, rfl⟩) hHeld ?_
        try simp only [Act.put, List.getElem_toArray, List.getElem_cons_succ, List.getElem_cons_zero, List.setIfInBounds_toArray, List.set_cons_zero, List.set_cons_succ]
        refine wpAnyH_take (i := 17) (oi := _) (v := undef) rfl (by kernel_rfl) (by kernel_rfl) (by kernel_rfl) (fun _ _ _ h => h) (Or.inr ⟨by kernel_rfl, rfl⟩) hHeld ?_
        try simp only [Act.put, List.getElem_toArray, List.getElem_cons_succ, List.getElem_cons_zero, List.setIfInBounds_toArray, List.set_cons_zero, List.set_cons_succ]
        refine wpAnyH_take (i := 18) (oi := _) (v := undef) rfl (by kernel_rfl) (by kernel_rfl) (by kernel_rfl) (fun _ _ _ h => h) (Or.inr ⟨by kernel_rfl, rfl⟩) hHeld ?_
        try simp only [Act.put, List.getElem_toArray, List.getElem_cons_succ, List.getElem_cons_zero, List.setIfInBounds_toArray, List.set_cons_zero, List.set_cons_succ]
        refine wpAnyH_take (i := 19) (oi := _) (v := undef) rfl (by kernel_rfl) (by kernel_rfl) (by kernel_rfl) (fun _ _ _ h => h) (Or.inr ⟨by kernel_rfl, rfl⟩) hHeld ?_
        try simp only [Act.put, List.getElem_toArray, List.getElem_cons_succ, List.getElem_cons_zero, List.setIfInBounds_toArray, List.set_cons_zero, List.set_cons_succ]
        refine wpAnyH_take (i := 20) (oi := _) (v := undef) rfl (by kernel_rfl) (by kernel_rfl) (by kernel_rfl) (fun _ _ _ h => h) (Or.inr ⟨by kernel_rfl, rfl⟩) hHeld ?_
        try simp only [Act.put, List.getElem_toArray, List.getElem_cons_succ, List.getElem_cons_zero, List.setIfInBounds_toArray, List.set_cons_zero, List.set_cons_succ]
        refine wpAnyH_take (i := 21) (oi := _) (v := undef) rfl (by kernel_rfl) (by kernel_rfl) (by kernel_rfl) (fun _ _ _ h => h) (Or.inr ⟨by kernel_rfl, rfl⟩) hHeld ?_
        try simp only [Act.put, List.getElem_toArray, List.getElem_cons_succ, List.getElem_cons_zero, List.setIfInBounds_toArray, List.set_cons_zero, List.set_cons_succ]
        refine wpAnyH_take (i := 22) (oi := _) (v := undef) rfl (by kernel_rfl) (by kernel_rfl) (by kernel_rfl) (fun _ _ _ h => h) (Or.inr ⟨by kernel_rfl, rfl⟩) hHeld ?_
        try simp only [Act.put, List.getElem_toArray, List.getElem_cons_succ, List.getElem_cons_zero, List.setIfInBounds_toArray, List.set_cons_zero, List.set_cons_succ]
        refine wpAnyH_take (i := 23) (oi := _) (v := undef) rfl (by kernel_rfl) (by kernel_rfl) (by kernel_rfl) (fun _ _ _ h => h) (Or.inr ⟨by kernel_rfl, rfl⟩) hHeld ?_
        try simp only [Act.put, List.getElem_toArray, List.getElem_cons_succ, List.getElem_cons_zero, List.setIfInBounds_toArray, List.set_cons_zero, List.set_cons_succ]
        refine wpAnyH_take (i := 24) (oi := _) (v := undef) rfl (by kernel_rfl) (by kernel_rfl) (by kernel_rfl) (fun _ _ _ h => h) (Or.inr ⟨by kernel_rfl, rfl⟩) hHeld ?_
        try simp only [Act.put, List.getElem_toArray, List.getElem_cons_succ, List.getElem_cons_zero, List.setIfInBounds_toArray, List.set_cons_zero, List.set_cons_succ]
        refine wpAnyH_take (i := 25) (oi := _) (v := ?m83_v) rfl (by kernel_rfl) (by kernel_rfl) (by kernel_rfl) (fun _ _ _ h => h) (Or.inl ⟨by kernel_rfl, ?m83_h⟩) hHeld ?m83_r
        case m83_h => (intro w hSw; (try dsimp only at hSw); go_simp; try with_reducible rfl)
        try simp only [Act.put, List.getElem_toArray, List.getElem_cons_succ, List.getElem_cons_zero, List.setIfInBounds_toArray, List.set_cons_zero, List.set_cons_succ]
        refine wpAnyH_take (i := 26) (oi := _) (v := ?m84_v) rfl (by kernel_rfl) (by kernel_rfl) (by kernel_rfl) (fun _ _ _ h => h) (Or.inl ⟨by kernel_rfl, ?m84_h⟩) hHeld ?m84_r
        case m84_h => (intro w hSw; (try dsimp only at hSw); go_simp; try with_reducible rfl)
        try simp only [Act.put, List.getElem_toArray, List.getElem_cons_succ, List.getElem_cons_zero, List.setIfInBounds_toArray, List.set_cons_zero, List.set_cons_succ]
        refine wpAnyH_done (by kernel_rfl) ?_ _
        clear hHeld
        have c_B1_0 := hB1.out.cell 0 _ rfl
        have f_B1_0 := hB1.out.frz 0
        have c_B1_1 := hB1.out.cell 1 _ rfl
        have f_B1_1 := hB1.out.frz 1
        have l_B1 := hB1.out.lt
        have c_B2_0 := hB2.out.cell 0 _ rfl
        have f_B2_0 := hB2.out.frz 0
        have c_B2_1 := hB2.out.cell 1 _ rfl
        have f_B2_1 := hB2.out.frz 1
        have c_B2_2 := hB2.out.cell 2 _ rfl
        have f_B2_2 := hB2.out.frz 2
        have c_B2_3 := hB2.out.cell 3 _ rfl
        have f_B2_3 := hB2.out.frz 3
        have c_B2_4 := hB2.out.cell 4 _ rfl
        have f_B2_4 := hB2.out.frz 4
        have l_B2 := hB2.out.lt
        have e_b0 := (View.cellB hV.out.at.2.2.2.2.2 k _ HX.out).1
        have e_b1 := (View.cellB hV.out.at.2.2.2.2.2 k _ HX.out).2.1
        have e_b2 := (View.cellB hV.out.at.2.2.2.2.2 k _ HX.out).2.2.1
        have e_b3 := (View.cellB hV.out.at.2.2.2.2.2 k _ HX.out).2.2.2.1
        have e_b4 := (View.cellB hV.out.at.2.2.2.2.2 k _ HX.out).2.2.2.2
        go_wp2_with fail
        clear c_B1_0 f_B1_0 c_B1_1 f_B1_1 l_B1 c_B2_0 f_B2_0 c_B2_1 f_B2_1 c_B2_2 f_B2_2 c_B2_3 f_B2_3 c_B2_4 f_B2_4 l_B2 e_b0 e_b1 e_b2 e_b3 e_b4
        refine (pBefore_any (show View kB S1 _ (.slice (some ⟨gb, go, none⟩) N cl) L by rw [HN.out]; exact hV.out) zo _ rfl).mono ?_
        rintro _ W8 ⟨rfl, kn⟩
        rw [← HZ.out.2.1, ← HZ.out.2.2, BlockV.cells_def]
        replace hst := Lib.hid (hst.out.nil kn)
        replace hV := Lib.hid (hV.out.keeps_nil kn)
        replace hT := Lib.hid (hT.out.nil kn)
        replace hB1 := Lib.hid (hB1.out.nil kn)
        replace hB2 := Lib.hid (hB2.out.nil kn)
        clear kn
        have c_B1_0 := hB1.out.cell 0 _ rfl
        have f_B1_0 := hB1.out.frz 0
        have c_B1_1 := hB1.out.cell 1 _ rfl
        have f_B1_1 := hB1.out.frz 1
        have l_B1 := hB1.out.lt
        have c_B2_0 := hB2.out.cell 0 _ rfl
        have f_B2_0 := hB2.out.frz 0
        have c_B2_1 := hB2.out.cell 1 _ rfl
        have f_B2_1 := hB2.out.frz 1
        have c_B2_2 := hB2.out.cell 2 _ rfl
        have f_B2_2 := hB2.out.frz 2
        have c_B2_3 := hB2.out.cell 3 _ rfl
        have f_B2_3 := hB2.out.frz 3
        have c_B2_4 := hB2.out.cell 4 _ rfl
        have f_B2_4 := hB2.out.frz 4
        have l_B2 := hB2.out.lt
        have e_b0 := (View.cellB hV.out.at.2.2.2.2.2 k _ HX.out).1
        have e_b1 := (View.cellB hV.out.at.2.2.2.2.2 k _ HX.out).2.1
        have e_b2 := (View.cellB hV.out.at.2.2.2.2.2 k _ HX.out).2.2.1
        have e_b3 := (View.cellB hV.out.at.2.2.2.2.2 k _ HX.out).2.2.2.1
        have e_b4 := (View.cellB hV.out.at.2.2.2.2.2 k _ HX.out).2.2.2.2
        obtain ⟨W9, hW9⟩ : ∃ W, W = W8.alloc (.cells #[.int .u64 (vo.toNat : Int), .int .u64 (vs.toNat : Int), .bool vu, .int .i64 vw, .int .u64 (vl.toNat : Int)] 103) := ⟨_, rfl⟩
        obtain ⟨B3, eB3⟩ : ∃ B, B = W8.heap.size := ⟨_, rfl⟩
        replace hW9 := Lib.hid hW9
        replace eB3 := Lib.hid eB3
        go_wp2_with fail
        clear c_B1_0 f_B1_0 c_B1_1 f_B1_1 l_B1 c_B2_0 f_B2_0 c_B2_1 f_B2_1 c_B2_2 f_B2_2 c_B2_3 f_B2_3 c_B2_4 f_B2_4 l_B2 e_b0 e_b1 e_b2 e_b3 e_b4
        rw [← hW9.out]
        try rw [← eB3.out]
        have k3 : Keeps Nil W8 W9 := by rw [hW9.out]; exact alloc_keeps _ _
        have e0B3 : B3 = W8.heap.size := by rw [eB3.out]
        have hB3 := Lib.hid (show Bx W9 S1 B3 #[.int .u64 (vo.toNat : Int), .int .u64 (vs.toNat : Int), .bool vu, .int .i64 vw, .int .u64 (vl.toNat : Int)] 103 by rw [hW9.out]; exact Bx.new hT.out.lt _ _ e0B3)
        have gB3 := Lib.hid (show w.heap.size ≤ B3 by rw [e0B3]; exact hst.out.keeps.size)
        have nB1B3 := Lib.hid (show B1 < B3 by rw [e0B3]; exact hB1.out.lt)
        have nB2B3 := Lib.hid (show B2 < B3 by rw [e0B3]; exact hB2.out.lt)
        replace hst := Lib.hid (hst.out.nil k3)
        replace hV := Lib.hid (hV.out.keeps_nil k3)
        replace hT := Lib.hid (hT.out.nil k3)
        replace hB1 := Lib.hid (hB1.out.nil k3)
        replace hB2 := Lib.hid (hB2.out.nil k3)
        clear k3 e0B3
        obtain ⟨W10, hW10⟩ : ∃ W, W = W9.drew := ⟨_, rfl⟩
        replace hW10 := Lib.hid hW10
        have kn : Keeps Nil W9 W10 := by rw [hW10.out]; exact keeps_drew _
        replace hst := Lib.hid (hst.out.nil kn)
        replace hV := Lib.hid (hV.out.keeps_nil kn)
        replace hT := Lib.hid (hT.out.nil kn)
        replace hB1 := Lib.hid (hB1.out.nil kn)
        replace hB2 := Lib.hid (hB2.out.nil kn)
        replace hB3 := Lib.hid (hB3.out.nil kn)
        clear kn
        refine wp_region_held_drew (S := fun w' => w'.cell? ⟨B1, 0, none⟩ = some (.slice (some ⟨ab, ao, none⟩) 600 ac) ∧ w'.cell? ⟨B1, 1, none⟩ = some (.slice a2 P.length c2) ∧ w'.cell? ⟨B2, 0, none⟩ = some (.int .u64 (zo.toNat : Int)) ∧ w'.cell? ⟨B2, 1, none⟩ = some (.int .u64 (zs.toNat : Int)) ∧ w'.cell? ⟨B2, 2, none⟩ = some (.bool zu) ∧ w'.cell? ⟨B2, 3, none⟩ = some (.int .i64 zw) ∧ w'.cell? ⟨B2, 4, none⟩ = some (.int .u64 (zl.toNat : Int)) ∧ w'.cell? ⟨B3, 0, none⟩ = some (.int .u64 (vo.toNat : Int)) ∧ w'.cell? ⟨B3, 1, none⟩ = some (.int .u64 (vs.toNat : Int)) ∧ w'.cell? ⟨B3, 2, none⟩ = some (.bool vu) ∧ w'.cell? ⟨B3, 3, none⟩ = some (.int .i64 vw) ∧ w'.cell? ⟨B3, 4, none⟩ = some (.int .u64 (vl.toNat : Int)) ∧ w'.cell? ⟨gb, go + k * 5, none⟩ = some (.int .u64 (bo.toNat : Int)) ∧ w'.cell? ⟨gb, go + k * 5 + 1, none⟩ = some (.int .u64 (bs.toNat : Int)) ∧ w'.cell? ⟨gb, go + k * 5 + 2, none⟩ = some (.bool bu) ∧ w'.cell? ⟨gb, go + k * 5 + 3, none⟩ = some (.int .i64 bw) ∧ w'.cell? ⟨gb, go + k * 5 + 4, none⟩ = some (.int .u64 (bl.toNat : Int))) (by kernel_rfl) (by rw [← hW10.out]; exact ⟨hB1.out.cell 0 _ rfl, hB1.out.cell 1 _ rfl, hB2.out.cell 0 _ rfl, hB2.out.cell 1 _ rfl, hB2.out.cell 2 _ rfl, hB2.out.cell 3 _ rfl, hB2.out.cell 4 _ rfl, hB3.out.cell 0 _ rfl, hB3.out.cell 1 _ rfl, hB3.out.cell 2 _ rfl, hB3.out.cell 3 _ rfl, hB3.out.cell 4 _ rfl, (View.cellB hV.out.at.2.2.2.2.2 k _ HX.out).1, (View.cellB hV.out.at.2.2.2.2.2 k _ HX.out).2.1, (View.cellB hV.out.at.2.2.2.2.2 k _ HX.out).2.2.1, (View.cellB hV.out.at.2.2.2.2.2 k _ HX.out).2.2.2.1, (View.cellB hV.out.at.2.2.2.2.2 k _ HX.out).2.2.2.2⟩) (fun hHeld => ?_)
        rw [← hW10.out] at hHeld ⊢
        refine wpAnyH_take (i := 0) (oi := _) (v := ?m85_v) rfl (by kernel_rfl) (by kernel_rfl) (by kernel_rfl) (fun _ _ _ h => h) (Or.inl ⟨by kernel_rfl, ?m85_h⟩) hHeld ?m85_r
        case m85_h => (intro w hSw; (try dsimp only at hSw); go_simp; try with_reducible rfl)
        try simp only [Act.put, List.getElem_toArray, List.getElem_cons_succ, List.getElem_cons_zero, List.setIfInBounds_toArray, List.set_cons_zero, List.set_cons_succ]
        refine wpAnyH_take (i := 1) (oi := _) (v := ?m86_v) rfl (by kernel_rfl) (by kernel_rfl) (by kernel_rfl) (fun _ _ _ h => h) (Or.inl ⟨by kernel_rfl, ?m86_h⟩) hHeld ?m86_r
        case m86_h => (intro w hSw; (try dsimp only at hSw); go_simp; try with_reducible rfl)
        try simp only [Act.put, List.getElem_toArray, List.getElem_cons_succ, List.getElem_cons_zero, List.setIfInBounds_toArray, List.set_cons_zero, List.set_cons_succ]
        refine wpAnyH_take (i := 2) (oi := _) (v := undef) rfl (by kernel_rfl) (by kernel_rfl) (by kernel_rfl) (fun _ _ _ h => h) (Or.inr ⟨by kernel_rfl, rfl⟩) hHeld ?_
        try simp only [Act.put, List.getElem_toArray, List.getElem_cons_succ, List.getElem_cons_zero, List.setIfInBounds_toArray, List.set_cons_zero, List.set_cons_succ]
        refine wpAnyH_take (i := 3) (oi := _) (v := undef) rfl (by kernel_rfl) (by kernel_rfl) (by kernel_rfl) (fun _ _ _ h => h) (Or.inr ⟨by kernel_rfl, rfl⟩) hHeld ?_
        try simp only [Act.put, List.getElem_toArray, List.getElem_cons_succ, List.getElem_cons_zero, List.setIfInBounds_toArray, List.set_cons_zero, List.set_cons_succ]
        refine wpAnyH_take (i := 4) (oi := _) (v := undef) rfl (by kernel_rfl) (by kernel_rfl) (by kernel_rfl) (fun _ _ _ h => h) (Or.inr ⟨by kernel_rfl, rfl⟩) hHeld ?_
        try simp only [Act.put, List.getElem_toArray, List.getElem_cons_succ, List.getElem_cons_zero, List.setIfInBounds_toArray, List.set_cons_zero, List.set_cons_succ]
        refine wpAnyH_take (i := 5) (oi := _) (v := undef) rfl (by kernel_rfl) (by kernel_rfl) (by kernel_rfl) (fun _ _ _ h => h) (Or.inr ⟨by kernel_rfl, rfl⟩) hHeld ?_
        try simp only [Act.put, List.getElem_toArray, List.getElem_cons_succ, List.getElem_cons_zero, List.setIfInBounds_toArray, List.set_cons_zero, List.set_cons_succ]
        refine wpAnyH_take (i := 6) (oi := _) (v := undef) rfl (by kernel_rfl) (by kernel_rfl) (by kernel_rfl) (fun _ _ _ h => h) (Or.inr ⟨by kernel_rfl, rfl⟩) hHeld ?_
        try simp only [Act.put, List.getElem_toArray, List.getElem_cons_succ, List.getElem_cons_zero, List.setIfInBounds_toArray, List.set_cons_zero, List.set_cons_succ]
        refine wpAnyH_take (i := 7) (oi := _) (v := undef) rfl (by kernel_rfl) (by kernel_rfl) (by kernel_rfl) (fun _ _ _ h => h) (Or.inr ⟨by kernel_rfl, rfl⟩) hHeld ?_
        try simp only [Act.put, List.getElem_toArray, List.getElem_cons_succ, List.getElem_cons_zero, List.setIfInBounds_toArray, List.set_cons_zero, List.set_cons_succ]
        refine wpAnyH_take (i := 8) (oi := _) (v := undef) rfl (by kernel_rfl) (by kernel_rfl) (by kernel_rfl) (fun _ _ _ h => h) (Or.inr ⟨by kernel_rfl, rfl⟩) hHeld ?_
        try simp only [Act.put, List.getElem_toArray, List.getElem_cons_succ, List.getElem_cons_zero, List.setIfInBounds_toArray, List.set_cons_zero, List.set_cons_succ]
        refine wpAnyH_take (i := 9) (oi := _) (v := undef) rfl (by kernel_rfl) (by kernel_rfl) (by kernel_rfl) (fun _ _ _ h => h) (Or.inr ⟨by kernel_rfl, rfl⟩) hHeld ?_
        try simp only [Act.put, List.getElem_toArray, List.getElem_cons_succ, List.getElem_cons_zero, List.setIfInBounds_toArray, List.set_cons_zero, List.set_cons_succ]
        refine wpAnyH_take (i := 10) (oi := _) (v := undef) rfl (by kernel_rfl) (by kernel_rfl) (by kernel_rfl) (fun _ _ _ h => h) (Or.inr ⟨by kernel_rfl, rfl⟩) hHeld ?_
        try simp only [Act.put, List.getElem_toArray, List.getElem_cons_succ, List.getElem_cons_zero, List.setIfInBounds_toArray, List.set_cons_zero, List.set_cons_succ]
        refine wpAnyH_take (i := 11) (oi := _) (v := undef) rfl (by kernel_rfl) (by kernel_rfl) (by kernel_rfl) (fun _ _ _ h => h) (Or.inr ⟨by kernel_rfl, rfl⟩) hHeld ?_
        try simp only [Act.put, List.getElem_toArray, List.getElem_cons_succ, List.getElem_cons_zero, List.setIfInBounds_toArray, List.set_cons_zero, List.set_cons_succ]
        refine wpAnyH_take (i := 12) (oi := _) (v := ?m87_v) rfl (by kernel_rfl) (by kernel_rfl) (by kernel_rfl) (fun _ _ _ h => h) (Or.inl ⟨by kernel_rfl, ?m87_h⟩) hHeld ?m87_r
        case m87_h => (intro w hSw; (try dsimp only at hSw); go_simp; try with_reducible rfl)
        try simp only [Act.put, List.getElem_toArray, List.getElem_cons_succ, List.getElem_cons_zero, List.setIfInBounds_toArray, List.set_cons_zero, List.set_cons_succ]
        refine wpAnyH_done (by kernel_rfl) ?_ _
        clear hHeld
        have c_B1_0 := hB1.out.cell 0 _ rfl
        have f_B1_0 := hB1.out.frz 0
        have c_B1_1 := hB1.out.cell 1 _ rfl
        have f_B1_1 := hB1.out.frz 1
        have l_B1 := hB1.out.lt
        have c_B2_0 := hB2.out.cell 0 _ rfl
        have f_B2_0 := hB2.out.frz 0
        have c_B2_1 := hB2.out.cell 1 _ rfl
        have f_B2_1 := hB2.out.frz 1
        have c_B2_2 := hB2.out.cell 2 _ rfl
        have f_B2_2 := hB2.out.frz 2
        have c_B2_3 := hB2.out.cell 3 _ rfl
        have f_B2_3 := hB2.out.frz 3
        have c_B2_4 := hB2.out.cell 4 _ rfl
        have f_B2_4 := hB2.out.frz 4
        have l_B2 := hB2.out.lt
        have c_B3_0 := hB3.out.cell 0 _ rfl
        have f_B3_0 := hB3.out.frz 0
        have c_B3_1 := hB3.out.cell 1 _ rfl
        have f_B3_1 := hB3.out.frz 1
        have c_B3_2 := hB3.out.cell 2 _ rfl
        have f_B3_2 := hB3.out.frz 2
        have c_B3_3 := hB3.out.cell 3 _ rfl
        have f_B3_3 := hB3.out.frz 3
        have c_B3_4 := hB3.out.cell 4 _ rfl
        have f_B3_4 := hB3.out.frz 4
        have l_B3 := hB3.out.lt
        have e_b0 := (View.cellB hV.out.at.2.2.2.2.2 k _ HX.out).1
        have e_b1 := (View.cellB hV.out.at.2.2.2.2.2 k _ HX.out).2.1
        have e_b2 := (View.cellB hV.out.at.2.2.2.2.2 k _ HX.out).2.2.1
        have e_b3 := (View.cellB hV.out.at.2.2.2.2.2 k _ HX.out).2.2.2.1
        have e_b4 := (View.cellB hV.out.at.2.2.2.2.2 k _ HX.out).2.2.2.2
        go_wp2_with fail
        clear c_B1_0 f_B1_0 c_B1_1 f_B1_1 l_B1 c_B2_0 f_B2_0 c_B2_1 f_B2_1 c_B2_2 f_B2_2 c_B2_3 f_B2_3 c_B2_4 f_B2_4 l_B2 c_B3_0 f_B3_0 c_B3_1 f_B3_1 c_B3_2 f_B3_2 c_B3_3 f_B3_3 c_B3_4 f_B3_4 l_B3 e_b0 e_b1 e_b2 e_b3 e_b4
        go_roundw
        case rel => exact ⟨⟨j, hjN, rfl, hst, hT, hV⟩, hB1⟩
        case measure => simp [intOf]; have := HJ.out; omega
    · skip
      have c_B1_0 := hB1.out.cell 0 _ rfl
      have f_B1_0 := hB1.out.frz 0
      have c_B1_1 := hB1.out.cell 1 _ rfl
      have f_B1_1 := hB1.out.frz 1
      have l_B1 := hB1.out.lt
      go_wp2_with fail
      go_ret
      clear c_B1_0 f_B1_0 c_B1_1 f_B1_1 l_B1
      exact ⟨rfl, hst.out.keeps⟩
end Go.Proofs.Ytccllkgaakmdhaa
