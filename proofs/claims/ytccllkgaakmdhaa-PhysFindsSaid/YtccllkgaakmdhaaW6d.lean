/- carracklaw06: PhysSums, PhysFinds. -/
import Derived.Test.YtccllkgaakmdhaaW6a
import Derived.Test.YtccllkgaakmdhaaLaidP
namespace Go.Proofs.Ytccllkgaakmdhaa
open Go.RowKit

section
variable {N : Nat} {f : UInt64 → UInt64} {L : List BlockV} {e : UInt64} (h : RowL L e) (hw : walkL N f = L)
include h hw
theorem findO_used {k : Nat} {x : BlockV} (hx : L[k]? = some x) (hu : x.tag.used = true) : findO N f (x.off + 32) = some x := by
  unfold findO
  rw [hw]
  rcases find_idx (p := findP (x.off + 32)) (l := L) with ⟨_, hf⟩ | ⟨j, y, _, hy, hf⟩
  · rw [List.find?_eq_none] at hf
    exact absurd (by simp [findP, hu]) (hf x (List.mem_of_getElem? hx))
  · rw [hf]
    have hp := List.find?_some hf
    simp only [findP, Bool.and_eq_true, beq_iff_eq] at hp
    have ho : y.off = x.off := UInt64.add_left_inj 32 |>.1 hp.2
    have := h.same hy hx ho
    subst this
    rw [hx] at hy
    exact hy.symm
theorem findO_free {k : Nat} {x : BlockV} (hx : L[k]? = some x) (hu : x.tag.used = false) : findO N f (x.off + 32) = none := by
  unfold findO
  rw [hw, List.find?_eq_none]
  intro y hy hp
  simp only [findP, Bool.and_eq_true, beq_iff_eq] at hp
  have ho : y.off = x.off := UInt64.add_left_inj 32 |>.1 hp.2
  obtain ⟨j, hj, ey⟩ := List.getElem_of_mem hy
  have hy' : L[j]? = some y := by rw [← ey]; exact List.getElem?_eq_getElem hj
  have := h.same hy' hx ho
  subst this
  rw [hx] at hy'
  cases hy'
  rw [hu] at hp
  cases hp.1
theorem findO_within {k : Nat} {x : BlockV} (hx : L[k]? = some x) {m : UInt64} (hm : m.toNat < 15) (he : e.toNat ≤ 4800) : findO N f (x.off + 32 + 1 + m) = none := by
  unfold findO
  rw [hw, List.find?_eq_none]
  intro y hy hp
  simp only [findP, Bool.and_eq_true, beq_iff_eq] at hp
  obtain ⟨j, hj, ey⟩ := List.getElem_of_mem hy
  obtain ⟨_, a2, a3, a4, _, a6⟩ := h.at_ j y (by rw [← ey]; exact List.getElem?_eq_getElem hj)
  obtain ⟨_, b2, b3, b4, _, b6⟩ := h.at_ k x hx
  have := congrArg UInt64.toNat hp.2
  rw [UInt64.toNat_add, UInt64.toNat_add, UInt64.toNat_add, UInt64.toNat_add] at this
  simp at this
  omega
end

set_option maxRecDepth 100000 in
set_option maxHeartbeats 4000000 in
theorem physSums_any {w : World} {vl : Value} {ps : List PieceV} (hl : Look kPc w vl ps) : Calls Try.prog 21 #[vl] w fun e w' => e = .returned (.bool true) ∧ Keeps Nil w w' := by
  obtain ⟨ws, hws⟩ : ∃ ws, ws = formW 4480 := ⟨_, rfl⟩
  obtain ⟨P, hP⟩ : ∃ P, P = layAll (formW 4480) [] (ps.take 20) := ⟨_, rfl⟩
  obtain ⟨L, hwb, hwl, hrow, hne, _, _, _⟩ := laid_walk (e := 4480) (by decide) (ps.take 20)
  rw [← hP, ← hws] at hwb hwl
  obtain ⟨N, hN⟩ : ∃ N, N = L.length := ⟨_, rfl⟩
  have hN0 : 0 < N := by rw [hN]; exact List.length_pos_iff.2 hne
  have HL := Lib.hid hl
  have HE := Lib.hid (And.intro hws (And.intro (show P = laidP ws ps [] by rw [hP, hws]; rfl) (And.intro hwb hwl)))
  have HR := Lib.hid hrow
  have HN := Lib.hid hN
  obtain ⟨al, lcap, rfl, hlm⟩ := hl.val
  have hgd := blk_gd
  have hNm : N ≤ 4800 := by
    obtain ⟨x, hx⟩ : ∃ x, L[N - 1]? = some x := ⟨L[N - 1]'(by omega), by simp⟩
    have key : ∀ k, ∀ x, L[k]? = some x → 3776 + 48 * k ≤ x.off.toNat := by
      intro k
      induction k with
      | zero => intro x hx; have := (hrow.at_ 0 x hx).2.2.2.2.1; omega
      | succ k ih =>
        intro x hx
        have hkl := (List.getElem?_eq_some_iff.1 hx).1
        obtain ⟨z, hz⟩ : ∃ z, L[k]? = some z := ⟨L[k]'(by omega), by simp⟩
        have h1 := ih z hz
        have h2 := hrow.below 0 k hz hx
        have h3 := (hrow.at_ k z hz).2.2.1
        omega
    have h1 := key (N - 1) x hx
    have h2 := (hrow.at_ (N - 1) x hx).2.2.2.2.2
    simp at h2
    omega
  clear hl hws hP hwb hwl hrow hne hN hlm
  have hst := Lib.hid (Step.refl Nil w)
  go_enter Try.func21, Try.ntmps21
  go_wp2_with fail
  refine (awake06 _).mono ?_
  rintro _ W1 ⟨rfl, kn⟩
  replace hst := Lib.hid (hst.out.nil kn)
  clear kn
  go_wp2_with fail
  refine (laid06_any (ks := []) (HL.out.keeps_nil hst.out.keeps) Look.nil).mono ?_
  rintro _ W2 ⟨t, ab, ao, ac, a2, c2, S1, rfl, hT, hX, kn⟩
  replace hT := Lib.hid hT
  replace hX := Lib.hid hX
  replace hT := hT.out; replace hX := hX.out
  rw [← HE.out.1, ← HE.out.2.1] at hT hX
  rw [← HE.out.1, ← HE.out.2.1]
  replace hT := Lib.hid hT; replace hX := Lib.hid hX
  replace hst := Lib.hid (hst.out.trans kn)
  clear kn
  obtain ⟨W3, hW3⟩ : ∃ W, W = W2.alloc (.cells #[.slice (some ⟨ab, ao, none⟩) 600 ac, .slice a2 P.length c2] 28) := ⟨_, rfl⟩
  obtain ⟨B1, eB1⟩ : ∃ B, B = W2.heap.size := ⟨_, rfl⟩
  replace hW3 := Lib.hid hW3
  replace eB1 := Lib.hid eB1
  go_wp2_with fail
  rw [← hW3.out]
  try rw [← eB1.out]
  have k1 : Keeps Nil W2 W3 := by rw [hW3.out]; exact alloc_keeps _ _
  have e0B1 : B1 = W2.heap.size := by rw [eB1.out]
  have hB1 := Lib.hid (show Bx W3 S1 B1 #[.slice (some ⟨ab, ao, none⟩) 600 ac, .slice a2 P.length c2] 28 by rw [hW3.out]; exact Bx.new hT.out.lt _ _ e0B1)
  have gB1 := Lib.hid (show w.heap.size ≤ B1 by rw [e0B1]; exact hst.out.keeps.size)
  replace hst := Lib.hid (hst.out.nil k1)
  replace hX := Lib.hid (hX.out.keeps_nil k1)
  replace hT := Lib.hid (hT.out.nil k1)
  clear k1 e0B1
  refine (Walk_any hT.out.readsK hT.out.lt (by decide)).mono ?_
  rintro _ W4 ⟨v, rfl, ho, kn⟩
  rw [HE.out.2.2.2] at ho
  rw [HE.out.2.2.1, codeOf_true]
  replace ho := ho.view (S := S1) (fun g hg e => absurd (hT.out.lt g e) (Nat.not_lt.2 hg))
  obtain ⟨gb, go, cl, rfl, hcl, hcm, hgb, _, hcell⟩ := ho.pos (by rw [← HN.out]; exact hN0)
  clear hcl hcm hgb hcell
  have hV := Lib.hid ho
  clear ho
  rw [← HN.out]
  replace hst := Lib.hid (hst.out.nil kn)
  replace hX := Lib.hid (hX.out.keeps_nil kn)
  replace hT := Lib.hid (hT.out.nil kn)
  replace hB1 := Lib.hid (hB1.out.nil kn)
  clear kn
  have c_B1_0 := hB1.out.cell 0 _ rfl
  have f_B1_0 := hB1.out.frz 0
  have c_B1_1 := hB1.out.cell 1 _ rfl
  have f_B1_1 := hB1.out.frz 1
  have l_B1 := hB1.out.lt
  go_wp2_with fail
  clear c_B1_0 f_B1_0 c_B1_1 f_B1_1 l_B1
  have c_B1_0 := hB1.out.cell 0 _ rfl
  have f_B1_0 := hB1.out.frz 0
  have c_B1_1 := hB1.out.cell 1 _ rfl
  have f_B1_1 := hB1.out.frz 1
  have l_B1 := hB1.out.lt
  go_wp2_with fail
  clear c_B1_0 f_B1_0 c_B1_1 f_B1_1 l_B1
  go_loopw [8, 9] (fun of i wr => (∃ (k : Nat) (off : UInt64), k ≤ N ∧ of = .int .u64 (off.toNat : Int) ∧ i = .int .i64 (k : Int) ∧ Hid (off = endL (L.take k)) ∧ Hid (Step Nil S1 w wr) ∧ Hid (TxF wr t (txLoad ws P) 4800 S1) ∧ Hid (View kB S1 wr (.slice (some ⟨gb, go, none⟩) L.length cl) L)) ∧ Hid (Bx wr S1 B1 #[.slice (some ⟨ab, ao, none⟩) 600 ac, .slice a2 P.length c2] 28)) (fun of i _ => N - (intOf i).toNat)
  case atStart => exact ⟨⟨0, 3776, by omega, rfl, rfl, Lib.hid rfl, hst, hT, hV⟩, hB1⟩
  case round =>
    clear hB1
    obtain ⟨hrel, hB1⟩ := hrel
    clear hst hT hX hV
    obtain ⟨k, off, hk, rfl, rfl, HO, hst, hT, hV⟩ := hrel
    by_cases hlt : k < N
    · obtain ⟨⟨bo, ⟨bs, bu, bw⟩, bl⟩, hx⟩ : ∃ x, L[k]? = some x := ⟨L[k]'(by have := HN.out; omega), by simp⟩
      have HX := Lib.hid hx
      have HQ := Lib.hid (show bo = off by rw [HO.out]; exact (HR.out.at_ k _ hx).1)
      clear hx
      have d1 : (((bo.toNat : Int) : Int) != ((off.toNat : Int) : Int)) = false := (same_u64 (a := bo) (b := off) (HQ.out)).1
      obtain ⟨y1, zy1⟩ : ∃ y : UInt64, y = off + bs := ⟨_, rfl⟩
      have q1 : IntKind.u64.wrap ((off.toNat : Int) + (bs.toNat : Int)) = (y1.toNat : Int) := by rw [zy1]; exact u64_add off bs
      replace zy1 := Lib.hid zy1
      have c_B1_0 := hB1.out.cell 0 _ rfl
      have f_B1_0 := hB1.out.frz 0
      have c_B1_1 := hB1.out.cell 1 _ rfl
      have f_B1_1 := hB1.out.frz 1
      have l_B1 := hB1.out.lt
      have e_b0 := (View.cellB hV.out.at.2.2.2.2.2 k _ HX.out).1
      have e_b1 := (View.cellB hV.out.at.2.2.2.2.2 k _ HX.out).2.1
      have e_b2 := (View.cellB hV.out.at.2.2.2.2.2 k _ HX.out).2.2.1
      have e_b3 := (View.cellB hV.out.at.2.2.2.2.2 k _ HX.out).2.2.2.1
      have e_b4 := (View.cellB hV.out.at.2.2.2.2.2 k _ HX.out).2.2.2.2
      go_wp2_with fail
      clear c_B1_0 f_B1_0 c_B1_1 f_B1_1 l_B1 e_b0 e_b1 e_b2 e_b3 e_b4
      go_roundw
      case rel => exact ⟨⟨k + 1, y1, by omega, rfl, by go_num, Lib.hid (by rw [zy1.out, HO.out, take_succ' HX.out, endL_add]), hst, hT, hV⟩, hB1⟩
      case measure => simp [intOf]; omega
    · have HQ := Lib.hid (show off = 4480 by rw [HO.out, List.take_of_length_le (by have := HN.out; omega)]; exact HR.out.end_)
      have d1 : (((off.toNat : Int) : Int) == (4480 : Int)) = true := (same_u64 (a := off) (b := 4480) (HQ.out)).2
      have c_B1_0 := hB1.out.cell 0 _ rfl
      have f_B1_0 := hB1.out.frz 0
      have c_B1_1 := hB1.out.cell 1 _ rfl
      have f_B1_1 := hB1.out.frz 1
      have l_B1 := hB1.out.lt
      go_wp2_with fail
      go_ret
      clear c_B1_0 f_B1_0 c_B1_1 f_B1_1 l_B1
      exact ⟨rfl, hst.out.keeps⟩
set_option maxRecDepth 100000 in
set_option maxHeartbeats 4000000 in
theorem physFinds_any {w : World} {vl : Value} {ps : List PieceV} (more : UInt8) (hl : Look kPc w vl ps) : Calls Try.prog 23 #[vl, .int .u8 (more.toNat : Int)] w fun e w' => e = .returned (.bool true) ∧ Keeps Nil w w' := by
  obtain ⟨ws, hws⟩ : ∃ ws, ws = formW 4480 := ⟨_, rfl⟩
  obtain ⟨P, hP⟩ : ∃ P, P = layAll (formW 4480) [] (ps.take 20) := ⟨_, rfl⟩
  obtain ⟨L, hwb, hwl, hrow, hne, _, _, _⟩ := laid_walk (e := 4480) (by decide) (ps.take 20)
  rw [← hP, ← hws] at hwb hwl
  obtain ⟨N, hN⟩ : ∃ N, N = L.length := ⟨_, rfl⟩
  have hN0 : 0 < N := by rw [hN]; exact List.length_pos_iff.2 hne
  have HL := Lib.hid hl
  have HE := Lib.hid (And.intro hws (And.intro (show P = laidP ws ps [] by rw [hP, hws]; rfl) (And.intro hwb hwl)))
  have HR := Lib.hid hrow
  have HN := Lib.hid hN
  obtain ⟨al, lcap, rfl, hlm⟩ := hl.val
  have hgd := blk_gd
  have hNm : N ≤ 4800 := by
    obtain ⟨x, hx⟩ : ∃ x, L[N - 1]? = some x := ⟨L[N - 1]'(by omega), by simp⟩
    have key : ∀ k, ∀ x, L[k]? = some x → 3776 + 48 * k ≤ x.off.toNat := by
      intro k
      induction k with
      | zero => intro x hx; have := (hrow.at_ 0 x hx).2.2.2.2.1; omega
      | succ k ih =>
        intro x hx
        have hkl := (List.getElem?_eq_some_iff.1 hx).1
        obtain ⟨z, hz⟩ : ∃ z, L[k]? = some z := ⟨L[k]'(by omega), by simp⟩
        have h1 := ih z hz
        have h2 := hrow.below 0 k hz hx
        have h3 := (hrow.at_ k z hz).2.2.1
        omega
    have h1 := key (N - 1) x hx
    have h2 := (hrow.at_ (N - 1) x hx).2.2.2.2.2
    simp at h2
    omega
  clear hl hws hP hwb hwl hrow hne hN hlm
  obtain ⟨mm, hmm⟩ : ∃ m : UInt64, m = UInt64.ofNat (more.toNat % 15) := ⟨_, rfl⟩
  have q_mm : (more.toNat : Int) % 15 = (mm.toNat : Int) := by rw [hmm, UInt64.toNat_ofNat']; have := more.toNat_lt; omega
  have q_mw : IntKind.u64.wrap (mm.toNat : Int) = (mm.toNat : Int) := IntWalk.u64_in _ (by have := mm.toNat_lt; omega)
  have hm15 : mm.toNat < 15 := by rw [hmm, UInt64.toNat_ofNat']; omega
  obtain ⟨⟨zo, ⟨zs, zu, zw⟩, zl⟩, hz⟩ : ∃ z, z = blockOf none := ⟨_, rfl⟩
  have HZ := Lib.hid hz
  have HM := Lib.hid hm15
  clear hmm hz hm15
  have hst := Lib.hid (Step.refl Nil w)
  go_enter Try.func23, Try.ntmps23
  go_wp2_with fail
  refine (awake06 _).mono ?_
  rintro _ W1 ⟨rfl, kn⟩
  replace hst := Lib.hid (hst.out.nil kn)
  clear kn
  go_wp2_with fail
  refine (laid06_any (ks := []) (HL.out.keeps_nil hst.out.keeps) Look.nil).mono ?_
  rintro _ W2 ⟨t, ab, ao, ac, a2, c2, S1, rfl, hT, hX, kn⟩
  replace hT := Lib.hid hT
  replace hX := Lib.hid hX
  replace hT := hT.out; replace hX := hX.out
  rw [← HE.out.1, ← HE.out.2.1] at hT hX
  rw [← HE.out.1, ← HE.out.2.1]
  replace hT := Lib.hid hT; replace hX := Lib.hid hX
  replace hst := Lib.hid (hst.out.trans kn)
  clear kn
  obtain ⟨W3, hW3⟩ : ∃ W, W = W2.alloc (.cells #[.slice (some ⟨ab, ao, none⟩) 600 ac, .slice a2 P.length c2] 28) := ⟨_, rfl⟩
  obtain ⟨B1, eB1⟩ : ∃ B, B = W2.heap.size := ⟨_, rfl⟩
  replace hW3 := Lib.hid hW3
  replace eB1 := Lib.hid eB1
  go_wp2_with fail
  rw [← hW3.out]
  try rw [← eB1.out]
  have k1 : Keeps Nil W2 W3 := by rw [hW3.out]; exact alloc_keeps _ _
  have e0B1 : B1 = W2.heap.size := by rw [eB1.out]
  have hB1 := Lib.hid (show Bx W3 S1 B1 #[.slice (some ⟨ab, ao, none⟩) 600 ac, .slice a2 P.length c2] 28 by rw [hW3.out]; exact Bx.new hT.out.lt _ _ e0B1)
  have gB1 := Lib.hid (show w.heap.size ≤ B1 by rw [e0B1]; exact hst.out.keeps.size)
  replace hst := Lib.hid (hst.out.nil k1)
  replace hX := Lib.hid (hX.out.keeps_nil k1)
  replace hT := Lib.hid (hT.out.nil k1)
  clear k1 e0B1
  refine (Walk_any hT.out.readsK hT.out.lt (by decide)).mono ?_
  rintro _ W4 ⟨v, rfl, ho, kn⟩
  rw [HE.out.2.2.2] at ho
  rw [HE.out.2.2.1, codeOf_true]
  replace ho := ho.view (S := S1) (fun g hg e => absurd (hT.out.lt g e) (Nat.not_lt.2 hg))
  obtain ⟨gb, go, cl, rfl, hcl, hcm, hgb, _, hcell⟩ := ho.pos (by rw [← HN.out]; exact hN0)
  clear hcl hcm hgb hcell
  have hV := Lib.hid ho
  clear ho
  rw [← HN.out]
  replace hst := Lib.hid (hst.out.nil kn)
  replace hX := Lib.hid (hX.out.keeps_nil kn)
  replace hT := Lib.hid (hT.out.nil kn)
  replace hB1 := Lib.hid (hB1.out.nil kn)
  clear kn
  have c_B1_0 := hB1.out.cell 0 _ rfl
  have f_B1_0 := hB1.out.frz 0
  have c_B1_1 := hB1.out.cell 1 _ rfl
  have f_B1_1 := hB1.out.frz 1
  have l_B1 := hB1.out.lt
  go_wp2_with fail
  clear c_B1_0 f_B1_0 c_B1_1 f_B1_1 l_B1
  have c_B1_0 := hB1.out.cell 0 _ rfl
  have f_B1_0 := hB1.out.frz 0
  have c_B1_1 := hB1.out.cell 1 _ rfl
  have f_B1_1 := hB1.out.frz 1
  have l_B1 := hB1.out.lt
  go_wp2_with fail
  clear c_B1_0 f_B1_0 c_B1_1 f_B1_1 l_B1
  go_loopw [10] (fun i wr => (∃ (k : Nat), k ≤ N ∧ i = .int .i64 (k : Int) ∧ Hid (Step Nil S1 w wr) ∧ Hid (TxF wr t (txLoad ws P) 4800 S1) ∧ Hid (View kB S1 wr (.slice (some ⟨gb, go, none⟩) L.length cl) L)) ∧ Hid (Bx wr S1 B1 #[.slice (some ⟨ab, ao, none⟩) 600 ac, .slice a2 P.length c2] 28)) (fun i _ => N - (intOf i).toNat)
  case atStart => exact ⟨⟨0, by omega, rfl, hst, hT, hV⟩, hB1⟩
  case round =>
    clear hB1
    obtain ⟨hrel, hB1⟩ := hrel
    clear hst hT hX hV
    obtain ⟨k, hk, rfl, hst, hT, hV⟩ := hrel
    by_cases hlt : k < N
    · obtain ⟨⟨bo, ⟨bs, bu, bw⟩, bl⟩, hx⟩ : ∃ x, L[k]? = some x := ⟨L[k]'(by have := HN.out; omega), by simp⟩
      have HX := Lib.hid hx
      have HW := Lib.hid (findO_within HR.out HE.out.2.2.2 hx HM.out (by decide))
      cases bu with
      | true =>
        have HF := Lib.hid (findO_used HR.out HE.out.2.2.2 hx rfl)
        replace HX := HX
        clear hx
        obtain ⟨y1, zy1⟩ : ∃ y : UInt64, y = bo + 32 := ⟨_, rfl⟩
        have q1 : IntKind.u64.wrap ((bo.toNat : Int) + 32) = (y1.toNat : Int) := by rw [zy1]; exact u64_add bo 32
        replace zy1 := Lib.hid zy1
        have c_B1_0 := hB1.out.cell 0 _ rfl
        have f_B1_0 := hB1.out.frz 0
        have c_B1_1 := hB1.out.cell 1 _ rfl
        have f_B1_1 := hB1.out.frz 1
        have l_B1 := hB1.out.lt
        have e_b0 := (View.cellB hV.out.at.2.2.2.2.2 k _ HX.out).1
        have e_b1 := (View.cellB hV.out.at.2.2.2.2.2 k _ HX.out).2.1
        have e_b2 := (View.cellB hV.out.at.2.2.2.2.2 k _ HX.out).2.2.1
        have e_b3 := (View.cellB hV.out.at.2.2.2.2.2 k _ HX.out).2.2.2.1
        have e_b4 := (View.cellB hV.out.at.2.2.2.2.2 k _ HX.out).2.2.2.2
        go_wp2_with fail
        clear c_B1_0 f_B1_0 c_B1_1 f_B1_1 l_B1 e_b0 e_b1 e_b2 e_b3 e_b4
        refine (Find_any hT.out.readsK hT.out.lt (by decide) y1 _ rfl).mono ?_
        rintro _ W5 ⟨rfl, kn⟩
        rw [show findO 4800 (txLoad ws P) y1 = some ⟨bo, ⟨bs, true, bw⟩, bl⟩ by rw [zy1.out]; exact HF.out, show blockOf (some (⟨bo, ⟨bs, true, bw⟩, bl⟩ : BlockV)) = ⟨bo, ⟨bs, true, bw⟩, bl⟩ from rfl, BlockV.cells_def, Option.isSome_some]
        replace hst := Lib.hid (hst.out.nil kn)
        replace hV := Lib.hid (hV.out.keeps_nil kn)
        replace hT := Lib.hid (hT.out.nil kn)
        replace hB1 := Lib.hid (hB1.out.nil kn)
        clear kn
        have c_B1_0 := hB1.out.cell 0 _ rfl
        have f_B1_0 := hB1.out.frz 0
        have c_B1_1 := hB1.out.cell 1 _ rfl
        have f_B1_1 := hB1.out.frz 1
        have l_B1 := hB1.out.lt
        have e_b0 := (View.cellB hV.out.at.2.2.2.2.2 k _ HX.out).1
        have e_b1 := (View.cellB hV.out.at.2.2.2.2.2 k _ HX.out).2.1
        have e_b2 := (View.cellB hV.out.at.2.2.2.2.2 k _ HX.out).2.2.1
        have e_b3 := (View.cellB hV.out.at.2.2.2.2.2 k _ HX.out).2.2.2.1
        have e_b4 := (View.cellB hV.out.at.2.2.2.2.2 k _ HX.out).2.2.2.2
        obtain ⟨W6, hW6⟩ : ∃ W, W = W5.alloc (.cells #[.int .u64 (bo.toNat : Int), .int .u64 (bs.toNat : Int), .bool true, .int .i64 bw, .int .u64 (bl.toNat : Int)] 103) := ⟨_, rfl⟩
        obtain ⟨B2, eB2⟩ : ∃ B, B = W5.heap.size := ⟨_, rfl⟩
        replace hW6 := Lib.hid hW6
        replace eB2 := Lib.hid eB2
        go_wp2_with fail
        clear c_B1_0 f_B1_0 c_B1_1 f_B1_1 l_B1 e_b0 e_b1 e_b2 e_b3 e_b4
        rw [← hW6.out]
        try rw [← eB2.out]
        have k2 : Keeps Nil W5 W6 := by rw [hW6.out]; exact alloc_keeps _ _
        have e0B2 : B2 = W5.heap.size := by rw [eB2.out]
        have hB2 := Lib.hid (show Bx W6 S1 B2 #[.int .u64 (bo.toNat : Int), .int .u64 (bs.toNat : Int), .bool true, .int .i64 bw, .int .u64 (bl.toNat : Int)] 103 by rw [hW6.out]; exact Bx.new hT.out.lt _ _ e0B2)
        have gB2 := Lib.hid (show w.heap.size ≤ B2 by rw [e0B2]; exact hst.out.keeps.size)
        have nB1B2 := Lib.hid (show B1 < B2 by rw [e0B2]; exact hB1.out.lt)
        replace hst := Lib.hid (hst.out.nil k2)
        replace hV := Lib.hid (hV.out.keeps_nil k2)
        replace hT := Lib.hid (hT.out.nil k2)
        replace hB1 := Lib.hid (hB1.out.nil k2)
        clear k2 e0B2
        obtain ⟨W7, hW7⟩ : ∃ W, W = W6.drew := ⟨_, rfl⟩
        replace hW7 := Lib.hid hW7
        have kn : Keeps Nil W6 W7 := by rw [hW7.out]; exact keeps_drew _
        replace hst := Lib.hid (hst.out.nil kn)
        replace hV := Lib.hid (hV.out.keeps_nil kn)
        replace hT := Lib.hid (hT.out.nil kn)
        replace hB1 := Lib.hid (hB1.out.nil kn)
        replace hB2 := Lib.hid (hB2.out.nil kn)
        clear kn
        refine wp_region_held_drew (S := fun w' => w'.cell? ⟨B1, 0, none⟩ = some (.slice (some ⟨ab, ao, none⟩) 600 ac) ∧ w'.cell? ⟨B1, 1, none⟩ = some (.slice a2 P.length c2) ∧ w'.cell? ⟨B2, 0, none⟩ = some (.int .u64 (bo.toNat : Int)) ∧ w'.cell? ⟨B2, 1, none⟩ = some (.int .u64 (bs.toNat : Int)) ∧ w'.cell? ⟨B2, 2, none⟩ = some (.bool true) ∧ w'.cell? ⟨B2, 3, none⟩ = some (.int .i64 bw) ∧ w'.cell? ⟨B2, 4, none⟩ = some (.int .u64 (bl.toNat : Int)) ∧ w'.cell? ⟨gb, go + k * 5, none⟩ = some (.int .u64 (bo.toNat : Int)) ∧ w'.cell? ⟨gb, go + k * 5 + 1, none⟩ = some (.int .u64 (bs.toNat : Int)) ∧ w'.cell? ⟨gb, go + k * 5 + 2, none⟩ = some (.bool true) ∧ w'.cell? ⟨gb, go + k * 5 + 3, none⟩ = some (.int .i64 bw) ∧ w'.cell? ⟨gb, go + k * 5 + 4, none⟩ = some (.int .u64 (bl.toNat : Int))) (by kernel_rfl) (by rw [← hW7.out]; exact ⟨hB1.out.cell 0 _ rfl, hB1.out.cell 1 _ rfl, hB2.out.cell 0 _ rfl, hB2.out.cell 1 _ rfl, hB2.out.cell 2 _ rfl, hB2.out.cell 3 _ rfl, hB2.out.cell 4 _ rfl, (View.cellB hV.out.at.2.2.2.2.2 k _ HX.out).1, (View.cellB hV.out.at.2.2.2.2.2 k _ HX.out).2.1, (View.cellB hV.out.at.2.2.2.2.2 k _ HX.out).2.2.1, (View.cellB hV.out.at.2.2.2.2.2 k _ HX.out).2.2.2.1, (View.cellB hV.out.at.2.2.2.2.2 k _ HX.out).2.2.2.2⟩) (fun hHeld => ?_)
        rw [← hW7.out] at hHeld ⊢
        refine wpAnyH_take (i := 0) (oi := _) (v := ?m1_v) rfl (by kernel_rfl) (by kernel_rfl) (by kernel_rfl) (fun _ _ _ h => h) (Or.inl ⟨by kernel_rfl, ?m1_h⟩) hHeld ?m1_r
        case m1_h => (intro w hSw; (try dsimp only at hSw); go_simp; try with_reducible rfl)
        try simp only [Act.put, List.getElem_toArray, List.getElem_cons_succ, List.getElem_cons_zero, List.setIfInBounds_toArray, List.set_cons_zero, List.set_cons_succ]
        refine wpAnyH_take (i := 1) (oi := _) (v := ?m2_v) rfl (by kernel_rfl) (by kernel_rfl) (by kernel_rfl) (fun _ _ _ h => h) (Or.inl ⟨by kernel_rfl, ?m2_h⟩) hHeld ?m2_r
        case m2_h => (intro w hSw; (try dsimp only at hSw); go_simp; try with_reducible rfl)
        try simp only [Act.put, List.getElem_toArray, List.getElem_cons_succ, List.getElem_cons_zero, List.setIfInBounds_toArray, List.set_cons_zero, List.set_cons_succ]
        refine wpAnyH_take (i := 2) (oi := _) (v := ?m3_v) rfl (by kernel_rfl) (by kernel_rfl) (by kernel_rfl) (fun _ _ _ h => h) (Or.inl ⟨by kernel_rfl, ?m3_h⟩) hHeld ?m3_r
        case m3_h => (intro w hSw; (try dsimp only at hSw); go_simp; try with_reducible rfl)
        try simp only [Act.put, List.getElem_toArray, List.getElem_cons_succ, List.getElem_cons_zero, List.setIfInBounds_toArray, List.set_cons_zero, List.set_cons_succ]
        refine wpAnyH_take (i := 3) (oi := _) (v := ?m4_v) rfl (by kernel_rfl) (by kernel_rfl) (by kernel_rfl) (fun _ _ _ h => h) (Or.inl ⟨by kernel_rfl, ?m4_h⟩) hHeld ?m4_r
        case m4_h => (intro w hSw; (try dsimp only at hSw); go_simp; try with_reducible rfl)
        try simp only [Act.put, List.getElem_toArray, List.getElem_cons_succ, List.getElem_cons_zero, List.setIfInBounds_toArray, List.set_cons_zero, List.set_cons_succ]
        refine wpAnyH_take (i := 4) (oi := _) (v := ?m5_v) rfl (by kernel_rfl) (by kernel_rfl) (by kernel_rfl) (fun _ _ _ h => h) (Or.inl ⟨by kernel_rfl, ?m5_h⟩) hHeld ?m5_r
        case m5_h => (intro w hSw; (try dsimp only at hSw); go_simp; try with_reducible rfl)
        try simp only [Act.put, List.getElem_toArray, List.getElem_cons_succ, List.getElem_cons_zero, List.setIfInBounds_toArray, List.set_cons_zero, List.set_cons_succ]
        refine wpAnyH_take (i := 5) (oi := _) (v := ?m6_v) rfl (by kernel_rfl) (by kernel_rfl) (by kernel_rfl) (fun _ _ _ h => h) (Or.inl ⟨by kernel_rfl, ?m6_h⟩) hHeld ?m6_r
        case m6_h => (intro w hSw; (try dsimp only at hSw); go_simp; try with_reducible rfl)
        try simp only [Act.put, List.getElem_toArray, List.getElem_cons_succ, List.getElem_cons_zero, List.setIfInBounds_toArray, List.set_cons_zero, List.set_cons_succ]
        refine wpAnyH_take (i := 6) (oi := _) (v := ?m7_v) rfl (by kernel_rfl) (by kernel_rfl) (by kernel_rfl) (fun _ _ _ h => h) (Or.inl ⟨by kernel_rfl, ?m7_h⟩) hHeld ?m7_r
        case m7_h => (intro w hSw; (try dsimp only at hSw); go_simp; try with_reducible rfl)
        try simp only [Act.put, List.getElem_toArray, List.getElem_cons_succ, List.getElem_cons_zero, List.setIfInBounds_toArray, List.set_cons_zero, List.set_cons_succ]
        refine wpAnyH_take (i := 7) (oi := _) (v := ?m8_v) rfl (by kernel_rfl) (by kernel_rfl) (by kernel_rfl) (fun _ _ _ h => h) (Or.inl ⟨by kernel_rfl, ?m8_h⟩) hHeld ?m8_r
        case m8_h => (intro w hSw; (try dsimp only at hSw); go_simp; try with_reducible rfl)
        try simp only [Act.put, List.getElem_toArray, List.getElem_cons_succ, List.getElem_cons_zero, List.setIfInBounds_toArray, List.set_cons_zero, List.set_cons_succ]
        refine wpAnyH_take (i := 8) (oi := _) (v := ?m9_v) rfl (by kernel_rfl) (by kernel_rfl) (by kernel_rfl) (fun _ _ _ h => h) (Or.inl ⟨by kernel_rfl, ?m9_h⟩) hHeld ?m9_r
        case m9_h => (intro w hSw; (try dsimp only at hSw); go_simp; try with_reducible rfl)
        try simp only [Act.put, List.getElem_toArray, List.getElem_cons_succ, List.getElem_cons_zero, List.setIfInBounds_toArray, List.set_cons_zero, List.set_cons_succ]
        refine wpAnyH_take (i := 9) (oi := _) (v := ?m10_v) rfl (by kernel_rfl) (by kernel_rfl) (by kernel_rfl) (fun _ _ _ h => h) (Or.inl ⟨by kernel_rfl, ?m10_h⟩) hHeld ?m10_r
        case m10_h => (intro w hSw; (try dsimp only at hSw); go_simp; try with_reducible rfl)
        try simp only [Act.put, List.getElem_toArray, List.getElem_cons_succ, List.getElem_cons_zero, List.setIfInBounds_toArray, List.set_cons_zero, List.set_cons_succ]
        refine wpAnyH_take (i := 10) (oi := _) (v := ?m11_v) rfl (by kernel_rfl) (by kernel_rfl) (by kernel_rfl) (fun _ _ _ h => h) (Or.inl ⟨by kernel_rfl, ?m11_h⟩) hHeld ?m11_r
        case m11_h => (intro w hSw; (try dsimp only at hSw); go_simp; try with_reducible rfl)
        try simp only [Act.put, List.getElem_toArray, List.getElem_cons_succ, List.getElem_cons_zero, List.setIfInBounds_toArray, List.set_cons_zero, List.set_cons_succ]
        refine wpAnyH_take (i := 11) (oi := _) (v := ?m12_v) rfl (by kernel_rfl) (by kernel_rfl) (by kernel_rfl) (fun _ _ _ h => h) (Or.inl ⟨by kernel_rfl, ?m12_h⟩) hHeld ?m12_r
        case m12_h => (intro w hSw; (try dsimp only at hSw); go_simp; try with_reducible rfl)
        try simp only [Act.put, List.getElem_toArray, List.getElem_cons_succ, List.getElem_cons_zero, List.setIfInBounds_toArray, List.set_cons_zero, List.set_cons_succ]
        refine wpAnyH_take (i := 12) (oi := _) (v := ?m13_v) rfl (by kernel_rfl) (by kernel_rfl) (by kernel_rfl) (fun _ _ _ h => h) (Or.inl ⟨by kernel_rfl, ?m13_h⟩) hHeld ?m13_r
        case m13_h => (intro w hSw; (try dsimp only at hSw); go_simp; try with_reducible rfl)
        try simp only [Act.put, List.getElem_toArray, List.getElem_cons_succ, List.getElem_cons_zero, List.setIfInBounds_toArray, List.set_cons_zero, List.set_cons_succ]
        refine wpAnyH_take (i := 13) (oi := _) (v := ?m14_v) rfl (by kernel_rfl) (by kernel_rfl) (by kernel_rfl) (fun _ _ _ h => h) (Or.inl ⟨by kernel_rfl, ?m14_h⟩) hHeld ?m14_r
        case m14_h => (intro w hSw; (try dsimp only at hSw); go_simp; try with_reducible rfl)
        try simp only [Act.put, List.getElem_toArray, List.getElem_cons_succ, List.getElem_cons_zero, List.setIfInBounds_toArray, List.set_cons_zero, List.set_cons_succ]
        refine wpAnyH_take (i := 14) (oi := _) (v := ?m15_v) rfl (by kernel_rfl) (by kernel_rfl) (by kernel_rfl) (fun _ _ _ h => h) (Or.inl ⟨by kernel_rfl, ?m15_h⟩) hHeld ?m15_r
        case m15_h => (intro w hSw; (try dsimp only at hSw); go_simp; try with_reducible rfl)
        try simp only [Act.put, List.getElem_toArray, List.getElem_cons_succ, List.getElem_cons_zero, List.setIfInBounds_toArray, List.set_cons_zero, List.set_cons_succ]
        refine wpAnyH_take (i := 15) (oi := _) (v := ?m16_v) rfl (by kernel_rfl) (by kernel_rfl) (by kernel_rfl) (fun _ _ _ h => h) (Or.inl ⟨by kernel_rfl, ?m16_h⟩) hHeld ?m16_r
        case m16_h => (intro w hSw; (try dsimp only at hSw); go_simp; try with_reducible rfl)
        try simp only [Act.put, List.getElem_toArray, List.getElem_cons_succ, List.getElem_cons_zero, List.setIfInBounds_toArray, List.set_cons_zero, List.set_cons_succ]
        have qs1 : ∀ w, (binOp .neq 103 (.agg #[.int .u64 (bo.toNat : Int), .int .u64 (bs.toNat : Int), .bool true, .int .i64 bw, .int .u64 (bl.toNat : Int)]) (.agg #[.int .u64 (bo.toNat : Int), .int .u64 (bs.toNat : Int), .bool true, .int .i64 bw, .int .u64 (bl.toNat : Int)])).run Try.prog w = .ok (.bool false) w := blk_neq_no rfl
        refine wpAnyH_take (i := 16) (oi := _) (v := ?m17_v) rfl (by kernel_rfl) (by kernel_rfl) (by kernel_rfl) (fun _ _ _ h => h) (Or.inl ⟨by kernel_rfl, ?m17_h⟩) hHeld ?m17_r
        case m17_h => (intro w hSw; (try dsimp only at hSw); go_simp; try with_reducible rfl)
        try simp only [Act.put, List.getElem_toArray, List.getElem_cons_succ, List.getElem_cons_zero, List.setIfInBounds_toArray, List.set_cons_zero, List.set_cons_succ]
        refine wpAnyH_take (i := 17) (oi := _) (v := ?m18_v) rfl (by kernel_rfl) (by kernel_rfl) (by kernel_rfl) (fun _ _ _ h => h) (Or.inl ⟨by kernel_rfl, ?m18_h⟩) hHeld ?m18_r
        case m18_h => (intro w hSw; (try dsimp only at hSw); go_simp; try with_reducible rfl)
        try simp only [Act.put, List.getElem_toArray, List.getElem_cons_succ, List.getElem_cons_zero, List.setIfInBounds_toArray, List.set_cons_zero, List.set_cons_succ]
        refine wpAnyH_take (i := 18) (oi := _) (v := ?m19_v) rfl (by kernel_rfl) (by kernel_rfl) (by kernel_rfl) (fun _ _ _ h => h) (Or.inl ⟨by kernel_rfl, ?m19_h⟩) hHeld ?m19_r
        case m19_h => (intro w hSw; (try dsimp only at hSw); go_simp; try with_reducible rfl)
        try simp only [Act.put, List.getElem_toArray, List.getElem_cons_succ, List.getElem_cons_zero, List.setIfInBounds_toArray, List.set_cons_zero, List.set_cons_succ]
        refine wpAnyH_done (by kernel_rfl) ?_ _
        clear hHeld
        obtain ⟨y2, zy2⟩ : ∃ y : UInt64, y = y1 + 1 := ⟨_, rfl⟩
        have q2 : IntKind.u64.wrap ((y1.toNat : Int) + 1) = (y2.toNat : Int) := by rw [zy2]; exact u64_add y1 1
        replace zy2 := Lib.hid zy2
        obtain ⟨y3, zy3⟩ : ∃ y : UInt64, y = y2 + mm := ⟨_, rfl⟩
        have q3 : IntKind.u64.wrap ((y2.toNat : Int) + (mm.toNat : Int)) = (y3.toNat : Int) := by rw [zy3]; exact u64_add y2 mm
        replace zy3 := Lib.hid zy3
        have c_B1_0 := hB1.out.cell 0 _ rfl
        have f_B1_0 := hB1.out.frz 0
        have c_B1_1 := hB1.out.cell 1 _ rfl
        have f_B1_1 := hB1.out.frz 1
        have l_B1 := hB1.out.lt
        have c_B2_0 := hB2.out.cell 0 _ rfl
        have f_B2_0 := hB2.out.frz 0
        have c_B2_1 := hB2.out.cell 1 _ rfl
        have f_B2_1 := hB2.out.frz 1
        have c_B2_2 := hB2.out.cell 2 _ rfl
        have f_B2_2 := hB2.out.frz 2
        have c_B2_3 := hB2.out.cell 3 _ rfl
        have f_B2_3 := hB2.out.frz 3
        have c_B2_4 := hB2.out.cell 4 _ rfl
        have f_B2_4 := hB2.out.frz 4
        have l_B2 := hB2.out.lt
        have e_b0 := (View.cellB hV.out.at.2.2.2.2.2 k _ HX.out).1
        have e_b1 := (View.cellB hV.out.at.2.2.2.2.2 k _ HX.out).2.1
        have e_b2 := (View.cellB hV.out.at.2.2.2.2.2 k _ HX.out).2.2.1
        have e_b3 := (View.cellB hV.out.at.2.2.2.2.2 k _ HX.out).2.2.2.1
        have e_b4 := (View.cellB hV.out.at.2.2.2.2.2 k _ HX.out).2.2.2.2
        go_wp2_with fail
        clear c_B1_0 f_B1_0 c_B1_1 f_B1_1 l_B1 c_B2_0 f_B2_0 c_B2_1 f_B2_1 c_B2_2 f_B2_2 c_B2_3 f_B2_3 c_B2_4 f_B2_4 l_B2 e_b0 e_b1 e_b2 e_b3 e_b4
        refine (Find_any hT.out.readsK hT.out.lt (by decide) y3 _ rfl).mono ?_
        rintro _ W8 ⟨rfl, kn⟩
        rw [show findO 4800 (txLoad ws P) y3 = none by rw [zy3.out, zy2.out, zy1.out]; exact HW.out, ← HZ.out, BlockV.cells_def, Option.isSome_none]
        replace hst := Lib.hid (hst.out.nil kn)
        replace hV := Lib.hid (hV.out.keeps_nil kn)
        replace hT := Lib.hid (hT.out.nil kn)
        replace hB1 := Lib.hid (hB1.out.nil kn)
        replace hB2 := Lib.hid (hB2.out.nil kn)
        clear kn
        have c_B1_0 := hB1.out.cell 0 _ rfl
        have f_B1_0 := hB1.out.frz 0
        have c_B1_1 := hB1.out.cell 1 _ rfl
        have f_B1_1 := hB1.out.frz 1
        have l_B1 := hB1.out.lt
        have c_B2_0 := hB2.out.cell 0 _ rfl
        have f_B2_0 := hB2.out.frz 0
        have c_B2_1 := hB2.out.cell 1 _ rfl
        have f_B2_1 := hB2.out.frz 1
        have c_B2_2 := hB2.out.cell 2 _ rfl
        have f_B2_2 := hB2.out.frz 2
        have c_B2_3 := hB2.out.cell 3 _ rfl
        have f_B2_3 := hB2.out.frz 3
        have c_B2_4 := hB2.out.cell 4 _ rfl
        have f_B2_4 := hB2.out.frz 4
        have l_B2 := hB2.out.lt
        have e_b0 := (View.cellB hV.out.at.2.2.2.2.2 k _ HX.out).1
        have e_b1 := (View.cellB hV.out.at.2.2.2.2.2 k _ HX.out).2.1
        have e_b2 := (View.cellB hV.out.at.2.2.2.2.2 k _ HX.out).2.2.1
        have e_b3 := (View.cellB hV.out.at.2.2.2.2.2 k _ HX.out).2.2.2.1
        have e_b4 := (View.cellB hV.out.at.2.2.2.2.2 k _ HX.out).2.2.2.2
        obtain ⟨W9, hW9⟩ : ∃ W, W = W8.alloc (.cells #[.int .u64 (zo.toNat : Int), .int .u64 (zs.toNat : Int), .bool zu, .int .i64 zw, .int .u64 (zl.toNat : Int)] 103) := ⟨_, rfl⟩
        obtain ⟨B3, eB3⟩ : ∃ B, B = W8.heap.size := ⟨_, rfl⟩
        replace hW9 := Lib.hid hW9
        replace eB3 := Lib.hid eB3
        go_wp2_with fail
        clear c_B1_0 f_B1_0 c_B1_1 f_B1_1 l_B1 c_B2_0 f_B2_0 c_B2_1 f_B2_1 c_B2_2 f_B2_2 c_B2_3 f_B2_3 c_B2_4 f_B2_4 l_B2 e_b0 e_b1 e_b2 e_b3 e_b4
        rw [← hW9.out]
        try rw [← eB3.out]
        have k3 : Keeps Nil W8 W9 := by rw [hW9.out]; exact alloc_keeps _ _
        have e0B3 : B3 = W8.heap.size := by rw [eB3.out]
        have hB3 := Lib.hid (show Bx W9 S1 B3 #[.int .u64 (zo.toNat : Int), .int .u64 (zs.toNat : Int), .bool zu, .int .i64 zw, .int .u64 (zl.toNat : Int)] 103 by rw [hW9.out]; exact Bx.new hT.out.lt _ _ e0B3)
        have gB3 := Lib.hid (show w.heap.size ≤ B3 by rw [e0B3]; exact hst.out.keeps.size)
        have nB1B3 := Lib.hid (show B1 < B3 by rw [e0B3]; exact hB1.out.lt)
        have nB2B3 := Lib.hid (show B2 < B3 by rw [e0B3]; exact hB2.out.lt)
        replace hst := Lib.hid (hst.out.nil k3)
        replace hV := Lib.hid (hV.out.keeps_nil k3)
        replace hT := Lib.hid (hT.out.nil k3)
        replace hB1 := Lib.hid (hB1.out.nil k3)
        replace hB2 := Lib.hid (hB2.out.nil k3)
        clear k3 e0B3
        go_roundw
        case rel => exact ⟨⟨k + 1, by omega, by go_num, hst, hT, hV⟩, hB1⟩
        case measure => simp [intOf]; omega
      | false =>
        have HF := Lib.hid (findO_free HR.out HE.out.2.2.2 hx rfl)
        replace HX := HX
        clear hx
        obtain ⟨y1, zy1⟩ : ∃ y : UInt64, y = bo + 32 := ⟨_, rfl⟩
        have q1 : IntKind.u64.wrap ((bo.toNat : Int) + 32) = (y1.toNat : Int) := by rw [zy1]; exact u64_add bo 32
        replace zy1 := Lib.hid zy1
        have c_B1_0 := hB1.out.cell 0 _ rfl
        have f_B1_0 := hB1.out.frz 0
        have c_B1_1 := hB1.out.cell 1 _ rfl
        have f_B1_1 := hB1.out.frz 1
        have l_B1 := hB1.out.lt
        have e_b0 := (View.cellB hV.out.at.2.2.2.2.2 k _ HX.out).1
        have e_b1 := (View.cellB hV.out.at.2.2.2.2.2 k _ HX.out).2.1
        have e_b2 := (View.cellB hV.out.at.2.2.2.2.2 k _ HX.out).2.2.1
        have e_b3 := (View.cellB hV.out.at.2.2.2.2.2 k _ HX.out).2.2.2.1
        have e_b4 := (View.cellB hV.out.at.2.2.2.2.2 k _ HX.out).2.2.2.2
        go_wp2_with fail
        clear c_B1_0 f_B1_0 c_B1_1 f_B1_1 l_B1 e_b0 e_b1 e_b2 e_b3 e_b4
        refine (Find_any hT.out.readsK hT.out.lt (by decide) y1 _ rfl).mono ?_
        rintro _ W5 ⟨rfl, kn⟩
        rw [show findO 4800 (txLoad ws P) y1 = none by rw [zy1.out]; exact HF.out, ← HZ.out, BlockV.cells_def, Option.isSome_none]
        replace hst := Lib.hid (hst.out.nil kn)
        replace hV := Lib.hid (hV.out.keeps_nil kn)
        replace hT := Lib.hid (hT.out.nil kn)
        replace hB1 := Lib.hid (hB1.out.nil kn)
        clear kn
        have c_B1_0 := hB1.out.cell 0 _ rfl
        have f_B1_0 := hB1.out.frz 0
        have c_B1_1 := hB1.out.cell 1 _ rfl
        have f_B1_1 := hB1.out.frz 1
        have l_B1 := hB1.out.lt
        have e_b0 := (View.cellB hV.out.at.2.2.2.2.2 k _ HX.out).1
        have e_b1 := (View.cellB hV.out.at.2.2.2.2.2 k _ HX.out).2.1
        have e_b2 := (View.cellB hV.out.at.2.2.2.2.2 k _ HX.out).2.2.1
        have e_b3 := (View.cellB hV.out.at.2.2.2.2.2 k _ HX.out).2.2.2.1
        have e_b4 := (View.cellB hV.out.at.2.2.2.2.2 k _ HX.out).2.2.2.2
        obtain ⟨W6, hW6⟩ : ∃ W, W = W5.alloc (.cells #[.int .u64 (zo.toNat : Int), .int .u64 (zs.toNat : Int), .bool zu, .int .i64 zw, .int .u64 (zl.toNat : Int)] 103) := ⟨_, rfl⟩
        obtain ⟨B2, eB2⟩ : ∃ B, B = W5.heap.size := ⟨_, rfl⟩
        replace hW6 := Lib.hid hW6
        replace eB2 := Lib.hid eB2
        go_wp2_with fail
        clear c_B1_0 f_B1_0 c_B1_1 f_B1_1 l_B1 e_b0 e_b1 e_b2 e_b3 e_b4
        rw [← hW6.out]
        try rw [← eB2.out]
        have k2 : Keeps Nil W5 W6 := by rw [hW6.out]; exact alloc_keeps _ _
        have e0B2 : B2 = W5.heap.size := by rw [eB2.out]
        have hB2 := Lib.hid (show Bx W6 S1 B2 #[.int .u64 (zo.toNat : Int), .int .u64 (zs.toNat : Int), .bool zu, .int .i64 zw, .int .u64 (zl.toNat : Int)] 103 by rw [hW6.out]; exact Bx.new hT.out.lt _ _ e0B2)
        have gB2 := Lib.hid (show w.heap.size ≤ B2 by rw [e0B2]; exact hst.out.keeps.size)
        have nB1B2 := Lib.hid (show B1 < B2 by rw [e0B2]; exact hB1.out.lt)
        replace hst := Lib.hid (hst.out.nil k2)
        replace hV := Lib.hid (hV.out.keeps_nil k2)
        replace hT := Lib.hid (hT.out.nil k2)
        replace hB1 := Lib.hid (hB1.out.nil k2)
        clear k2 e0B2
        obtain ⟨W7, hW7⟩ : ∃ W, W = W6.drew := ⟨_, rfl⟩
        replace hW7 := Lib.hid hW7
        have kn : Keeps Nil W6 W7 := by rw [hW7.out]; exact keeps_drew _
        replace hst := Lib.hid (hst.out.nil kn)
        replace hV := Lib.hid (hV.out.keeps_nil kn)
        replace hT := Lib.hid (hT.out.nil kn)
        replace hB1 := Lib.hid (hB1.out.nil kn)
        replace hB2 := Lib.hid (hB2.out.nil kn)
        clear kn
        refine wp_region_held_drew (S := fun w' => w'.cell? ⟨B1, 0, none⟩ = some (.slice (some ⟨ab, ao, none⟩) 600 ac) ∧ w'.cell? ⟨B1, 1, none⟩ = some (.slice a2 P.length c2) ∧ w'.cell? ⟨B2, 0, none⟩ = some (.int .u64 (zo.toNat : Int)) ∧ w'.cell? ⟨B2, 1, none⟩ = some (.int .u64 (zs.toNat : Int)) ∧ w'.cell? ⟨B2, 2, none⟩ = some (.bool zu) ∧ w'.cell? ⟨B2, 3, none⟩ = some (.int .i64 zw) ∧ w'.cell? ⟨B2, 4, none⟩ = some (.int .u64 (zl.toNat : Int)) ∧ w'.cell? ⟨gb, go + k * 5, none⟩ = some (.int .u64 (bo.toNat : Int)) ∧ w'.cell? ⟨gb, go + k * 5 + 1, none⟩ = some (.int .u64 (bs.toNat : Int)) ∧ w'.cell? ⟨gb, go + k * 5 + 2, none⟩ = some (.bool false) ∧ w'.cell? ⟨gb, go + k * 5 + 3, none⟩ = some (.int .i64 bw) ∧ w'.cell? ⟨gb, go + k * 5 + 4, none⟩ = some (.int .u64 (bl.toNat : Int))) (by kernel_rfl) (by rw [← hW7.out]; exact ⟨hB1.out.cell 0 _ rfl, hB1.out.cell 1 _ rfl, hB2.out.cell 0 _ rfl, hB2.out.cell 1 _ rfl, hB2.out.cell 2 _ rfl, hB2.out.cell 3 _ rfl, hB2.out.cell 4 _ rfl, (View.cellB hV.out.at.2.2.2.2.2 k _ HX.out).1, (View.cellB hV.out.at.2.2.2.2.2 k _ HX.out).2.1, (View.cellB hV.out.at.2.2.2.2.2 k _ HX.out).2.2.1, (View.cellB hV.out.at.2.2.2.2.2 k _ HX.out).2.2.2.1, (View.cellB hV.out.at.2.2.2.2.2 k _ HX.out).2.2.2.2⟩) (fun hHeld => ?_)
        rw [← hW7.out] at hHeld ⊢
        refine wpAnyH_take (i := 0) (oi := _) (v := ?m20_v) rfl (by kernel_rfl) (by kernel_rfl) (by kernel_rfl) (fun _ _ _ h => h) (Or.inl ⟨by kernel_rfl, ?m20_h⟩) hHeld ?m20_r
        case m20_h => (intro w hSw; (try dsimp only at hSw); go_simp; try with_reducible rfl)
        try simp only [Act.put, List.getElem_toArray, List.getElem_cons_succ, List.getElem_cons_zero, List.setIfInBounds_toArray, List.set_cons_zero, List.set_cons_succ]
        refine wpAnyH_take (i := 1) (oi := _) (v := ?m21_v) rfl (by kernel_rfl) (by kernel_rfl) (by kernel_rfl) (fun _ _ _ h => h) (Or.inl ⟨by kernel_rfl, ?m21_h⟩) hHeld ?m21_r
        case m21_h => (intro w hSw; (try dsimp only at hSw); go_simp; try with_reducible rfl)
        try simp only [Act.put, List.getElem_toArray, List.getElem_cons_succ, List.getElem_cons_zero, List.setIfInBounds_toArray, List.set_cons_zero, List.set_cons_succ]
        refine wpAnyH_take (i := 2) (oi := _) (v := ?m22_v) rfl (by kernel_rfl) (by kernel_rfl) (by kernel_rfl) (fun _ _ _ h => h) (Or.inl ⟨by kernel_rfl, ?m22_h⟩) hHeld ?m22_r
        case m22_h => (intro w hSw; (try dsimp only at hSw); go_simp; try with_reducible rfl)
        try simp only [Act.put, List.getElem_toArray, List.getElem_cons_succ, List.getElem_cons_zero, List.setIfInBounds_toArray, List.set_cons_zero, List.set_cons_succ]
        refine wpAnyH_take (i := 3) (oi := _) (v := ?m23_v) rfl (by kernel_rfl) (by kernel_rfl) (by kernel_rfl) (fun _ _ _ h => h) (Or.inl ⟨by kernel_rfl, ?m23_h⟩) hHeld ?m23_r
        case m23_h => (intro w hSw; (try dsimp only at hSw); go_simp; try with_reducible rfl)
        try simp only [Act.put, List.getElem_toArray, List.getElem_cons_succ, List.getElem_cons_zero, List.setIfInBounds_toArray, List.set_cons_zero, List.set_cons_succ]
        refine wpAnyH_take (i := 4) (oi := _) (v := ?m24_v) rfl (by kernel_rfl) (by kernel_rfl) (by kernel_rfl) (fun _ _ _ h => h) (Or.inl ⟨by kernel_rfl, ?m24_h⟩) hHeld ?m24_r
        case m24_h => (intro w hSw; (try dsimp only at hSw); go_simp; try with_reducible rfl)
        try simp only [Act.put, List.getElem_toArray, List.getElem_cons_succ, List.getElem_cons_zero, List.setIfInBounds_toArray, List.set_cons_zero, List.set_cons_succ]
        refine wpAnyH_take (i := 5) (oi := _) (v := ?m25_v) rfl (by kernel_rfl) (by kernel_rfl) (by kernel_rfl) (fun _ _ _ h => h) (Or.inl ⟨by kernel_rfl, ?m25_h⟩) hHeld ?m25_r
        case m25_h => (intro w hSw; (try dsimp only at hSw); go_simp; try with_reducible rfl)
        try simp only [Act.put, List.getElem_toArray, List.getElem_cons_succ, List.getElem_cons_zero, List.setIfInBounds_toArray, List.set_cons_zero, List.set_cons_succ]
        refine wpAnyH_take (i := 6) (oi := _) (v := ?m26_v) rfl (by kernel_rfl) (by kernel_rfl) (by kernel_rfl) (fun _ _ _ h => h) (Or.inl ⟨by kernel_rfl, ?m26_h⟩) hHeld ?m26_r
        case m26_h => (intro w hSw; (try dsimp only at hSw); go_simp; try with_reducible rfl)
        try simp only [Act.put, List.getElem_toArray, List.getElem_cons_succ, List.getElem_cons_zero, List.setIfInBounds_toArray, List.set_cons_zero, List.set_cons_succ]
        refine wpAnyH_take (i := 7) (oi := _) (v := ?m27_v) rfl (by kernel_rfl) (by kernel_rfl) (by kernel_rfl) (fun _ _ _ h => h) (Or.inl ⟨by kernel_rfl, ?m27_h⟩) hHeld ?m27_r
        case m27_h => (intro w hSw; (try dsimp only at hSw); go_simp; try with_reducible rfl)
        try simp only [Act.put, List.getElem_toArray, List.getElem_cons_succ, List.getElem_cons_zero, List.setIfInBounds_toArray, List.set_cons_zero, List.set_cons_succ]
        refine wpAnyH_take (i := 8) (oi := _) (v := ?m28_v) rfl (by kernel_rfl) (by kernel_rfl) (by kernel_rfl) (fun _ _ _ h => h) (Or.inl ⟨by kernel_rfl, ?m28_h⟩) hHeld ?m28_r
        case m28_h => (intro w hSw; (try dsimp only at hSw); go_simp; try with_reducible rfl)
        try simp only [Act.put, List.getElem_toArray, List.getElem_cons_succ, List.getElem_cons_zero, List.setIfInBounds_toArray, List.set_cons_zero, List.set_cons_succ]
        refine wpAnyH_take (i := 9) (oi := _) (v := ?m29_v) rfl (by kernel_rfl) (by kernel_rfl) (by kernel_rfl) (fun _ _ _ h => h) (Or.inl ⟨by kernel_rfl, ?m29_h⟩) hHeld ?m29_r
        case m29_h => (intro w hSw; (try dsimp only at hSw); go_simp; try with_reducible rfl)
        try simp only [Act.put, List.getElem_toArray, List.getElem_cons_succ, List.getElem_cons_zero, List.setIfInBounds_toArray, List.set_cons_zero, List.set_cons_succ]
        refine wpAnyH_take (i := 10) (oi := _) (v := ?m30_v) rfl (by kernel_rfl) (by kernel_rfl) (by kernel_rfl) (fun _ _ _ h => h) (Or.inl ⟨by kernel_rfl, ?m30_h⟩) hHeld ?m30_r
        case m30_h => (intro w hSw; (try dsimp only at hSw); go_simp; try with_reducible rfl)
        try simp only [Act.put, List.getElem_toArray, List.getElem_cons_succ, List.getElem_cons_zero, List.setIfInBounds_toArray, List.set_cons_zero, List.set_cons_succ]
        refine wpAnyH_take (i := 11) (oi := _) (v := undef) rfl (by kernel_rfl) (by kernel_rfl) (by kernel_rfl) (fun _ _ _ h => h) (Or.inr ⟨by kernel_rfl, rfl⟩) hHeld ?_
        try simp only [Act.put, List.getElem_toArray, List.getElem_cons_succ, List.getElem_cons_zero, List.setIfInBounds_toArray, List.set_cons_zero, List.set_cons_succ]
        refine wpAnyH_take (i := 12) (oi := _) (v := undef) rfl (by kernel_rfl) (by kernel_rfl) (by kernel_rfl) (fun _ _ _ h => h) (Or.inr ⟨by kernel_rfl, rfl⟩) hHeld ?_
        try simp only [Act.put, List.getElem_toArray, List.getElem_cons_succ, List.getElem_cons_zero, List.setIfInBounds_toArray, List.set_cons_zero, List.set_cons_succ]
        refine wpAnyH_take (i := 13) (oi := _) (v := undef) rfl (by kernel_rfl) (by kernel_rfl) (by kernel_rfl) (fun _ _ _ h => h) (Or.inr ⟨by kernel_rfl, rfl⟩) hHeld ?_
        try simp only [Act.put, List.getElem_toArray, List.getElem_cons_succ, List.getElem_cons_zero, List.setIfInBounds_toArray, List.set_cons_zero, List.set_cons_succ]
        refine wpAnyH_take (i := 14) (oi := _) (v := undef) rfl (by kernel_rfl) (by kernel_rfl) (by kernel_rfl) (fun _ _ _ h => h) (Or.inr ⟨by kernel_rfl, rfl⟩) hHeld ?_
        try simp only [Act.put, List.getElem_toArray, List.getElem_cons_succ, List.getElem_cons_zero, List.setIfInBounds_toArray, List.set_cons_zero, List.set_cons_succ]
        refine wpAnyH_take (i := 15) (oi := _) (v := undef) rfl (by kernel_rfl) (by kernel_rfl) (by kernel_rfl) (fun _ _ _ h => h) (Or.inr ⟨by kernel_rfl, rfl⟩) hHeld ?_
        try simp only [Act.put, List.getElem_toArray, List.getElem_cons_succ, List.getElem_cons_zero, List.setIfInBounds_toArray, List.set_cons_zero, List.set_cons_succ]
        refine wpAnyH_take (i := 16) (oi := _) (v := undef) rfl (by kernel_rfl) (by kernel_rfl) (by kernel_rfl) (fun _ _ _ h => h) (Or.inr ⟨by kernel_rfl, rfl⟩) hHeld ?_
        try simp only [Act.put, List.getElem_toArray, List.getElem_cons_succ, List.getElem_cons_zero, List.setIfInBounds_toArray, List.set_cons_zero, List.set_cons_succ]
        refine wpAnyH_take (i := 17) (oi := _) (v := ?m31_v) rfl (by kernel_rfl) (by kernel_rfl) (by kernel_rfl) (fun _ _ _ h => h) (Or.inl ⟨by kernel_rfl, ?m31_h⟩) hHeld ?m31_r
        case m31_h => (intro w hSw; (try dsimp only at hSw); go_simp; try with_reducible rfl)
        try simp only [Act.put, List.getElem_toArray, List.getElem_cons_succ, List.getElem_cons_zero, List.setIfInBounds_toArray, List.set_cons_zero, List.set_cons_succ]
        refine wpAnyH_take (i := 18) (oi := _) (v := ?m32_v) rfl (by kernel_rfl) (by kernel_rfl) (by kernel_rfl) (fun _ _ _ h => h) (Or.inl ⟨by kernel_rfl, ?m32_h⟩) hHeld ?m32_r
        case m32_h => (intro w hSw; (try dsimp only at hSw); go_simp; try with_reducible rfl)
        try simp only [Act.put, List.getElem_toArray, List.getElem_cons_succ, List.getElem_cons_zero, List.setIfInBounds_toArray, List.set_cons_zero, List.set_cons_succ]
        refine wpAnyH_done (by kernel_rfl) ?_ _
        clear hHeld
        obtain ⟨y2, zy2⟩ : ∃ y : UInt64, y = y1 + 1 := ⟨_, rfl⟩
        have q2 : IntKind.u64.wrap ((y1.toNat : Int) + 1) = (y2.toNat : Int) := by rw [zy2]; exact u64_add y1 1
        replace zy2 := Lib.hid zy2
        obtain ⟨y3, zy3⟩ : ∃ y : UInt64, y = y2 + mm := ⟨_, rfl⟩
        have q3 : IntKind.u64.wrap ((y2.toNat : Int) + (mm.toNat : Int)) = (y3.toNat : Int) := by rw [zy3]; exact u64_add y2 mm
        replace zy3 := Lib.hid zy3
        have c_B1_0 := hB1.out.cell 0 _ rfl
        have f_B1_0 := hB1.out.frz 0
        have c_B1_1 := hB1.out.cell 1 _ rfl
        have f_B1_1 := hB1.out.frz 1
        have l_B1 := hB1.out.lt
        have c_B2_0 := hB2.out.cell 0 _ rfl
        have f_B2_0 := hB2.out.frz 0
        have c_B2_1 := hB2.out.cell 1 _ rfl
        have f_B2_1 := hB2.out.frz 1
        have c_B2_2 := hB2.out.cell 2 _ rfl
        have f_B2_2 := hB2.out.frz 2
        have c_B2_3 := hB2.out.cell 3 _ rfl
        have f_B2_3 := hB2.out.frz 3
        have c_B2_4 := hB2.out.cell 4 _ rfl
        have f_B2_4 := hB2.out.frz 4
        have l_B2 := hB2.out.lt
        have e_b0 := (View.cellB hV.out.at.2.2.2.2.2 k _ HX.out).1
        have e_b1 := (View.cellB hV.out.at.2.2.2.2.2 k _ HX.out).2.1
        have e_b2 := (View.cellB hV.out.at.2.2.2.2.2 k _ HX.out).2.2.1
        have e_b3 := (View.cellB hV.out.at.2.2.2.2.2 k _ HX.out).2.2.2.1
        have e_b4 := (View.cellB hV.out.at.2.2.2.2.2 k _ HX.out).2.2.2.2
        go_wp2_with fail
        clear c_B1_0 f_B1_0 c_B1_1 f_B1_1 l_B1 c_B2_0 f_B2_0 c_B2_1 f_B2_1 c_B2_2 f_B2_2 c_B2_3 f_B2_3 c_B2_4 f_B2_4 l_B2 e_b0 e_b1 e_b2 e_b3 e_b4
        refine (Find_any hT.out.readsK hT.out.lt (by decide) y3 _ rfl).mono ?_
        rintro _ W8 ⟨rfl, kn⟩
        rw [show findO 4800 (txLoad ws P) y3 = none by rw [zy3.out, zy2.out, zy1.out]; exact HW.out, ← HZ.out, BlockV.cells_def, Option.isSome_none]
        replace hst := Lib.hid (hst.out.nil kn)
        replace hV := Lib.hid (hV.out.keeps_nil kn)
        replace hT := Lib.hid (hT.out.nil kn)
        replace hB1 := Lib.hid (hB1.out.nil kn)
        replace hB2 := Lib.hid (hB2.out.nil kn)
        clear kn
        have c_B1_0 := hB1.out.cell 0 _ rfl
        have f_B1_0 := hB1.out.frz 0
        have c_B1_1 := hB1.out.cell 1 _ rfl
        have f_B1_1 := hB1.out.frz 1
        have l_B1 := hB1.out.lt
        have c_B2_0 := hB2.out.cell 0 _ rfl
        have f_B2_0 := hB2.out.frz 0
        have c_B2_1 := hB2.out.cell 1 _ rfl
        have f_B2_1 := hB2.out.frz 1
        have c_B2_2 := hB2.out.cell 2 _ rfl
        have f_B2_2 := hB2.out.frz 2
        have c_B2_3 := hB2.out.cell 3 _ rfl
        have f_B2_3 := hB2.out.frz 3
        have c_B2_4 := hB2.out.cell 4 _ rfl
        have f_B2_4 := hB2.out.frz 4
        have l_B2 := hB2.out.lt
        have e_b0 := (View.cellB hV.out.at.2.2.2.2.2 k _ HX.out).1
        have e_b1 := (View.cellB hV.out.at.2.2.2.2.2 k _ HX.out).2.1
        have e_b2 := (View.cellB hV.out.at.2.2.2.2.2 k _ HX.out).2.2.1
        have e_b3 := (View.cellB hV.out.at.2.2.2.2.2 k _ HX.out).2.2.2.1
        have e_b4 := (View.cellB hV.out.at.2.2.2.2.2 k _ HX.out).2.2.2.2
        obtain ⟨W9, hW9⟩ : ∃ W, W = W8.alloc (.cells #[.int .u64 (zo.toNat : Int), .int .u64 (zs.toNat : Int), .bool zu, .int .i64 zw, .int .u64 (zl.toNat : Int)] 103) := ⟨_, rfl⟩
        obtain ⟨B3, eB3⟩ : ∃ B, B = W8.heap.size := ⟨_, rfl⟩
        replace hW9 := Lib.hid hW9
        replace eB3 := Lib.hid eB3
        go_wp2_with fail
        clear c_B1_0 f_B1_0 c_B1_1 f_B1_1 l_B1 c_B2_0 f_B2_0 c_B2_1 f_B2_1 c_B2_2 f_B2_2 c_B2_3 f_B2_3 c_B2_4 f_B2_4 l_B2 e_b0 e_b1 e_b2 e_b3 e_b4
        rw [← hW9.out]
        try rw [← eB3.out]
        have k3 : Keeps Nil W8 W9 := by rw [hW9.out]; exact alloc_keeps _ _
        have e0B3 : B3 = W8.heap.size := by rw [eB3.out]
        have hB3 := Lib.hid (show Bx W9 S1 B3 #[.int .u64 (zo.toNat : Int), .int .u64 (zs.toNat : Int), .bool zu, .int .i64 zw, .int .u64 (zl.toNat : Int)] 103 by rw [hW9.out]; exact Bx.new hT.out.lt _ _ e0B3)
        have gB3 := Lib.hid (show w.heap.size ≤ B3 by rw [e0B3]; exact hst.out.keeps.size)
        have nB1B3 := Lib.hid (show B1 < B3 by rw [e0B3]; exact hB1.out.lt)
        have nB2B3 := Lib.hid (show B2 < B3 by rw [e0B3]; exact hB2.out.lt)
        replace hst := Lib.hid (hst.out.nil k3)
        replace hV := Lib.hid (hV.out.keeps_nil k3)
        replace hT := Lib.hid (hT.out.nil k3)
        replace hB1 := Lib.hid (hB1.out.nil k3)
        replace hB2 := Lib.hid (hB2.out.nil k3)
        clear k3 e0B3
        go_roundw
        case rel => exact ⟨⟨k + 1, by omega, by go_num, hst, hT, hV⟩, hB1⟩
        case measure => simp [intOf]; omega
    · skip
      have c_B1_0 := hB1.out.cell 0 _ rfl
      have f_B1_0 := hB1.out.frz 0
      have c_B1_1 := hB1.out.cell 1 _ rfl
      have f_B1_1 := hB1.out.frz 1
      have l_B1 := hB1.out.lt
      go_wp2_with fail
      go_ret
      clear c_B1_0 f_B1_0 c_B1_1 f_B1_1 l_B1
      exact ⟨rfl, hst.out.keeps⟩
end Go.Proofs.Ytccllkgaakmdhaa
