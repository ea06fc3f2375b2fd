/- PhysRW: merged. -/
import Derived.Test.YtefpbljekfkefaaGreatM13
import Derived.Test.YtefpbljekfkefaaGreatM06
import Derived.Test.YtefpbljekfkefaaGreatM08
/- carrackref06: check, Walk. -/
namespace Go.Proofs.YtefpbljekfkefaaGreat
open Go.RowKit

/-- applied, the words tell what is thought of -/
theorem loadV_apply {ws : List UInt64} {l : List Put} (_hs : ws.length ≤ 131072) (h : GoodP ws l) (off : UInt64) : loadV (applyW ws l) off = txLoad ws l off := by
  unfold loadV txLoad
  have hlen := applyW_length l ws
  rw [inB_len hlen]
  by_cases hin : inB ws off = true
  · rw [if_pos hin]
    have hb := inB_iff.1 hin
    rw [applyW_get h.1 h.2 (off.toNat / 8) off (by omega) (by omega)]
    cases e : loadP l off with
    | some u => rfl
    | none => simp only [Option.none_or, Option.getD_none, loadV, hin, if_true]
  · rw [if_neg hin]
    have : loadP l off = none := loadP_none.2 (fun hm => hin (by obtain ⟨x, hx, rfl⟩ := List.mem_map.1 hm; exact h.2 x hx))
    rw [this]
    simp [loadV, hin]

theorem read_spec48 {f : UInt64 → UInt64} {off : UInt64} (hr : readB f off = true) : 48 ≤ (readT f off).size.toNat ∧ off.toNat + (readT f off).size.toNat ≤ (f 16).toNat := by
  have hr' := hr
  unfold readB at hr'
  simp only [Bool.and_eq_true] at hr'
  obtain ⟨⟨h1, h2⟩, _⟩ := hr'
  rw [readT_yes hr]
  obtain ⟨_, _, h3, h4⟩ := inT_spec h2
  exact ⟨(may_spec (may_unpack h1)).2.1, by omega⟩
theorem walk_len {f : UInt64 → UInt64} {xs : List Item} {off : UInt64} {P : List BlockV} (h : Hid (AtB f xs off ∧ P = xs.map (·.1))) (_ : (f 16).toNat ≤ 1048576) : P.length < 4294967296 := by
  obtain ⟨h1, rfl⟩ := h.out
  rcases h1.good.2 with e | e
  · have := h1.le; simp; omega
  · rw [e]; simp
theorem walk_step {f : UInt64 → UInt64} {xs : List Item} {off y s : UInt64} {P : List BlockV} {u : Bool} {o : Int} {n : UInt64} (h : Hid (AtB f xs off ∧ P = xs.map (·.1))) (h1 : oneB f off = true ∧ oneT f off = ⟨off, ⟨s, u, o⟩, n⟩) (hy : y = off + s) (hlt : off.toNat < (f 16).toNat) :
    Hid (AtB f (xs ++ [((⟨off, ⟨s, u, o⟩, n⟩ : BlockV), true)]) y ∧ P ++ [(⟨off, ⟨s, u, o⟩, n⟩ : BlockV)] = (xs ++ [((⟨off, ⟨s, u, o⟩, n⟩ : BlockV), true)]).map (·.1)) := by
  obtain ⟨h2, rfl⟩ := h.out
  have := AtB.step h2 hlt h1.1
  rw [h1.2] at this
  exact Lib.hid ⟨by rw [hy]; exact this, by simp⟩
theorem walk_meas {a : Nat} {off y s : UInt64} (hlt : off.toNat < a) (h48 : 48 ≤ s.toNat ∧ off.toNat + s.toNat < 18446744073709551616) (hy : y = off + s) : a - (y.toNat : Int).toNat < a - (off.toNat : Int).toNat := by
  have : y.toNat = off.toNat + s.toNat := by rw [hy, UInt64.toNat_add]; omega
  omega
theorem one_pack {f : UInt64 → UInt64} {off s nd x : UInt64} {b : BlockV} (h1 : oneB f off = (needB x && decide (nd.toNat ≤ s.toNat))) (h2 : oneT f off = b) (h3 : needB x = true) (h4 : nd.toNat ≤ s.toNat) : oneB f off = true ∧ oneT f off = b := ⟨by rw [h1, h3, decide_eq_true h4]; rfl, h2⟩
theorem one_no_read {f : UInt64 → UInt64} {off : UInt64} (h : readB f off = false) : oneB f off = false := by unfold oneB; rw [h]; rfl
theorem one_no_need {f : UInt64 → UInt64} {off s nd x : UInt64} (h1 : oneB f off = (needB x && decide (nd.toNat ≤ s.toNat))) (h3 : needB x = false) : oneB f off = false := by rw [h1, h3]; rfl
theorem one_no_size {f : UInt64 → UInt64} {off s nd x : UInt64} (h1 : oneB f off = (needB x && decide (nd.toNat ≤ s.toNat))) (h4 : ¬ nd.toNat ≤ s.toNat) : oneB f off = false := by rw [h1, decide_eq_false h4, Bool.and_false]
theorem walk_bad {f : UInt64 → UInt64} {N : Nat} {xs : List Item} {off : UInt64} {P : List BlockV} (hsm : (f 16).toNat ≤ 1048576) (h : Hid (AtB f xs off ∧ P = xs.map (·.1))) (hlt : off.toNat < (f 16).toNat) (hb : oneB f off = false) (hw : walkB N f = (walkF f).isSome) : walkB N f = false ∧ walkL N f = [] := by
  obtain ⟨h1, _⟩ := h.out
  have e : walkF f = none := by
    rcases walk_all hsm (.inr ⟨xs, off, BlockV.zero, rfl, h1, hlt, hb⟩) with h | h
    · have := h.1 (BlockV.zero, false) (by simp)
      cases this
    · exact h.2
  have e2 : walkB N f = false := by rw [hw, e]; rfl
  exact ⟨e2, by unfold walkL; rw [if_neg (by rw [e2]; decide)]⟩
theorem walk_good {f : UInt64 → UInt64} {N : Nat} {xs : List Item} {off : UInt64} {P : List BlockV} (hsm : (f 16).toNat ≤ 1048576) (h : Hid (AtB f xs off ∧ P = xs.map (·.1))) (hlt : ¬ off.toNat < (f 16).toNat) (hw : walkB N f = (walkF f).isSome) : walkB N f = true ∧ walkL N f = P := by
  obtain ⟨h1, rfl⟩ := h.out
  have e : walkF f = some (xs.map (·.1)) := by
    rcases walk_all hsm (.inl ⟨off, h1, hlt⟩) with h | ⟨⟨ys, b, e⟩, _⟩
    · exact h.2
    · have := h1.good.1 (b, false) (by rw [e]; simp)
      cases this
  have e2 : walkB N f = true := by rw [hw, e]; rfl
  exact ⟨e2, by unfold walkL; rw [if_pos e2, e]; rfl⟩

set_option maxRecDepth 100000 in
set_option maxHeartbeats 4000000 in
theorem check6_any {S : Nat → Prop} {w : World} {a1 a2 : Option Addr} {n1 c1 n2 c2 : Nat} {ws : List UInt64} {l : List Put} (h : TxV S w (.slice a1 n1 c1) (.slice a2 n2 c2) ws l) (hS : ∀ k, S k → k < w.heap.size) (hg : GoodP ws l) :
    Calls Tryz.prog 151 #[.agg #[.slice a1 n1 c1, .slice a2 n2 c2]] w fun e w' => e = .returned (.int .i64 (codeOf (chkB (8 * ws.length) (txLoad ws l)))) ∧ Keeps Nil w w' := by
  have hf : loadV (applyW ws l) = txLoad ws l := funext (fun off => loadV_apply h.2.1 hg off)
  have hl2 := applyW_length l ws
  obtain ⟨b, o, c, _, _, e1, e2⟩ := h.val
  cases e1
  cases e2
  have hV := Lib.hid h
  have HS := Lib.hid hS
  have HF := Lib.hid (And.intro hf hl2)
  clear h hS hf hl2
  have hst := Lib.hid (Step.refl Nil w)
  go_enter Tryz.func151, Tryz.ntmps151
  obtain ⟨W1, hW1⟩ : ∃ W, W = w.alloc (.cells #[.slice (some ⟨b, o, none⟩) ws.length c1, .slice a2 l.length c2] 71) := ⟨_, rfl⟩
  obtain ⟨B1, eB1⟩ : ∃ B, B = w.heap.size := ⟨_, rfl⟩
  replace hW1 := Lib.hid hW1
  replace eB1 := Lib.hid eB1
  go_wp2_with fail
  rw [← hW1.out]
  try rw [← eB1.out]
  have k1 : Keeps Nil w W1 := by rw [hW1.out]; exact alloc_keeps _ _
  have e0B1 : B1 = w.heap.size := by rw [eB1.out]
  have hB1 := Lib.hid (show Bx W1 Nil B1 #[.slice (some ⟨b, o, none⟩) ws.length c1, .slice a2 l.length c2] 71 by rw [hW1.out]; exact Bx.new Nil.lt _ _ e0B1)
  have gB1 := Lib.hid (show w.heap.size ≤ B1 by rw [e0B1]; exact hst.out.keeps.size)
  replace hst := Lib.hid (hst.out.nil k1)
  clear k1 e0B1
  refine (rApply_any (hV.out.keeps_nil hst.out.keeps).2.2.1 (hV.out.keeps_nil hst.out.keeps).2.2.2 (fun k e => Nat.lt_of_lt_of_le (HS.out k e) hst.out.keeps.size) (by have := hV.out.2.1; omega)).mono ?_
  rintro _ W2 ⟨v, rfl, hv, kn⟩
  replace hv := Lib.hid hv
  have hkv := Lib.hid (Keeps.refl Nil W2)
  replace hst := Lib.hid (hst.out.nil kn)
  replace hB1 := Lib.hid (hB1.out.nil kn)
  clear kn
  have c_B1_0 := hB1.out.cell 0 _ rfl
  have f_B1_0 := hB1.out.frz 0
  have c_B1_1 := hB1.out.cell 1 _ rfl
  have f_B1_1 := hB1.out.frz 1
  have l_B1 := hB1.out.lt
  go_wp2_with fail
  clear c_B1_0 f_B1_0 c_B1_1 f_B1_1 l_B1
  have HC := rCheck_any (hv.out.keeps_nil hkv.out) (by rw [HF.out.2]; exact hV.out.2.1)
  rw [HF.out.1, HF.out.2] at HC
  refine (HC).mono ?_
  rintro _ W3 ⟨rfl, kn⟩
  clear HC
  replace hst := Lib.hid (hst.out.nil kn)
  replace hkv := Lib.hid (hkv.out.trans' kn)
  replace hB1 := Lib.hid (hB1.out.nil kn)
  clear kn
  have c_B1_0 := hB1.out.cell 0 _ rfl
  have f_B1_0 := hB1.out.frz 0
  have c_B1_1 := hB1.out.cell 1 _ rfl
  have f_B1_1 := hB1.out.frz 1
  have l_B1 := hB1.out.lt
  go_wp2_with fail
  go_ret
  clear c_B1_0 f_B1_0 c_B1_1 f_B1_1 l_B1
  exact ⟨rfl, hst.out.keeps⟩
set_option maxRecDepth 100000 in
set_option maxHeartbeats 4000000 in
theorem rWalk6_any {S : Nat → Prop} {w : World} {a1 a2 : Option Addr} {n1 c1 n2 c2 : Nat} {ws : List UInt64} {l : List Put} (h : TxV S w (.slice a1 n1 c1) (.slice a2 n2 c2) ws l) (hS : ∀ k, S k → k < w.heap.size) (hg : GoodP ws l) :
    Calls Tryz.prog 102 #[.agg #[.slice a1 n1 c1, .slice a2 n2 c2]] w fun e w' => ∃ v, e = .returned (.tuple #[v, .int .i64 (codeOf (walkB (8 * ws.length) (txLoad ws l)))]) ∧ Own kRB w' w.heap.size v (walkL (8 * ws.length) (txLoad ws l)) ∧ Keeps Nil w w' := by
  obtain ⟨f, hf⟩ : ∃ f, f = txLoad ws l := ⟨_, rfl⟩
  obtain ⟨N, hN⟩ : ∃ N, N = 8 * ws.length := ⟨_, rfl⟩
  have hN2 : N ≤ 1048576 := by have := h.2.1; omega
  have hT : RReads (.agg #[.slice a1 n1 c1, .slice a2 n2 c2]) f w := by rw [hf]; exact h.rreads
  replace hT := Lib.hid hT
  have HCK := Lib.hid (fun w' (k : Keeps Nil w w') => check6_any (h.keeps_nil k) (fun i e => Nat.lt_of_lt_of_le (hS i e) k.size) hg)
  rw [← hf, ← hN] at HCK
  rw [← hf, ← hN]
  clear h hS hg hf hN
  cases hc : chkB N f with
  | false =>
    have hb : walkB N f = false := by unfold walkB; rw [hc]; rfl
    have hl : walkL N f = [] := by unfold walkL; rw [if_neg (by rw [hb]; decide)]
    rw [hb, hl]
    have HCB := Lib.hid hc
    clear hc hb hl
    have hst := Lib.hid (Step.refl Nil w)
    go_enter Tryz.func102, Tryz.ntmps102
    obtain ⟨W1, hW1⟩ : ∃ W, W = w.alloc (.cells #[.slice a1 n1 c1, .slice a2 n2 c2] 71) := ⟨_, rfl⟩
    obtain ⟨B1, eB1⟩ : ∃ B, B = w.heap.size := ⟨_, rfl⟩
    replace hW1 := Lib.hid hW1
    replace eB1 := Lib.hid eB1
    go_wp2_with fail
    rw [← hW1.out]
    try rw [← eB1.out]
    have k1 : Keeps Nil w W1 := by rw [hW1.out]; exact alloc_keeps _ _
    have e0B1 : B1 = w.heap.size := by rw [eB1.out]
    have hB1 := Lib.hid (show Bx W1 Nil B1 #[.slice a1 n1 c1, .slice a2 n2 c2] 71 by rw [hW1.out]; exact Bx.new Nil.lt _ _ e0B1)
    have gB1 := Lib.hid (show w.heap.size ≤ B1 by rw [e0B1]; exact hst.out.keeps.size)
    replace hst := Lib.hid (hst.out.nil k1)
    clear k1 e0B1
    have HC := HCK.out _ hst.out.keeps
    rw [HCB.out, codeOf_false] at HC
    refine (HC).mono ?_
    rintro _ W2 ⟨rfl, kn⟩
    clear HC
    replace hst := Lib.hid (hst.out.nil kn)
    replace hB1 := Lib.hid (hB1.out.nil kn)
    clear kn
    have c_B1_0 := hB1.out.cell 0 _ rfl
    have f_B1_0 := hB1.out.frz 0
    have c_B1_1 := hB1.out.cell 1 _ rfl
    have f_B1_1 := hB1.out.frz 1
    have l_B1 := hB1.out.lt
    go_wp2_with fail
    go_ret2
    clear c_B1_0 f_B1_0 c_B1_1 f_B1_1 l_B1
    exact ⟨_, rfl, Own.nil _ _ _, hst.out.keeps⟩
  | true =>
    have hsm : (f 16).toNat ≤ 1048576 := by
      have : fitsN (f 16) N = true := by unfold chkB at hc; simp only [Bool.and_eq_true] at hc; exact hc.2
      unfold fitsN at this
      simp at this
      omega
    have HCB := Lib.hid hc
    have HWB := Lib.hid (show walkB N f = (walkF f).isSome by unfold walkB; rw [hc]; rfl)
    clear hc
    have hst := Lib.hid (Step.refl Nil w)
    go_enter Tryz.func102, Tryz.ntmps102
    obtain ⟨W1, hW1⟩ : ∃ W, W = w.alloc (.cells #[.slice a1 n1 c1, .slice a2 n2 c2] 71) := ⟨_, rfl⟩
    obtain ⟨B1, eB1⟩ : ∃ B, B = w.heap.size := ⟨_, rfl⟩
    replace hW1 := Lib.hid hW1
    replace eB1 := Lib.hid eB1
    go_wp2_with fail
    rw [← hW1.out]
    try rw [← eB1.out]
    have k1 : Keeps Nil w W1 := by rw [hW1.out]; exact alloc_keeps _ _
    have e0B1 : B1 = w.heap.size := by rw [eB1.out]
    have hB1 := Lib.hid (show Bx W1 Nil B1 #[.slice a1 n1 c1, .slice a2 n2 c2] 71 by rw [hW1.out]; exact Bx.new Nil.lt _ _ e0B1)
    have gB1 := Lib.hid (show w.heap.size ≤ B1 by rw [e0B1]; exact hst.out.keeps.size)
    replace hst := Lib.hid (hst.out.nil k1)
    clear k1 e0B1
    have HC := HCK.out _ hst.out.keeps
    rw [HCB.out, codeOf_true] at HC
    refine (HC).mono ?_
    rintro _ W2 ⟨rfl, kn⟩
    clear HC
    replace hst := Lib.hid (hst.out.nil kn)
    replace hB1 := Lib.hid (hB1.out.nil kn)
    clear kn
    have c_B1_0 := hB1.out.cell 0 _ rfl
    have f_B1_0 := hB1.out.frz 0
    have c_B1_1 := hB1.out.cell 1 _ rfl
    have f_B1_1 := hB1.out.frz 1
    have l_B1 := hB1.out.lt
    go_wp2_with fail
    clear c_B1_0 f_B1_0 c_B1_1 f_B1_1 l_B1
    obtain ⟨bs, hbs⟩ : ∃ b, b = W2.heap.size := ⟨_, rfl⟩
    have gbs := Lib.hid (show w.heap.size ≤ bs by rw [hbs]; exact hst.out.keeps.size)
    have o_bs_B1 := Lib.hid (show B1 < bs by rw [hbs]; exact hB1.out.lt)
    have sbs := Lib.hid (show bs ≤ W2.heap.size by rw [hbs]; exact Nat.le_refl _)
    clear hbs
    go_loopw [4, 5] (fun vrow of wr => (∃ (off : UInt64) (xs : List Item) (P : List BlockV) (rv : Value), rv = vrow ∧ of = .int .u64 (off.toNat : Int) ∧ Hid (AtB f xs off ∧ P = xs.map (·.1)) ∧ Hid (Keeps Nil w wr) ∧ Hid (Own kRB wr bs rv P) ∧ Hid (bs ≤ wr.heap.size)) ∧ Hid (Bx wr Nil B1 #[.slice a1 n1 c1, .slice a2 n2 c2] 71)) (fun vrow of _ => (f 16).toNat - (intOf of).toNat)
    case atStart => exact ⟨⟨3776, [], [], _, rfl, rfl, ⟨AtB.start, rfl⟩, Lib.hid hst.out.keeps, Own.nil _ _ _, sbs⟩, hB1⟩
    case round =>
      clear hB1
      obtain ⟨hrel, hB1⟩ := hrel
      obtain ⟨off, xs, P, rv, rfl, rfl, HA, hK0, ho, hsb⟩ := hrel
      replace hst := Lib.hid (Step.of_nil (S := Nil) hK0.out)
      clear hK0
      have hPl : P.length < 4294967296 := walk_len HA hsm
      by_cases hlt : off.toNat < (f 16).toNat
      · have HLT := Lib.hid hlt
        obtain ⟨s, u, o, hg⟩ : ∃ s u o, readT f off = ⟨s, u, o⟩ := ⟨_, _, _, rfl⟩
        clear hlt
        cases hr : readB f off with
        | false =>
          have HR := Lib.hid (And.intro hg hr)
          clear hg hr
          have c_B1_0 := hB1.out.cell 0 _ rfl
          have f_B1_0 := hB1.out.frz 0
          have c_B1_1 := hB1.out.cell 1 _ rfl
          have f_B1_1 := hB1.out.frz 1
          have l_B1 := hB1.out.lt
          go_wp2_with fail
          clear c_B1_0 f_B1_0 c_B1_1 f_B1_1 l_B1
          refine ((hT.out.keeps hst.out.keeps).load _ (Keeps.refl _ _) 16 _ (by rfl)).mono ?_
          rintro _ W3 ⟨rfl, kn⟩
          replace hst := Lib.hid (hst.out.nil kn)
          replace ho := Lib.hid (ho.out.keeps_nil kn)
          replace hsb := Lib.hid (Nat.le_trans hsb.out kn.size)
          replace hB1 := Lib.hid (hB1.out.nil kn)
          clear kn
          have d1 : decide (off.toNat < (f 16).toNat) = true := decide_eq_true (HLT.out)
          have c_B1_0 := hB1.out.cell 0 _ rfl
          have f_B1_0 := hB1.out.frz 0
          have c_B1_1 := hB1.out.cell 1 _ rfl
          have f_B1_1 := hB1.out.frz 1
          have l_B1 := hB1.out.lt
          go_wp2_with fail
          clear c_B1_0 f_B1_0 c_B1_1 f_B1_1 l_B1
          refine (rRead_any (hT.out.keeps hst.out.keeps) off _ rfl).mono ?_
          rintro _ W4 ⟨rfl, kn⟩
          rw [HR.out.1, TagV.cells_def, HR.out.2, codeOf_false]
          replace hst := Lib.hid (hst.out.nil kn)
          replace ho := Lib.hid (ho.out.keeps_nil kn)
          replace hsb := Lib.hid (Nat.le_trans hsb.out kn.size)
          replace hB1 := Lib.hid (hB1.out.nil kn)
          clear kn
          have c_B1_0 := hB1.out.cell 0 _ rfl
          have f_B1_0 := hB1.out.frz 0
          have c_B1_1 := hB1.out.cell 1 _ rfl
          have f_B1_1 := hB1.out.frz 1
          have l_B1 := hB1.out.lt
          obtain ⟨W5, hW5⟩ : ∃ W, W = W4.alloc (.cells #[.int .u64 (s.toNat : Int), .bool u, .int .i64 o] 61) := ⟨_, rfl⟩
          obtain ⟨B2, eB2⟩ : ∃ B, B = W4.heap.size := ⟨_, rfl⟩
          replace hW5 := Lib.hid hW5
          replace eB2 := Lib.hid eB2
          go_wp2_with fail
          go_ret2
          clear c_B1_0 f_B1_0 c_B1_1 f_B1_1 l_B1
          rw [← hW5.out]
          try rw [← eB2.out]
          have k2 : Keeps Nil W4 W5 := by rw [hW5.out]; exact alloc_keeps _ _
          have e0B2 : B2 = W4.heap.size := by rw [eB2.out]
          have hB2 := Lib.hid (show Bx W5 Nil B2 #[.int .u64 (s.toNat : Int), .bool u, .int .i64 o] 61 by rw [hW5.out]; exact Bx.new Nil.lt _ _ e0B2)
          have gB2 := Lib.hid (show w.heap.size ≤ B2 by rw [e0B2]; exact hst.out.keeps.size)
          have nB1B2 := Lib.hid (show B1 < B2 by rw [e0B2]; exact hB1.out.lt)
          have r_ho_B2 := Lib.hid (show ∀ g, (rv : Value).ownBlock = some g → g < B2 by intro g hg; rw [e0B2]; exact (ho.out.block hg).2)
          replace hst := Lib.hid (hst.out.nil k2)
          replace ho := Lib.hid (ho.out.keeps_nil k2)
          replace hsb := Lib.hid (Nat.le_trans hsb.out k2.size)
          replace hB1 := Lib.hid (hB1.out.nil k2)
          clear k2 e0B2
          obtain ⟨e1, e2⟩ := walk_bad hsm HA HLT.out (one_no_read HR.out.2) HWB.out
          rw [e1, e2]
          exact ⟨_, rfl, Own.nil _ _ _, hst.out.keeps⟩
        | true =>
          have h48 : 48 ≤ s.toNat ∧ off.toNat + s.toNat < 18446744073709551616 := by
                have := read_spec48 hr; rw [hg] at this; dsimp only at this; exact ⟨this.1, by have := this.2; have := (f 16).toNat_lt; omega⟩
          have H48 := Lib.hid h48
          cases u with
          | false =>
            have HR := Lib.hid (And.intro hg hr)
            have HO := Lib.hid (show oneB f off = true ∧ oneT f off = ⟨off, ⟨s, false, o⟩, 0⟩ by unfold oneB oneT; rw [hr, hg]; exact ⟨rfl, rfl⟩)
            clear hg hr h48
            obtain ⟨y1, zy1⟩ : ∃ y : UInt64, y = off + s := ⟨_, rfl⟩
            have q1 : IntKind.u64.wrap ((off.toNat : Int) + (s.toNat : Int)) = (y1.toNat : Int) := by rw [zy1]; exact u64_add off s
            replace zy1 := Lib.hid zy1
            have c_B1_0 := hB1.out.cell 0 _ rfl
            have f_B1_0 := hB1.out.frz 0
            have c_B1_1 := hB1.out.cell 1 _ rfl
            have f_B1_1 := hB1.out.frz 1
            have l_B1 := hB1.out.lt
            go_wp2_with fail
            clear c_B1_0 f_B1_0 c_B1_1 f_B1_1 l_B1
            refine ((hT.out.keeps hst.out.keeps).load _ (Keeps.refl _ _) 16 _ (by rfl)).mono ?_
            rintro _ W3 ⟨rfl, kn⟩
            replace hst := Lib.hid (hst.out.nil kn)
            replace ho := Lib.hid (ho.out.keeps_nil kn)
            replace hsb := Lib.hid (Nat.le_trans hsb.out kn.size)
            replace hB1 := Lib.hid (hB1.out.nil kn)
            clear kn
            have d1 : decide (off.toNat < (f 16).toNat) = true := decide_eq_true (HLT.out)
            have c_B1_0 := hB1.out.cell 0 _ rfl
            have f_B1_0 := hB1.out.frz 0
            have c_B1_1 := hB1.out.cell 1 _ rfl
            have f_B1_1 := hB1.out.frz 1
            have l_B1 := hB1.out.lt
            go_wp2_with fail
            clear c_B1_0 f_B1_0 c_B1_1 f_B1_1 l_B1
            refine (rRead_any (hT.out.keeps hst.out.keeps) off _ rfl).mono ?_
            rintro _ W4 ⟨rfl, kn⟩
            rw [HR.out.1, TagV.cells_def, HR.out.2, codeOf_true]
            replace hst := Lib.hid (hst.out.nil kn)
            replace ho := Lib.hid (ho.out.keeps_nil kn)
            replace hsb := Lib.hid (Nat.le_trans hsb.out kn.size)
            replace hB1 := Lib.hid (hB1.out.nil kn)
            clear kn
            have c_B1_0 := hB1.out.cell 0 _ rfl
            have f_B1_0 := hB1.out.frz 0
            have c_B1_1 := hB1.out.cell 1 _ rfl
            have f_B1_1 := hB1.out.frz 1
            have l_B1 := hB1.out.lt
            obtain ⟨W5, hW5⟩ : ∃ W, W = W4.alloc (.cells #[.int .u64 (s.toNat : Int), .bool false, .int .i64 o] 61) := ⟨_, rfl⟩
            obtain ⟨B2, eB2⟩ : ∃ B, B = W4.heap.size := ⟨_, rfl⟩
            replace hW5 := Lib.hid hW5
            replace eB2 := Lib.hid eB2
            obtain ⟨W6, hW6⟩ : ∃ W, W = W5.alloc (.cells #[.int .u64 (off.toNat : Int), .int .u64 (s.toNat : Int), .bool false, .int .i64 o, .int .u64 0] 63) := ⟨_, rfl⟩
            obtain ⟨B3, eB3⟩ : ∃ B, B = W4.heap.size + 1 := ⟨_, rfl⟩
            replace hW6 := Lib.hid hW6
            replace eB3 := Lib.hid eB3
            go_wp2_with (at_builtin
                         rw [show W4.heap.size + 2 = W6.heap.size by rw [hW6.out, hW5.out]; simp []]
                         rw [← hW5.out]
                         rw [← hW6.out]
                         try rw [← eB3.out]
                         try rw [← eB2.out]
                         have k2 : Keeps Nil W4 W5 := by rw [hW5.out]; exact alloc_keeps _ _
                         have e0B2 : B2 = W4.heap.size := by rw [eB2.out]
                         have hB2 := Lib.hid (show Bx W5 Nil B2 #[.int .u64 (s.toNat : Int), .bool false, .int .i64 o] 61 by rw [hW5.out]; exact Bx.new Nil.lt _ _ e0B2)
                         have gB2 := Lib.hid (show w.heap.size ≤ B2 by rw [e0B2]; exact hst.out.keeps.size)
                         have nB1B2 := Lib.hid (show B1 < B2 by rw [e0B2]; exact hB1.out.lt)
                         have r_ho_B2 := Lib.hid (show ∀ g, (rv : Value).ownBlock = some g → g < B2 by intro g hg; rw [e0B2]; exact (ho.out.block hg).2)
                         replace hst := Lib.hid (hst.out.nil k2)
                         replace ho := Lib.hid (ho.out.keeps_nil k2)
                         replace hsb := Lib.hid (Nat.le_trans hsb.out k2.size)
                         replace hB1 := Lib.hid (hB1.out.nil k2)
                         clear k2 e0B2
                         have k3 : Keeps Nil W5 W6 := by rw [hW6.out]; exact alloc_keeps _ _
                         have e0B3 : B3 = W5.heap.size := by rw [eB3.out, hW5.out]; simp []
                         have hB3 := Lib.hid (show Bx W6 Nil B3 #[.int .u64 (off.toNat : Int), .int .u64 (s.toNat : Int), .bool false, .int .i64 o, .int .u64 0] 63 by rw [hW6.out]; exact Bx.new Nil.lt _ _ e0B3)
                         have gB3 := Lib.hid (show w.heap.size ≤ B3 by rw [e0B3]; exact hst.out.keeps.size)
                         have nB1B3 := Lib.hid (show B1 < B3 by rw [e0B3]; exact hB1.out.lt)
                         have nB2B3 := Lib.hid (show B2 < B3 by rw [e0B3]; exact hB2.out.lt)
                         have r_ho_B3 := Lib.hid (show ∀ g, (rv : Value).ownBlock = some g → g < B3 by intro g hg; rw [e0B3]; exact (ho.out.block hg).2)
                         replace hst := Lib.hid (hst.out.nil k3)
                         replace ho := Lib.hid (ho.out.keeps_nil k3)
                         replace hsb := Lib.hid (Nat.le_trans hsb.out k3.size)
                         replace hB1 := Lib.hid (hB1.out.nil k3)
                         replace hB2 := Lib.hid (hB2.out.nil k3)
                         clear k3 e0B3
                         refine wpList_append_one kRB rfl _ _ rfl ho.out rfl (⟨off, ⟨s, false, o⟩, 0⟩) _ rfl rfl hPl hsb.out ?_
                         rintro _ W7 ho7 kA7 ⟨g7, cap7, rfl, hg7⟩
                         have hst7 := Lib.hid (hst.out.own ho.out gbs.out kA7)
                         have hB1_7 := Lib.hid (hB1.out.own ho.out kA7 (own_ne_old ho.out o_bs_B1.out))
                         have hB2_7 := Lib.hid (hB2.out.own ho.out kA7 (own_ne_new r_ho_B2.out))
                         have hB3_7 := Lib.hid (hB3.out.own ho.out kA7 (own_ne_new r_ho_B3.out))
                         replace ho7 := Lib.hid ho7
                         have hs7 := Lib.hid (Nat.le_trans hsb.out kA7.size)
                         clear kA7
                         have c_B1_0 := hB1_7.out.cell 0 _ rfl
                         have f_B1_0 := hB1_7.out.frz 0
                         have c_B1_1 := hB1_7.out.cell 1 _ rfl
                         have f_B1_1 := hB1_7.out.frz 1
                         have l_B1 := hB1_7.out.lt
                         have c_B2_0 := hB2_7.out.cell 0 _ rfl
                         have f_B2_0 := hB2_7.out.frz 0
                         have c_B2_1 := hB2_7.out.cell 1 _ rfl
                         have f_B2_1 := hB2_7.out.frz 1
                         have c_B2_2 := hB2_7.out.cell 2 _ rfl
                         have f_B2_2 := hB2_7.out.frz 2
                         have l_B2 := hB2_7.out.lt
                         have c_B3_0 := hB3_7.out.cell 0 _ rfl
                         have f_B3_0 := hB3_7.out.frz 0
                         have c_B3_1 := hB3_7.out.cell 1 _ rfl
                         have f_B3_1 := hB3_7.out.frz 1
                         have c_B3_2 := hB3_7.out.cell 2 _ rfl
                         have f_B3_2 := hB3_7.out.frz 2
                         have c_B3_3 := hB3_7.out.cell 3 _ rfl
                         have f_B3_3 := hB3_7.out.frz 3
                         have c_B3_4 := hB3_7.out.cell 4 _ rfl
                         have f_B3_4 := hB3_7.out.frz 4
                         have l_B3 := hB3_7.out.lt)
            clear hst; have hst := hst7; clear hst7
            clear c_B1_0 f_B1_0 c_B1_1 f_B1_1 l_B1 c_B2_0 f_B2_0 c_B2_1 f_B2_1 c_B2_2 f_B2_2 l_B2 c_B3_0 f_B3_0 c_B3_1 f_B3_1 c_B3_2 f_B3_2 c_B3_3 f_B3_3 c_B3_4 f_B3_4 l_B3
            go_roundw
            case rel => exact ⟨⟨y1, _, _, _, rfl, rfl, walk_step HA HO.out (by rw [zy1.out]) HLT.out, Lib.hid hst.out.keeps, ho7, hs7⟩, hB1_7⟩
            case measure => simp only [intOf]; exact walk_meas HLT.out H48.out (by rw [zy1.out])
          | true =>
            have HR := Lib.hid (And.intro hg hr)
            obtain ⟨y8, hy8⟩ : ∃ y, y = off + 8 := ⟨_, rfl⟩
            obtain ⟨nd, hnd⟩ : ∃ n, n = needU (f y8) := ⟨_, rfl⟩
            have ho1 : oneB f off = (needB (f y8) && decide (nd.toNat ≤ s.toNat)) := by unfold oneB lenB; rw [hr, hg, hnd, hy8]; rfl
            have ho2 : oneT f off = ⟨off, ⟨s, true, o⟩, f y8⟩ := by unfold oneT; rw [hg, hy8]; rfl
            have HO2 := Lib.hid (And.intro ho1 (And.intro ho2 hy8))
            cases hnb : needB (f y8) with
            | false =>
              have HNB := Lib.hid (And.intro hnb hnd.symm)
              clear hnb hnd hg hr h48 ho1 ho2 hy8
              have q8 : IntKind.u64.wrap ((off.toNat : Int) + 8) = (y8.toNat : Int) := by rw [HO2.out.2.2]; exact u64_add off 8
              have c_B1_0 := hB1.out.cell 0 _ rfl
              have f_B1_0 := hB1.out.frz 0
              have c_B1_1 := hB1.out.cell 1 _ rfl
              have f_B1_1 := hB1.out.frz 1
              have l_B1 := hB1.out.lt
              go_wp2_with fail
              clear c_B1_0 f_B1_0 c_B1_1 f_B1_1 l_B1
              refine ((hT.out.keeps hst.out.keeps).load _ (Keeps.refl _ _) 16 _ (by rfl)).mono ?_
              rintro _ W3 ⟨rfl, kn⟩
              replace hst := Lib.hid (hst.out.nil kn)
              replace ho := Lib.hid (ho.out.keeps_nil kn)
              replace hsb := Lib.hid (Nat.le_trans hsb.out kn.size)
              replace hB1 := Lib.hid (hB1.out.nil kn)
              clear kn
              have d1 : decide (off.toNat < (f 16).toNat) = true := decide_eq_true (HLT.out)
              have c_B1_0 := hB1.out.cell 0 _ rfl
              have f_B1_0 := hB1.out.frz 0
              have c_B1_1 := hB1.out.cell 1 _ rfl
              have f_B1_1 := hB1.out.frz 1
              have l_B1 := hB1.out.lt
              go_wp2_with fail
              clear c_B1_0 f_B1_0 c_B1_1 f_B1_1 l_B1
              refine (rRead_any (hT.out.keeps hst.out.keeps) off _ rfl).mono ?_
              rintro _ W4 ⟨rfl, kn⟩
              rw [HR.out.1, TagV.cells_def, HR.out.2, codeOf_true]
              replace hst := Lib.hid (hst.out.nil kn)
              replace ho := Lib.hid (ho.out.keeps_nil kn)
              replace hsb := Lib.hid (Nat.le_trans hsb.out kn.size)
              replace hB1 := Lib.hid (hB1.out.nil kn)
              clear kn
              have c_B1_0 := hB1.out.cell 0 _ rfl
              have f_B1_0 := hB1.out.frz 0
              have c_B1_1 := hB1.out.cell 1 _ rfl
              have f_B1_1 := hB1.out.frz 1
              have l_B1 := hB1.out.lt
              obtain ⟨W5, hW5⟩ : ∃ W, W = W4.alloc (.cells #[.int .u64 (s.toNat : Int), .bool true, .int .i64 o] 61) := ⟨_, rfl⟩
              obtain ⟨B2, eB2⟩ : ∃ B, B = W4.heap.size := ⟨_, rfl⟩
              replace hW5 := Lib.hid hW5
              replace eB2 := Lib.hid eB2
              obtain ⟨W6, hW6⟩ : ∃ W, W = W5.alloc (.cells #[.int .u64 (off.toNat : Int), .int .u64 (s.toNat : Int), .bool true, .int .i64 o, .int .u64 0] 63) := ⟨_, rfl⟩
              obtain ⟨B3, eB3⟩ : ∃ B, B = W4.heap.size + 1 := ⟨_, rfl⟩
              replace hW6 := Lib.hid hW6
              replace eB3 := Lib.hid eB3
              go_wp2_with fail
              clear c_B1_0 f_B1_0 c_B1_1 f_B1_1 l_B1
              rw [← hW5.out]
              rw [← hW6.out]
              try rw [← eB3.out]
              try rw [← eB2.out]
              have k2 : Keeps Nil W4 W5 := by rw [hW5.out]; exact alloc_keeps _ _
              have e0B2 : B2 = W4.heap.size := by rw [eB2.out]
              have hB2 := Lib.hid (show Bx W5 Nil B2 #[.int .u64 (s.toNat : Int), .bool true, .int .i64 o] 61 by rw [hW5.out]; exact Bx.new Nil.lt _ _ e0B2)
              have gB2 := Lib.hid (show w.heap.size ≤ B2 by rw [e0B2]; exact hst.out.keeps.size)
              have nB1B2 := Lib.hid (show B1 < B2 by rw [e0B2]; exact hB1.out.lt)
              have r_ho_B2 := Lib.hid (show ∀ g, (rv : Value).ownBlock = some g → g < B2 by intro g hg; rw [e0B2]; exact (ho.out.block hg).2)
              replace hst := Lib.hid (hst.out.nil k2)
              replace ho := Lib.hid (ho.out.keeps_nil k2)
              replace hsb := Lib.hid (Nat.le_trans hsb.out k2.size)
              replace hB1 := Lib.hid (hB1.out.nil k2)
              clear k2 e0B2
              have k3 : Keeps Nil W5 W6 := by rw [hW6.out]; exact alloc_keeps _ _
              have e0B3 : B3 = W5.heap.size := by rw [eB3.out, hW5.out]; simp []
              have hB3 := Lib.hid (show Bx W6 Nil B3 #[.int .u64 (off.toNat : Int), .int .u64 (s.toNat : Int), .bool true, .int .i64 o, .int .u64 0] 63 by rw [hW6.out]; exact Bx.new Nil.lt _ _ e0B3)
              have gB3 := Lib.hid (show w.heap.size ≤ B3 by rw [e0B3]; exact hst.out.keeps.size)
              have nB1B3 := Lib.hid (show B1 < B3 by rw [e0B3]; exact hB1.out.lt)
              have nB2B3 := Lib.hid (show B2 < B3 by rw [e0B3]; exact hB2.out.lt)
              have r_ho_B3 := Lib.hid (show ∀ g, (rv : Value).ownBlock = some g → g < B3 by intro g hg; rw [e0B3]; exact (ho.out.block hg).2)
              replace hst := Lib.hid (hst.out.nil k3)
              replace ho := Lib.hid (ho.out.keeps_nil k3)
              replace hsb := Lib.hid (Nat.le_trans hsb.out k3.size)
              replace hB1 := Lib.hid (hB1.out.nil k3)
              replace hB2 := Lib.hid (hB2.out.nil k3)
              clear k3 e0B3
              refine ((hT.out.keeps hst.out.keeps).load _ (Keeps.refl _ _) y8 _ rfl).mono ?_
              rintro _ W7 ⟨rfl, kn⟩
              replace hst := Lib.hid (hst.out.nil kn)
              replace ho := Lib.hid (ho.out.keeps_nil kn)
              replace hsb := Lib.hid (Nat.le_trans hsb.out kn.size)
              replace hB1 := Lib.hid (hB1.out.nil kn)
              replace hB2 := Lib.hid (hB2.out.nil kn)
              replace hB3 := Lib.hid (hB3.out.nil kn)
              clear kn
              have c_B1_0 := hB1.out.cell 0 _ rfl
              have f_B1_0 := hB1.out.frz 0
              have c_B1_1 := hB1.out.cell 1 _ rfl
              have f_B1_1 := hB1.out.frz 1
              have l_B1 := hB1.out.lt
              have c_B2_0 := hB2.out.cell 0 _ rfl
              have f_B2_0 := hB2.out.frz 0
              have c_B2_1 := hB2.out.cell 1 _ rfl
              have f_B2_1 := hB2.out.frz 1
              have c_B2_2 := hB2.out.cell 2 _ rfl
              have f_B2_2 := hB2.out.frz 2
              have l_B2 := hB2.out.lt
              have c_B3_0 := hB3.out.cell 0 _ rfl
              have f_B3_0 := hB3.out.frz 0
              have c_B3_1 := hB3.out.cell 1 _ rfl
              have f_B3_1 := hB3.out.frz 1
              have c_B3_2 := hB3.out.cell 2 _ rfl
              have f_B3_2 := hB3.out.frz 2
              have c_B3_3 := hB3.out.cell 3 _ rfl
              have f_B3_3 := hB3.out.frz 3
              have c_B3_4 := hB3.out.cell 4 _ rfl
              have f_B3_4 := hB3.out.frz 4
              have l_B3 := hB3.out.lt
              have ne_B1_B3 : (B1 = B3) = False := eq_false (Nat.ne_of_lt nB1B3.out)
              have ne_B3_B1 : (B3 = B1) = False := eq_false (Ne.symm (Nat.ne_of_lt nB1B3.out))
              have ne_B2_B3 : (B2 = B3) = False := eq_false (Nat.ne_of_lt nB2B3.out)
              have ne_B3_B2 : (B3 = B2) = False := eq_false (Ne.symm (Nat.ne_of_lt nB2B3.out))
              obtain ⟨W8, hW8⟩ : ∃ W, W = (W7.setCell ⟨B3, 4, none⟩ (.int .u64 ((f y8).toNat : Int))) := ⟨_, rfl⟩
              replace hW8 := Lib.hid hW8
              go_wp2_with fail
              clear c_B1_0 f_B1_0 c_B1_1 f_B1_1 l_B1 c_B2_0 f_B2_0 c_B2_1 f_B2_1 c_B2_2 f_B2_2 l_B2 c_B3_0 f_B3_0 c_B3_1 f_B3_1 c_B3_2 f_B3_2 c_B3_3 f_B3_3 c_B3_4 f_B3_4 l_B3 ne_B1_B3 ne_B3_B1 ne_B2_B3 ne_B3_B2
              rw [← hW8.out]
              have kr1 : Keeps (fun k => k = B3) W7 W8 := by rw [hW8.out]; exact keeps_setCell W7 ⟨B3, 4, none⟩ _
              replace ho := Lib.hid (ho.out.keeps' kr1 (fun g hg e => (own_ne_new r_ho_B3.out) (by rw [← e]; exact hg)))
              replace hsb := Lib.hid (Nat.le_trans hsb.out kr1.size)
              clear kr1
              replace hst := Lib.hid (show Step _ Nil w W8 by rw [hW8.out]; exact (hst.out.set gB3.out _ _))
              replace hB1 := Lib.hid (show Bx W8 Nil B1 #[.slice a1 n1 c1, .slice a2 n2 c2] 71 by rw [hW8.out]; exact (hB1.out.other (Nat.ne_of_lt nB1B3.out) _ _))
              replace hB2 := Lib.hid (show Bx W8 Nil B2 #[.int .u64 (s.toNat : Int), .bool true, .int .i64 o] 61 by rw [hW8.out]; exact (hB2.out.other (Nat.ne_of_lt nB2B3.out) _ _))
              replace hB3 := Lib.hid (show Bx W8 Nil B3 #[.int .u64 (off.toNat : Int), .int .u64 (s.toNat : Int), .bool true, .int .i64 o, .int .u64 ((f y8).toNat : Int)] 63 by rw [hW8.out]; exact (hB3.out.set _ _))
              refine (rNeed_any _ (f y8) _ rfl).mono ?_
              rintro _ _ ⟨rfl, rfl⟩
              rw [HNB.out.2, HNB.out.1]
              have c_B1_0 := hB1.out.cell 0 _ rfl
              have f_B1_0 := hB1.out.frz 0
              have c_B1_1 := hB1.out.cell 1 _ rfl
              have f_B1_1 := hB1.out.frz 1
              have l_B1 := hB1.out.lt
              have c_B2_0 := hB2.out.cell 0 _ rfl
              have f_B2_0 := hB2.out.frz 0
              have c_B2_1 := hB2.out.cell 1 _ rfl
              have f_B2_1 := hB2.out.frz 1
              have c_B2_2 := hB2.out.cell 2 _ rfl
              have f_B2_2 := hB2.out.frz 2
              have l_B2 := hB2.out.lt
              have c_B3_0 := hB3.out.cell 0 _ rfl
              have f_B3_0 := hB3.out.frz 0
              have c_B3_1 := hB3.out.cell 1 _ rfl
              have f_B3_1 := hB3.out.frz 1
              have c_B3_2 := hB3.out.cell 2 _ rfl
              have f_B3_2 := hB3.out.frz 2
              have c_B3_3 := hB3.out.cell 3 _ rfl
              have f_B3_3 := hB3.out.frz 3
              have c_B3_4 := hB3.out.cell 4 _ rfl
              have f_B3_4 := hB3.out.frz 4
              have l_B3 := hB3.out.lt
              go_wp2_with fail
              go_ret2
              clear c_B1_0 f_B1_0 c_B1_1 f_B1_1 l_B1 c_B2_0 f_B2_0 c_B2_1 f_B2_1 c_B2_2 f_B2_2 l_B2 c_B3_0 f_B3_0 c_B3_1 f_B3_1 c_B3_2 f_B3_2 c_B3_3 f_B3_3 c_B3_4 f_B3_4 l_B3
              obtain ⟨e1, e2⟩ := walk_bad hsm HA HLT.out (one_no_need HO2.out.1 HNB.out.1) HWB.out
              rw [e1, e2]
              exact ⟨_, rfl, Own.nil _ _ _, hst.out.keeps⟩
            | true =>
              have HNB := Lib.hid (And.intro hnb hnd.symm)
              by_cases hns : nd.toNat ≤ s.toNat
              · have HNS := Lib.hid hns
                clear hnb hnd hg hr h48 ho1 ho2 hy8 hns
                have q8 : IntKind.u64.wrap ((off.toNat : Int) + 8) = (y8.toNat : Int) := by rw [HO2.out.2.2]; exact u64_add off 8
                obtain ⟨y1, zy1⟩ : ∃ y : UInt64, y = off + s := ⟨_, rfl⟩
                have q1 : IntKind.u64.wrap ((off.toNat : Int) + (s.toNat : Int)) = (y1.toNat : Int) := by rw [zy1]; exact u64_add off s
                replace zy1 := Lib.hid zy1
                have c_B1_0 := hB1.out.cell 0 _ rfl
                have f_B1_0 := hB1.out.frz 0
                have c_B1_1 := hB1.out.cell 1 _ rfl
                have f_B1_1 := hB1.out.frz 1
                have l_B1 := hB1.out.lt
                go_wp2_with fail
                clear c_B1_0 f_B1_0 c_B1_1 f_B1_1 l_B1
                refine ((hT.out.keeps hst.out.keeps).load _ (Keeps.refl _ _) 16 _ (by rfl)).mono ?_
                rintro _ W3 ⟨rfl, kn⟩
                replace hst := Lib.hid (hst.out.nil kn)
                replace ho := Lib.hid (ho.out.keeps_nil kn)
                replace hsb := Lib.hid (Nat.le_trans hsb.out kn.size)
                replace hB1 := Lib.hid (hB1.out.nil kn)
                clear kn
                have d1 : decide (off.toNat < (f 16).toNat) = true := decide_eq_true (HLT.out)
                have c_B1_0 := hB1.out.cell 0 _ rfl
                have f_B1_0 := hB1.out.frz 0
                have c_B1_1 := hB1.out.cell 1 _ rfl
                have f_B1_1 := hB1.out.frz 1
                have l_B1 := hB1.out.lt
                go_wp2_with fail
                clear c_B1_0 f_B1_0 c_B1_1 f_B1_1 l_B1
                refine (rRead_any (hT.out.keeps hst.out.keeps) off _ rfl).mono ?_
                rintro _ W4 ⟨rfl, kn⟩
                rw [HR.out.1, TagV.cells_def, HR.out.2, codeOf_true]
                replace hst := Lib.hid (hst.out.nil kn)
                replace ho := Lib.hid (ho.out.keeps_nil kn)
                replace hsb := Lib.hid (Nat.le_trans hsb.out kn.size)
                replace hB1 := Lib.hid (hB1.out.nil kn)
                clear kn
                have c_B1_0 := hB1.out.cell 0 _ rfl
                have f_B1_0 := hB1.out.frz 0
                have c_B1_1 := hB1.out.cell 1 _ rfl
                have f_B1_1 := hB1.out.frz 1
                have l_B1 := hB1.out.lt
                obtain ⟨W5, hW5⟩ : ∃ W, W = W4.alloc (.cells #[.int .u64 (s.toNat : Int), .bool true, .int .i64 o] 61) := ⟨_, rfl⟩
                obtain ⟨B2, eB2⟩ : ∃ B, B = W4.heap.size := ⟨_, rfl⟩
                replace hW5 := Lib.hid hW5
                replace eB2 := Lib.hid eB2
                obtain ⟨W6, hW6⟩ : ∃ W, W = W5.alloc (.cells #[.int .u64 (off.toNat : Int), .int .u64 (s.toNat : Int), .bool true, .int .i64 o, .int .u64 0] 63) := ⟨_, rfl⟩
                obtain ⟨B3, eB3⟩ : ∃ B, B = W4.heap.size + 1 := ⟨_, rfl⟩
                replace hW6 := Lib.hid hW6
                replace eB3 := Lib.hid eB3
                go_wp2_with fail
                clear c_B1_0 f_B1_0 c_B1_1 f_B1_1 l_B1
                rw [← hW5.out]
                rw [← hW6.out]
                try rw [← eB3.out]
                try rw [← eB2.out]
                have k2 : Keeps Nil W4 W5 := by rw [hW5.out]; exact alloc_keeps _ _
                have e0B2 : B2 = W4.heap.size := by rw [eB2.out]
                have hB2 := Lib.hid (show Bx W5 Nil B2 #[.int .u64 (s.toNat : Int), .bool true, .int .i64 o] 61 by rw [hW5.out]; exact Bx.new Nil.lt _ _ e0B2)
                have gB2 := Lib.hid (show w.heap.size ≤ B2 by rw [e0B2]; exact hst.out.keeps.size)
                have nB1B2 := Lib.hid (show B1 < B2 by rw [e0B2]; exact hB1.out.lt)
                have r_ho_B2 := Lib.hid (show ∀ g, (rv : Value).ownBlock = some g → g < B2 by intro g hg; rw [e0B2]; exact (ho.out.block hg).2)
                replace hst := Lib.hid (hst.out.nil k2)
                replace ho := Lib.hid (ho.out.keeps_nil k2)
                replace hsb := Lib.hid (Nat.le_trans hsb.out k2.size)
                replace hB1 := Lib.hid (hB1.out.nil k2)
                clear k2 e0B2
                have k3 : Keeps Nil W5 W6 := by rw [hW6.out]; exact alloc_keeps _ _
                have e0B3 : B3 = W5.heap.size := by rw [eB3.out, hW5.out]; simp []
                have hB3 := Lib.hid (show Bx W6 Nil B3 #[.int .u64 (off.toNat : Int), .int .u64 (s.toNat : Int), .bool true, .int .i64 o, .int .u64 0] 63 by rw [hW6.out]; exact Bx.new Nil.lt _ _ e0B3)
                have gB3 := Lib.hid (show w.heap.size ≤ B3 by rw [e0B3]; exact hst.out.keeps.size)
                have nB1B3 := Lib.hid (show B1 < B3 by rw [e0B3]; exact hB1.out.lt)
                have nB2B3 := Lib.hid (show B2 < B3 by rw [e0B3]; exact hB2.out.lt)
                have r_ho_B3 := Lib.hid (show ∀ g, (rv : Value).ownBlock = some g → g < B3 by intro g hg; rw [e0B3]; exact (ho.out.block hg).2)
                replace hst := Lib.hid (hst.out.nil k3)
                replace ho := Lib.hid (ho.out.keeps_nil k3)
                replace hsb := Lib.hid (Nat.le_trans hsb.out k3.size)
                replace hB1 := Lib.hid (hB1.out.nil k3)
                replace hB2 := Lib.hid (hB2.out.nil k3)
                clear k3 e0B3
                refine ((hT.out.keeps hst.out.keeps).load _ (Keeps.refl _ _) y8 _ rfl).mono ?_
                rintro _ W7 ⟨rfl, kn⟩
                replace hst := Lib.hid (hst.out.nil kn)
                replace ho := Lib.hid (ho.out.keeps_nil kn)
                replace hsb := Lib.hid (Nat.le_trans hsb.out kn.size)
                replace hB1 := Lib.hid (hB1.out.nil kn)
                replace hB2 := Lib.hid (hB2.out.nil kn)
                replace hB3 := Lib.hid (hB3.out.nil kn)
                clear kn
                have c_B1_0 := hB1.out.cell 0 _ rfl
                have f_B1_0 := hB1.out.frz 0
                have c_B1_1 := hB1.out.cell 1 _ rfl
                have f_B1_1 := hB1.out.frz 1
                have l_B1 := hB1.out.lt
                have c_B2_0 := hB2.out.cell 0 _ rfl
                have f_B2_0 := hB2.out.frz 0
                have c_B2_1 := hB2.out.cell 1 _ rfl
                have f_B2_1 := hB2.out.frz 1
                have c_B2_2 := hB2.out.cell 2 _ rfl
                have f_B2_2 := hB2.out.frz 2
                have l_B2 := hB2.out.lt
                have c_B3_0 := hB3.out.cell 0 _ rfl
                have f_B3_0 := hB3.out.frz 0
                have c_B3_1 := hB3.out.cell 1 _ rfl
                have f_B3_1 := hB3.out.frz 1
                have c_B3_2 := hB3.out.cell 2 _ rfl
                have f_B3_2 := hB3.out.frz 2
                have c_B3_3 := hB3.out.cell 3 _ rfl
                have f_B3_3 := hB3.out.frz 3
                have c_B3_4 := hB3.out.cell 4 _ rfl
                have f_B3_4 := hB3.out.frz 4
                have l_B3 := hB3.out.lt
                have ne_B1_B3 : (B1 = B3) = False := eq_false (Nat.ne_of_lt nB1B3.out)
                have ne_B3_B1 : (B3 = B1) = False := eq_false (Ne.symm (Nat.ne_of_lt nB1B3.out))
                have ne_B2_B3 : (B2 = B3) = False := eq_false (Nat.ne_of_lt nB2B3.out)
                have ne_B3_B2 : (B3 = B2) = False := eq_false (Ne.symm (Nat.ne_of_lt nB2B3.out))
                obtain ⟨W8, hW8⟩ : ∃ W, W = (W7.setCell ⟨B3, 4, none⟩ (.int .u64 ((f y8).toNat : Int))) := ⟨_, rfl⟩
                replace hW8 := Lib.hid hW8
                go_wp2_with fail
                clear c_B1_0 f_B1_0 c_B1_1 f_B1_1 l_B1 c_B2_0 f_B2_0 c_B2_1 f_B2_1 c_B2_2 f_B2_2 l_B2 c_B3_0 f_B3_0 c_B3_1 f_B3_1 c_B3_2 f_B3_2 c_B3_3 f_B3_3 c_B3_4 f_B3_4 l_B3 ne_B1_B3 ne_B3_B1 ne_B2_B3 ne_B3_B2
                rw [← hW8.out]
                have kr1 : Keeps (fun k => k = B3) W7 W8 := by rw [hW8.out]; exact keeps_setCell W7 ⟨B3, 4, none⟩ _
                replace ho := Lib.hid (ho.out.keeps' kr1 (fun g hg e => (own_ne_new r_ho_B3.out) (by rw [← e]; exact hg)))
                replace hsb := Lib.hid (Nat.le_trans hsb.out kr1.size)
                clear kr1
                replace hst := Lib.hid (show Step _ Nil w W8 by rw [hW8.out]; exact (hst.out.set gB3.out _ _))
                replace hB1 := Lib.hid (show Bx W8 Nil B1 #[.slice a1 n1 c1, .slice a2 n2 c2] 71 by rw [hW8.out]; exact (hB1.out.other (Nat.ne_of_lt nB1B3.out) _ _))
                replace hB2 := Lib.hid (show Bx W8 Nil B2 #[.int .u64 (s.toNat : Int), .bool true, .int .i64 o] 61 by rw [hW8.out]; exact (hB2.out.other (Nat.ne_of_lt nB2B3.out) _ _))
                replace hB3 := Lib.hid (show Bx W8 Nil B3 #[.int .u64 (off.toNat : Int), .int .u64 (s.toNat : Int), .bool true, .int .i64 o, .int .u64 ((f y8).toNat : Int)] 63 by rw [hW8.out]; exact (hB3.out.set _ _))
                refine (rNeed_any _ (f y8) _ rfl).mono ?_
                rintro _ _ ⟨rfl, rfl⟩
                rw [HNB.out.2, HNB.out.1]
                have d2 : decide (s.toNat < nd.toNat) = false := decide_eq_false (Nat.not_lt.2 HNS.out)
                have c_B1_0 := hB1.out.cell 0 _ rfl
                have f_B1_0 := hB1.out.frz 0
                have c_B1_1 := hB1.out.cell 1 _ rfl
                have f_B1_1 := hB1.out.frz 1
                have l_B1 := hB1.out.lt
                have c_B2_0 := hB2.out.cell 0 _ rfl
                have f_B2_0 := hB2.out.frz 0
                have c_B2_1 := hB2.out.cell 1 _ rfl
                have f_B2_1 := hB2.out.frz 1
                have c_B2_2 := hB2.out.cell 2 _ rfl
                have f_B2_2 := hB2.out.frz 2
                have l_B2 := hB2.out.lt
                have c_B3_0 := hB3.out.cell 0 _ rfl
                have f_B3_0 := hB3.out.frz 0
                have c_B3_1 := hB3.out.cell 1 _ rfl
                have f_B3_1 := hB3.out.frz 1
                have c_B3_2 := hB3.out.cell 2 _ rfl
                have f_B3_2 := hB3.out.frz 2
                have c_B3_3 := hB3.out.cell 3 _ rfl
                have f_B3_3 := hB3.out.frz 3
                have c_B3_4 := hB3.out.cell 4 _ rfl
                have f_B3_4 := hB3.out.frz 4
                have l_B3 := hB3.out.lt
                go_wp2_with (at_builtin
                             refine wpList_append_one kRB rfl _ _ rfl ho.out rfl (⟨off, ⟨s, true, o⟩, (f y8)⟩) _ rfl rfl hPl hsb.out ?_
                             rintro _ W10 ho10 kA10 ⟨g10, cap10, rfl, hg10⟩
                             have hst10 := Lib.hid (hst.out.own ho.out gbs.out kA10)
                             have hB1_10 := Lib.hid (hB1.out.own ho.out kA10 (own_ne_old ho.out o_bs_B1.out))
                             have hB2_10 := Lib.hid (hB2.out.own ho.out kA10 (own_ne_new r_ho_B2.out))
                             have hB3_10 := Lib.hid (hB3.out.own ho.out kA10 (own_ne_new r_ho_B3.out))
                             replace ho10 := Lib.hid ho10
                             have hs10 := Lib.hid (Nat.le_trans hsb.out kA10.size)
                             clear kA10
                             have c_B1_0 := hB1_10.out.cell 0 _ rfl
                             have f_B1_0 := hB1_10.out.frz 0
                             have c_B1_1 := hB1_10.out.cell 1 _ rfl
                             have f_B1_1 := hB1_10.out.frz 1
                             have l_B1 := hB1_10.out.lt
                             have c_B2_0 := hB2_10.out.cell 0 _ rfl
                             have f_B2_0 := hB2_10.out.frz 0
                             have c_B2_1 := hB2_10.out.cell 1 _ rfl
                             have f_B2_1 := hB2_10.out.frz 1
                             have c_B2_2 := hB2_10.out.cell 2 _ rfl
                             have f_B2_2 := hB2_10.out.frz 2
                             have l_B2 := hB2_10.out.lt
                             have c_B3_0 := hB3_10.out.cell 0 _ rfl
                             have f_B3_0 := hB3_10.out.frz 0
                             have c_B3_1 := hB3_10.out.cell 1 _ rfl
                             have f_B3_1 := hB3_10.out.frz 1
                             have c_B3_2 := hB3_10.out.cell 2 _ rfl
                             have f_B3_2 := hB3_10.out.frz 2
                             have c_B3_3 := hB3_10.out.cell 3 _ rfl
                             have f_B3_3 := hB3_10.out.frz 3
                             have c_B3_4 := hB3_10.out.cell 4 _ rfl
                             have f_B3_4 := hB3_10.out.frz 4
                             have l_B3 := hB3_10.out.lt)
                clear hst; have hst := hst10; clear hst10
                clear c_B1_0 f_B1_0 c_B1_1 f_B1_1 l_B1 c_B2_0 f_B2_0 c_B2_1 f_B2_1 c_B2_2 f_B2_2 l_B2 c_B3_0 f_B3_0 c_B3_1 f_B3_1 c_B3_2 f_B3_2 c_B3_3 f_B3_3 c_B3_4 f_B3_4 l_B3
                go_roundw
                case rel => exact ⟨⟨y1, _, _, _, rfl, rfl, walk_step HA (one_pack HO2.out.1 HO2.out.2.1 HNB.out.1 HNS.out) (by rw [zy1.out]) HLT.out, Lib.hid hst.out.keeps, ho10, hs10⟩, hB1_10⟩
                case measure => simp only [intOf]; exact walk_meas HLT.out H48.out (by rw [zy1.out])
              · have HNS := Lib.hid hns
                clear hnb hnd hg hr h48 ho1 ho2 hy8 hns
                have q8 : IntKind.u64.wrap ((off.toNat : Int) + 8) = (y8.toNat : Int) := by rw [HO2.out.2.2]; exact u64_add off 8
                have c_B1_0 := hB1.out.cell 0 _ rfl
                have f_B1_0 := hB1.out.frz 0
                have c_B1_1 := hB1.out.cell 1 _ rfl
                have f_B1_1 := hB1.out.frz 1
                have l_B1 := hB1.out.lt
                go_wp2_with fail
                clear c_B1_0 f_B1_0 c_B1_1 f_B1_1 l_B1
                refine ((hT.out.keeps hst.out.keeps).load _ (Keeps.refl _ _) 16 _ (by rfl)).mono ?_
                rintro _ W3 ⟨rfl, kn⟩
                replace hst := Lib.hid (hst.out.nil kn)
                replace ho := Lib.hid (ho.out.keeps_nil kn)
                replace hsb := Lib.hid (Nat.le_trans hsb.out kn.size)
                replace hB1 := Lib.hid (hB1.out.nil kn)
                clear kn
                have d1 : decide (off.toNat < (f 16).toNat) = true := decide_eq_true (HLT.out)
                have c_B1_0 := hB1.out.cell 0 _ rfl
                have f_B1_0 := hB1.out.frz 0
                have c_B1_1 := hB1.out.cell 1 _ rfl
                have f_B1_1 := hB1.out.frz 1
                have l_B1 := hB1.out.lt
                go_wp2_with fail
                clear c_B1_0 f_B1_0 c_B1_1 f_B1_1 l_B1
                refine (rRead_any (hT.out.keeps hst.out.keeps) off _ rfl).mono ?_
                rintro _ W4 ⟨rfl, kn⟩
                rw [HR.out.1, TagV.cells_def, HR.out.2, codeOf_true]
                replace hst := Lib.hid (hst.out.nil kn)
                replace ho := Lib.hid (ho.out.keeps_nil kn)
                replace hsb := Lib.hid (Nat.le_trans hsb.out kn.size)
                replace hB1 := Lib.hid (hB1.out.nil kn)
                clear kn
                have c_B1_0 := hB1.out.cell 0 _ rfl
                have f_B1_0 := hB1.out.frz 0
                have c_B1_1 := hB1.out.cell 1 _ rfl
                have f_B1_1 := hB1.out.frz 1
                have l_B1 := hB1.out.lt
                obtain ⟨W5, hW5⟩ : ∃ W, W = W4.alloc (.cells #[.int .u64 (s.toNat : Int), .bool true, .int .i64 o] 61) := ⟨_, rfl⟩
                obtain ⟨B2, eB2⟩ : ∃ B, B = W4.heap.size := ⟨_, rfl⟩
                replace hW5 := Lib.hid hW5
                replace eB2 := Lib.hid eB2
                obtain ⟨W6, hW6⟩ : ∃ W, W = W5.alloc (.cells #[.int .u64 (off.toNat : Int), .int .u64 (s.toNat : Int), .bool true, .int .i64 o, .int .u64 0] 63) := ⟨_, rfl⟩
                obtain ⟨B3, eB3⟩ : ∃ B, B = W4.heap.size + 1 := ⟨_, rfl⟩
                replace hW6 := Lib.hid hW6
                replace eB3 := Lib.hid eB3
                go_wp2_with fail
                clear c_B1_0 f_B1_0 c_B1_1 f_B1_1 l_B1
                rw [← hW5.out]
                rw [← hW6.out]
                try rw [← eB3.out]
                try rw [← eB2.out]
                have k2 : Keeps Nil W4 W5 := by rw [hW5.out]; exact alloc_keeps _ _
                have e0B2 : B2 = W4.heap.size := by rw [eB2.out]
                have hB2 := Lib.hid (show Bx W5 Nil B2 #[.int .u64 (s.toNat : Int), .bool true, .int .i64 o] 61 by rw [hW5.out]; exact Bx.new Nil.lt _ _ e0B2)
                have gB2 := Lib.hid (show w.heap.size ≤ B2 by rw [e0B2]; exact hst.out.keeps.size)
                have nB1B2 := Lib.hid (show B1 < B2 by rw [e0B2]; exact hB1.out.lt)
                have r_ho_B2 := Lib.hid (show ∀ g, (rv : Value).ownBlock = some g → g < B2 by intro g hg; rw [e0B2]; exact (ho.out.block hg).2)
                replace hst := Lib.hid (hst.out.nil k2)
                replace ho := Lib.hid (ho.out.keeps_nil k2)
                replace hsb := Lib.hid (Nat.le_trans hsb.out k2.size)
                replace hB1 := Lib.hid (hB1.out.nil k2)
                clear k2 e0B2
                have k3 : Keeps Nil W5 W6 := by rw [hW6.out]; exact alloc_keeps _ _
                have e0B3 : B3 = W5.heap.size := by rw [eB3.out, hW5.out]; simp []
                have hB3 := Lib.hid (show Bx W6 Nil B3 #[.int .u64 (off.toNat : Int), .int .u64 (s.toNat : Int), .bool true, .int .i64 o, .int .u64 0] 63 by rw [hW6.out]; exact Bx.new Nil.lt _ _ e0B3)
                have gB3 := Lib.hid (show w.heap.size ≤ B3 by rw [e0B3]; exact hst.out.keeps.size)
                have nB1B3 := Lib.hid (show B1 < B3 by rw [e0B3]; exact hB1.out.lt)
                have nB2B3 := Lib.hid (show B2 < B3 by rw [e0B3]; exact hB2.out.lt)
                have r_ho_B3 := Lib.hid (show ∀ g, (rv : Value).ownBlock = some g → g < B3 by intro g hg; rw [e0B3]; exact (ho.out.block hg).2)
                replace hst := Lib.hid (hst.out.nil k3)
                replace ho := Lib.hid (ho.out.keeps_nil k3)
                replace hsb := Lib.hid (Nat.le_trans hsb.out k3.size)
                replace hB1 := Lib.hid (hB1.out.nil k3)
                replace hB2 := Lib.hid (hB2.out.nil k3)
                clear k3 e0B3
                refine ((hT.out.keeps hst.out.keeps).load _ (Keeps.refl _ _) y8 _ rfl).mono ?_
                rintro _ W7 ⟨rfl, kn⟩
                replace hst := Lib.hid (hst.out.nil kn)
                replace ho := Lib.hid (ho.out.keeps_nil kn)
                replace hsb := Lib.hid (Nat.le_trans hsb.out kn.size)
                replace hB1 := Lib.hid (hB1.out.nil kn)
                replace hB2 := Lib.hid (hB2.out.nil kn)
                replace hB3 := Lib.hid (hB3.out.nil kn)
                clear kn
                have c_B1_0 := hB1.out.cell 0 _ rfl
                have f_B1_0 := hB1.out.frz 0
                have c_B1_1 := hB1.out.cell 1 _ rfl
                have f_B1_1 := hB1.out.frz 1
                have l_B1 := hB1.out.lt
                have c_B2_0 := hB2.out.cell 0 _ rfl
                have f_B2_0 := hB2.out.frz 0
                have c_B2_1 := hB2.out.cell 1 _ rfl
                have f_B2_1 := hB2.out.frz 1
                have c_B2_2 := hB2.out.cell 2 _ rfl
                have f_B2_2 := hB2.out.frz 2
                have l_B2 := hB2.out.lt
                have c_B3_0 := hB3.out.cell 0 _ rfl
                have f_B3_0 := hB3.out.frz 0
                have c_B3_1 := hB3.out.cell 1 _ rfl
                have f_B3_1 := hB3.out.frz 1
                have c_B3_2 := hB3.out.cell 2 _ rfl
                have f_B3_2 := hB3.out.frz 2
                have c_B3_3 := hB3.out.cell 3 _ rfl
                have f_B3_3 := hB3.out.frz 3
                have c_B3_4 := hB3.out.cell 4 _ rfl
                have f_B3_4 := hB3.out.frz 4
                have l_B3 := hB3.out.lt
                have ne_B1_B3 : (B1 = B3) = False := eq_false (Nat.ne_of_lt nB1B3.out)
                have ne_B3_B1 : (B3 = B1) = False := eq_false (Ne.symm (Nat.ne_of_lt nB1B3.out))
                have ne_B2_B3 : (B2 = B3) = False := eq_false (Nat.ne_of_lt nB2B3.out)
                have ne_B3_B2 : (B3 = B2) = False := eq_false (Ne.symm (Nat.ne_of_lt nB2B3.out))
                obtain ⟨W8, hW8⟩ : ∃ W, W = (W7.setCell ⟨B3, 4, none⟩ (.int .u64 ((f y8).toNat : Int))) := ⟨_, rfl⟩
                replace hW8 := Lib.hid hW8
                go_wp2_with fail
                clear c_B1_0 f_B1_0 c_B1_1 f_B1_1 l_B1 c_B2_0 f_B2_0 c_B2_1 f_B2_1 c_B2_2 f_B2_2 l_B2 c_B3_0 f_B3_0 c_B3_1 f_B3_1 c_B3_2 f_B3_2 c_B3_3 f_B3_3 c_B3_4 f_B3_4 l_B3 ne_B1_B3 ne_B3_B1 ne_B2_B3 ne_B3_B2
                rw [← hW8.out]
                have kr1 : Keeps (fun k => k = B3) W7 W8 := by rw [hW8.out]; exact keeps_setCell W7 ⟨B3, 4, none⟩ _
                replace ho := Lib.hid (ho.out.keeps' kr1 (fun g hg e => (own_ne_new r_ho_B3.out) (by rw [← e]; exact hg)))
                replace hsb := Lib.hid (Nat.le_trans hsb.out kr1.size)
                clear kr1
                replace hst := Lib.hid (show Step _ Nil w W8 by rw [hW8.out]; exact (hst.out.set gB3.out _ _))
                replace hB1 := Lib.hid (show Bx W8 Nil B1 #[.slice a1 n1 c1, .slice a2 n2 c2] 71 by rw [hW8.out]; exact (hB1.out.other (Nat.ne_of_lt nB1B3.out) _ _))
                replace hB2 := Lib.hid (show Bx W8 Nil B2 #[.int .u64 (s.toNat : Int), .bool true, .int .i64 o] 61 by rw [hW8.out]; exact (hB2.out.other (Nat.ne_of_lt nB2B3.out) _ _))
                replace hB3 := Lib.hid (show Bx W8 Nil B3 #[.int .u64 (off.toNat : Int), .int .u64 (s.toNat : Int), .bool true, .int .i64 o, .int .u64 ((f y8).toNat : Int)] 63 by rw [hW8.out]; exact (hB3.out.set _ _))
                refine (rNeed_any _ (f y8) _ rfl).mono ?_
                rintro _ _ ⟨rfl, rfl⟩
                rw [HNB.out.2, HNB.out.1]
                have d2 : decide (s.toNat < nd.toNat) = true := decide_eq_true (Nat.lt_of_not_le HNS.out)
                have c_B1_0 := hB1.out.cell 0 _ rfl
                have f_B1_0 := hB1.out.frz 0
                have c_B1_1 := hB1.out.cell 1 _ rfl
                have f_B1_1 := hB1.out.frz 1
                have l_B1 := hB1.out.lt
                have c_B2_0 := hB2.out.cell 0 _ rfl
                have f_B2_0 := hB2.out.frz 0
                have c_B2_1 := hB2.out.cell 1 _ rfl
                have f_B2_1 := hB2.out.frz 1
                have c_B2_2 := hB2.out.cell 2 _ rfl
                have f_B2_2 := hB2.out.frz 2
                have l_B2 := hB2.out.lt
                have c_B3_0 := hB3.out.cell 0 _ rfl
                have f_B3_0 := hB3.out.frz 0
                have c_B3_1 := hB3.out.cell 1 _ rfl
                have f_B3_1 := hB3.out.frz 1
                have c_B3_2 := hB3.out.cell 2 _ rfl
                have f_B3_2 := hB3.out.frz 2
                have c_B3_3 := hB3.out.cell 3 _ rfl
                have f_B3_3 := hB3.out.frz 3
                have c_B3_4 := hB3.out.cell 4 _ rfl
                have f_B3_4 := hB3.out.frz 4
                have l_B3 := hB3.out.lt
                go_wp2_with fail
                go_ret2
                clear c_B1_0 f_B1_0 c_B1_1 f_B1_1 l_B1 c_B2_0 f_B2_0 c_B2_1 f_B2_1 c_B2_2 f_B2_2 l_B2 c_B3_0 f_B3_0 c_B3_1 f_B3_1 c_B3_2 f_B3_2 c_B3_3 f_B3_3 c_B3_4 f_B3_4 l_B3
                obtain ⟨e1, e2⟩ := walk_bad hsm HA HLT.out (one_no_size HO2.out.1 HNS.out) HWB.out
                rw [e1, e2]
                exact ⟨_, rfl, Own.nil _ _ _, hst.out.keeps⟩
      · have HLT := Lib.hid hlt
        clear hlt
        have c_B1_0 := hB1.out.cell 0 _ rfl
        have f_B1_0 := hB1.out.frz 0
        have c_B1_1 := hB1.out.cell 1 _ rfl
        have f_B1_1 := hB1.out.frz 1
        have l_B1 := hB1.out.lt
        go_wp2_with fail
        clear c_B1_0 f_B1_0 c_B1_1 f_B1_1 l_B1
        refine ((hT.out.keeps hst.out.keeps).load _ (Keeps.refl _ _) 16 _ (by rfl)).mono ?_
        rintro _ W3 ⟨rfl, kn⟩
        replace hst := Lib.hid (hst.out.nil kn)
        replace ho := Lib.hid (ho.out.keeps_nil kn)
        replace hsb := Lib.hid (Nat.le_trans hsb.out kn.size)
        replace hB1 := Lib.hid (hB1.out.nil kn)
        clear kn
        have d1 : decide (off.toNat < (f 16).toNat) = false := decide_eq_false (HLT.out)
        have c_B1_0 := hB1.out.cell 0 _ rfl
        have f_B1_0 := hB1.out.frz 0
        have c_B1_1 := hB1.out.cell 1 _ rfl
        have f_B1_1 := hB1.out.frz 1
        have l_B1 := hB1.out.lt
        go_wp2_with fail
        go_ret2
        clear c_B1_0 f_B1_0 c_B1_1 f_B1_1 l_B1
        obtain ⟨e1, e2⟩ := walk_good hsm HA HLT.out HWB.out
        rw [e1, e2]
        exact ⟨_, rfl, ho.out.base gbs.out, hst.out.keeps⟩
end Go.Proofs.YtefpbljekfkefaaGreat
