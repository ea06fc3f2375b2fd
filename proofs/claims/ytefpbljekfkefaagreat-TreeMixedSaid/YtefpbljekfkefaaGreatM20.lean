/- TreeID: merged. -/
import Derived.Test.YtefpbljekfkefaaGreatM19
import Derived.Test.YtefpbljekfkefaaGreatM05
/- Package tree: insert, remove, Insert, Delete. -/
namespace Go.Proofs.YtefpbljekfkefaaGreat
open Go.RowKit PT

set_option maxRecDepth 100000 in
set_option maxHeartbeats 4000000 in
theorem insert_any {n : Nat} {f f' : UInt64 → UInt64} {at_ off r : UInt64} (h : InsR szU mixU n f at_ off f' r) : ∀ {w : World} {t : Nat} {S : Nat → Prop}, TxF w t f n S →
    Calls Tryz.prog 103 #[.agg #[.pointer (some ⟨t, 0, none⟩)], .int .u64 (at_.toNat : Int), .int .u64 (off.toNat : Int)] w fun e w' =>
      e = .returned (.int .u64 (r.toNat : Int)) ∧ ∃ S', TxF w' t f' n S' ∧ Step S S' w w' := by
  induction h with
  | @top at_ off f' a b h1 h2 =>
    intro w t S h
    have hT := Lib.hid h
    have HS := Lib.hid h2
    clear h h2
    by_cases h0 : at_ = 0
    · have H0 := Lib.hid h0
      clear h0 h1
      have hst := Lib.hid (Step.refl S w)
      go_enter Tryz.func103, Tryz.ntmps103
      obtain ⟨W1, hW1⟩ : ∃ W, W = w.alloc (.cells #[.pointer (some ⟨t, 0, none⟩)] 153) := ⟨_, rfl⟩
      obtain ⟨B1, eB1⟩ : ∃ B, B = w.heap.size := ⟨_, rfl⟩
      replace hW1 := Lib.hid hW1
      replace eB1 := Lib.hid eB1
      go_wp2_with fail
      rw [← hW1.out]
      try rw [← eB1.out]
      have k1 : Keeps Nil w W1 := by rw [hW1.out]; exact alloc_keeps _ _
      have e0B1 : B1 = w.heap.size := by rw [eB1.out]
      have hB1 := Lib.hid (show Bx W1 S B1 #[.pointer (some ⟨t, 0, none⟩)] 153 by rw [hW1.out]; exact Bx.new hT.out.lt _ _ e0B1)
      have gB1 := Lib.hid (show w.heap.size ≤ B1 by rw [e0B1]; exact hst.out.keeps.size)
      replace hst := Lib.hid (hst.out.nil k1)
      replace hT := Lib.hid (hT.out.nil k1)
      clear k1 e0B1
      refine (key_any hT.out.reads off _ rfl).mono ?_
      rintro _ W2 ⟨rfl, kn⟩
      replace hst := Lib.hid (hst.out.nil kn)
      replace hT := Lib.hid (hT.out.nil kn)
      replace hB1 := Lib.hid (hB1.out.nil kn)
      clear kn
      have d1 : (((at_.toNat : Int) : Int) == (0 : Int)) = true := (same_u64 (a := at_) (b := 0) (H0.out)).2
      have c_B1_0 := hB1.out.cell 0 _ rfl
      have f_B1_0 := hB1.out.frz 0
      have l_B1 := hB1.out.lt
      obtain ⟨W3, hW3⟩ : ∃ W, W = W2.alloc (.cells #[.int .u64 ((sizeF f off).toNat : Int), .int .u64 (off.toNat : Int)] 162) := ⟨_, rfl⟩
      obtain ⟨B2, eB2⟩ : ∃ B, B = W2.heap.size := ⟨_, rfl⟩
      replace hW3 := Lib.hid hW3
      replace eB2 := Lib.hid eB2
      go_wp2_with fail
      clear c_B1_0 f_B1_0 l_B1
      rw [← hW3.out]
      try rw [← eB2.out]
      have k2 : Keeps Nil W2 W3 := by rw [hW3.out]; exact alloc_keeps _ _
      have e0B2 : B2 = W2.heap.size := by rw [eB2.out]
      have hB2 := Lib.hid (show Bx W3 S B2 #[.int .u64 ((sizeF f off).toNat : Int), .int .u64 (off.toNat : Int)] 162 by rw [hW3.out]; exact Bx.new hT.out.lt _ _ e0B2)
      have gB2 := Lib.hid (show w.heap.size ≤ B2 by rw [e0B2]; exact hst.out.keeps.size)
      have nB1B2 := Lib.hid (show B1 < B2 by rw [e0B2]; exact hB1.out.lt)
      replace hst := Lib.hid (hst.out.nil k2)
      replace hT := Lib.hid (hT.out.nil k2)
      replace hB1 := Lib.hid (hB1.out.nil k2)
      clear k2 e0B2
      refine (split_any (k := (sizeF f off, off)) HS.out hT.out).mono ?_
      rintro _ W4 ⟨rfl, S1, hT2, kn⟩
      replace hst := Lib.hid (hst.out.trans kn)
      replace hB1 := Lib.hid (hB1.out.steps kn)
      replace hB2 := Lib.hid (hB2.out.steps kn)
      replace hT := Lib.hid hT2
      clear kn hT2
      obtain ⟨y1, zy1⟩ : ∃ y : UInt64, y = off + 8 := ⟨_, rfl⟩
      have q1 : IntKind.u64.wrap ((off.toNat : Int) + 8) = (y1.toNat : Int) := by rw [zy1]; exact u64_add off 8
      replace zy1 := Lib.hid zy1
      have c_B1_0 := hB1.out.cell 0 _ rfl
      have f_B1_0 := hB1.out.frz 0
      have l_B1 := hB1.out.lt
      have c_B2_0 := hB2.out.cell 0 _ rfl
      have f_B2_0 := hB2.out.frz 0
      have c_B2_1 := hB2.out.cell 1 _ rfl
      have f_B2_1 := hB2.out.frz 1
      have l_B2 := hB2.out.lt
      go_wp2_with fail
      clear c_B1_0 f_B1_0 l_B1 c_B2_0 f_B2_0 c_B2_1 f_B2_1 l_B2
      refine (hT.out.store y1 a _ _ rfl rfl).mono ?_
      rintro _ W5 ⟨rfl, S2, hT2, kn⟩
      replace hst := Lib.hid (hst.out.trans kn)
      replace hB1 := Lib.hid (hB1.out.steps kn)
      replace hB2 := Lib.hid (hB2.out.steps kn)
      replace hT := Lib.hid hT2
      clear kn hT2
      obtain ⟨y2, zy2⟩ : ∃ y : UInt64, y = off + 16 := ⟨_, rfl⟩
      have q2 : IntKind.u64.wrap ((off.toNat : Int) + 16) = (y2.toNat : Int) := by rw [zy2]; exact u64_add off 16
      replace zy2 := Lib.hid zy2
      have c_B1_0 := hB1.out.cell 0 _ rfl
      have f_B1_0 := hB1.out.frz 0
      have l_B1 := hB1.out.lt
      have c_B2_0 := hB2.out.cell 0 _ rfl
      have f_B2_0 := hB2.out.frz 0
      have c_B2_1 := hB2.out.cell 1 _ rfl
      have f_B2_1 := hB2.out.frz 1
      have l_B2 := hB2.out.lt
      go_wp2_with fail
      clear c_B1_0 f_B1_0 l_B1 c_B2_0 f_B2_0 c_B2_1 f_B2_1 l_B2
      refine (hT.out.store y2 b _ _ rfl rfl).mono ?_
      rintro _ W6 ⟨rfl, S3, hT2, kn⟩
      replace hst := Lib.hid (hst.out.trans kn)
      replace hB1 := Lib.hid (hB1.out.steps kn)
      replace hB2 := Lib.hid (hB2.out.steps kn)
      replace hT := Lib.hid hT2
      clear kn hT2
      have c_B1_0 := hB1.out.cell 0 _ rfl
      have f_B1_0 := hB1.out.frz 0
      have l_B1 := hB1.out.lt
      have c_B2_0 := hB2.out.cell 0 _ rfl
      have f_B2_0 := hB2.out.frz 0
      have c_B2_1 := hB2.out.cell 1 _ rfl
      have f_B2_1 := hB2.out.frz 1
      have l_B2 := hB2.out.lt
      go_wp2_with fail
      go_ret
      clear c_B1_0 f_B1_0 l_B1 c_B2_0 f_B2_0 c_B2_1 f_B2_1 l_B2
      have hT3 := hT.out
      rw [zy1.out, zy2.out] at hT3
      exact ⟨rfl, _, hT3, hst.out⟩
    · have H0 := Lib.hid h0
      have H1 := Lib.hid (h1.resolve_left h0)
      clear h0 h1
      have hst := Lib.hid (Step.refl S w)
      go_enter Tryz.func103, Tryz.ntmps103
      obtain ⟨W1, hW1⟩ : ∃ W, W = w.alloc (.cells #[.pointer (some ⟨t, 0, none⟩)] 153) := ⟨_, rfl⟩
      obtain ⟨B1, eB1⟩ : ∃ B, B = w.heap.size := ⟨_, rfl⟩
      replace hW1 := Lib.hid hW1
      replace eB1 := Lib.hid eB1
      go_wp2_with fail
      rw [← hW1.out]
      try rw [← eB1.out]
      have k1 : Keeps Nil w W1 := by rw [hW1.out]; exact alloc_keeps _ _
      have e0B1 : B1 = w.heap.size := by rw [eB1.out]
      have hB1 := Lib.hid (show Bx W1 S B1 #[.pointer (some ⟨t, 0, none⟩)] 153 by rw [hW1.out]; exact Bx.new hT.out.lt _ _ e0B1)
      have gB1 := Lib.hid (show w.heap.size ≤ B1 by rw [e0B1]; exact hst.out.keeps.size)
      replace hst := Lib.hid (hst.out.nil k1)
      replace hT := Lib.hid (hT.out.nil k1)
      clear k1 e0B1
      refine (key_any hT.out.reads off _ rfl).mono ?_
      rintro _ W2 ⟨rfl, kn⟩
      replace hst := Lib.hid (hst.out.nil kn)
      replace hT := Lib.hid (hT.out.nil kn)
      replace hB1 := Lib.hid (hB1.out.nil kn)
      clear kn
      have d1 : (((at_.toNat : Int) : Int) == (0 : Int)) = false := (unlike_u64 (a := at_) (b := 0) (H0.out)).2
      have c_B1_0 := hB1.out.cell 0 _ rfl
      have f_B1_0 := hB1.out.frz 0
      have l_B1 := hB1.out.lt
      obtain ⟨W3, hW3⟩ : ∃ W, W = W2.alloc (.cells #[.int .u64 ((sizeF f off).toNat : Int), .int .u64 (off.toNat : Int)] 162) := ⟨_, rfl⟩
      obtain ⟨B2, eB2⟩ : ∃ B, B = W2.heap.size := ⟨_, rfl⟩
      replace hW3 := Lib.hid hW3
      replace eB2 := Lib.hid eB2
      go_wp2_with fail
      clear c_B1_0 f_B1_0 l_B1
      rw [← hW3.out]
      try rw [← eB2.out]
      have k2 : Keeps Nil W2 W3 := by rw [hW3.out]; exact alloc_keeps _ _
      have e0B2 : B2 = W2.heap.size := by rw [eB2.out]
      have hB2 := Lib.hid (show Bx W3 S B2 #[.int .u64 ((sizeF f off).toNat : Int), .int .u64 (off.toNat : Int)] 162 by rw [hW3.out]; exact Bx.new hT.out.lt _ _ e0B2)
      have gB2 := Lib.hid (show w.heap.size ≤ B2 by rw [e0B2]; exact hst.out.keeps.size)
      have nB1B2 := Lib.hid (show B1 < B2 by rw [e0B2]; exact hB1.out.lt)
      replace hst := Lib.hid (hst.out.nil k2)
      replace hT := Lib.hid (hT.out.nil k2)
      replace hB1 := Lib.hid (hB1.out.nil k2)
      clear k2 e0B2
      refine (wMix_any _ off _ rfl).mono ?_
      rintro _ _ ⟨rfl, rfl⟩
      obtain ⟨v1, zv1⟩ : ∃ v : UInt64, v = off * goldU := ⟨_, rfl⟩
      rw [← zv1]
      replace zv1 := Lib.hid zv1
      have c_B1_0 := hB1.out.cell 0 _ rfl
      have f_B1_0 := hB1.out.frz 0
      have l_B1 := hB1.out.lt
      have c_B2_0 := hB2.out.cell 0 _ rfl
      have f_B2_0 := hB2.out.frz 0
      have c_B2_1 := hB2.out.cell 1 _ rfl
      have f_B2_1 := hB2.out.frz 1
      have l_B2 := hB2.out.lt
      go_wp2_with fail
      clear c_B1_0 f_B1_0 l_B1 c_B2_0 f_B2_0 c_B2_1 f_B2_1 l_B2
      refine (wMix_any _ at_ _ rfl).mono ?_
      rintro _ _ ⟨rfl, rfl⟩
      obtain ⟨v2, zv2⟩ : ∃ v : UInt64, v = at_ * goldU := ⟨_, rfl⟩
      rw [← zv2]
      replace zv2 := Lib.hid zv2
      have d2 : decide (v2.toNat < v1.toNat) = true := decide_eq_true (by rw [zv1.out, zv2.out]; exact UInt64.lt_iff_toNat_lt.1 H1.out)
      have c_B1_0 := hB1.out.cell 0 _ rfl
      have f_B1_0 := hB1.out.frz 0
      have l_B1 := hB1.out.lt
      have c_B2_0 := hB2.out.cell 0 _ rfl
      have f_B2_0 := hB2.out.frz 0
      have c_B2_1 := hB2.out.cell 1 _ rfl
      have f_B2_1 := hB2.out.frz 1
      have l_B2 := hB2.out.lt
      go_wp2_with fail
      clear c_B1_0 f_B1_0 l_B1 c_B2_0 f_B2_0 c_B2_1 f_B2_1 l_B2
      refine (split_any (k := (sizeF f off, off)) HS.out hT.out).mono ?_
      rintro _ W6 ⟨rfl, S1, hT2, kn⟩
      replace hst := Lib.hid (hst.out.trans kn)
      replace hB1 := Lib.hid (hB1.out.steps kn)
      replace hB2 := Lib.hid (hB2.out.steps kn)
      replace hT := Lib.hid hT2
      clear kn hT2
      obtain ⟨y1, zy1⟩ : ∃ y : UInt64, y = off + 8 := ⟨_, rfl⟩
      have q1 : IntKind.u64.wrap ((off.toNat : Int) + 8) = (y1.toNat : Int) := by rw [zy1]; exact u64_add off 8
      replace zy1 := Lib.hid zy1
      have c_B1_0 := hB1.out.cell 0 _ rfl
      have f_B1_0 := hB1.out.frz 0
      have l_B1 := hB1.out.lt
      have c_B2_0 := hB2.out.cell 0 _ rfl
      have f_B2_0 := hB2.out.frz 0
      have c_B2_1 := hB2.out.cell 1 _ rfl
      have f_B2_1 := hB2.out.frz 1
      have l_B2 := hB2.out.lt
      go_wp2_with fail
      clear c_B1_0 f_B1_0 l_B1 c_B2_0 f_B2_0 c_B2_1 f_B2_1 l_B2
      refine (hT.out.store y1 a _ _ rfl rfl).mono ?_
      rintro _ W7 ⟨rfl, S2, hT2, kn⟩
      replace hst := Lib.hid (hst.out.trans kn)
      replace hB1 := Lib.hid (hB1.out.steps kn)
      replace hB2 := Lib.hid (hB2.out.steps kn)
      replace hT := Lib.hid hT2
      clear kn hT2
      obtain ⟨y2, zy2⟩ : ∃ y : UInt64, y = off + 16 := ⟨_, rfl⟩
      have q2 : IntKind.u64.wrap ((off.toNat : Int) + 16) = (y2.toNat : Int) := by rw [zy2]; exact u64_add off 16
      replace zy2 := Lib.hid zy2
      have c_B1_0 := hB1.out.cell 0 _ rfl
      have f_B1_0 := hB1.out.frz 0
      have l_B1 := hB1.out.lt
      have c_B2_0 := hB2.out.cell 0 _ rfl
      have f_B2_0 := hB2.out.frz 0
      have c_B2_1 := hB2.out.cell 1 _ rfl
      have f_B2_1 := hB2.out.frz 1
      have l_B2 := hB2.out.lt
      go_wp2_with fail
      clear c_B1_0 f_B1_0 l_B1 c_B2_0 f_B2_0 c_B2_1 f_B2_1 l_B2
      refine (hT.out.store y2 b _ _ rfl rfl).mono ?_
      rintro _ W8 ⟨rfl, S3, hT2, kn⟩
      replace hst := Lib.hid (hst.out.trans kn)
      replace hB1 := Lib.hid (hB1.out.steps kn)
      replace hB2 := Lib.hid (hB2.out.steps kn)
      replace hT := Lib.hid hT2
      clear kn hT2
      have c_B1_0 := hB1.out.cell 0 _ rfl
      have f_B1_0 := hB1.out.frz 0
      have l_B1 := hB1.out.lt
      have c_B2_0 := hB2.out.cell 0 _ rfl
      have f_B2_0 := hB2.out.frz 0
      have c_B2_1 := hB2.out.cell 1 _ rfl
      have f_B2_1 := hB2.out.frz 1
      have l_B2 := hB2.out.lt
      go_wp2_with fail
      go_ret
      clear c_B1_0 f_B1_0 l_B1 c_B2_0 f_B2_0 c_B2_1 f_B2_1 l_B2
      have hT3 := hT.out
      rw [zy1.out, zy2.out] at hT3
      exact ⟨rfl, _, hT3, hst.out⟩
  | @down at_ off f' r h1 h2 h3 ih =>
    intro w t S h
    have hT := Lib.hid h
    have H1 := Lib.hid h1
    have H2 := Lib.hid h2
    clear h h1 h2 h3
    have hst := Lib.hid (Step.refl S w)
    go_enter Tryz.func103, Tryz.ntmps103
    obtain ⟨W1, hW1⟩ : ∃ W, W = w.alloc (.cells #[.pointer (some ⟨t, 0, none⟩)] 153) := ⟨_, rfl⟩
    obtain ⟨B1, eB1⟩ : ∃ B, B = w.heap.size := ⟨_, rfl⟩
    replace hW1 := Lib.hid hW1
    replace eB1 := Lib.hid eB1
    go_wp2_with fail
    rw [← hW1.out]
    try rw [← eB1.out]
    have k1 : Keeps Nil w W1 := by rw [hW1.out]; exact alloc_keeps _ _
    have e0B1 : B1 = w.heap.size := by rw [eB1.out]
    have hB1 := Lib.hid (show Bx W1 S B1 #[.pointer (some ⟨t, 0, none⟩)] 153 by rw [hW1.out]; exact Bx.new hT.out.lt _ _ e0B1)
    have gB1 := Lib.hid (show w.heap.size ≤ B1 by rw [e0B1]; exact hst.out.keeps.size)
    replace hst := Lib.hid (hst.out.nil k1)
    replace hT := Lib.hid (hT.out.nil k1)
    clear k1 e0B1
    refine (key_any hT.out.reads off _ rfl).mono ?_
    rintro _ W2 ⟨rfl, kn⟩
    replace hst := Lib.hid (hst.out.nil kn)
    replace hT := Lib.hid (hT.out.nil kn)
    replace hB1 := Lib.hid (hB1.out.nil kn)
    clear kn
    have d1 : (((at_.toNat : Int) : Int) == (0 : Int)) = false := (unlike_u64 (a := at_) (b := 0) (H1.out)).2
    have c_B1_0 := hB1.out.cell 0 _ rfl
    have f_B1_0 := hB1.out.frz 0
    have l_B1 := hB1.out.lt
    obtain ⟨W3, hW3⟩ : ∃ W, W = W2.alloc (.cells #[.int .u64 ((sizeF f off).toNat : Int), .int .u64 (off.toNat : Int)] 162) := ⟨_, rfl⟩
    obtain ⟨B2, eB2⟩ : ∃ B, B = W2.heap.size := ⟨_, rfl⟩
    replace hW3 := Lib.hid hW3
    replace eB2 := Lib.hid eB2
    go_wp2_with fail
    clear c_B1_0 f_B1_0 l_B1
    rw [← hW3.out]
    try rw [← eB2.out]
    have k2 : Keeps Nil W2 W3 := by rw [hW3.out]; exact alloc_keeps _ _
    have e0B2 : B2 = W2.heap.size := by rw [eB2.out]
    have hB2 := Lib.hid (show Bx W3 S B2 #[.int .u64 ((sizeF f off).toNat : Int), .int .u64 (off.toNat : Int)] 162 by rw [hW3.out]; exact Bx.new hT.out.lt _ _ e0B2)
    have gB2 := Lib.hid (show w.heap.size ≤ B2 by rw [e0B2]; exact hst.out.keeps.size)
    have nB1B2 := Lib.hid (show B1 < B2 by rw [e0B2]; exact hB1.out.lt)
    replace hst := Lib.hid (hst.out.nil k2)
    replace hT := Lib.hid (hT.out.nil k2)
    replace hB1 := Lib.hid (hB1.out.nil k2)
    clear k2 e0B2
    refine (wMix_any _ off _ rfl).mono ?_
    rintro _ _ ⟨rfl, rfl⟩
    obtain ⟨v1, zv1⟩ : ∃ v : UInt64, v = off * goldU := ⟨_, rfl⟩
    rw [← zv1]
    replace zv1 := Lib.hid zv1
    have c_B1_0 := hB1.out.cell 0 _ rfl
    have f_B1_0 := hB1.out.frz 0
    have l_B1 := hB1.out.lt
    have c_B2_0 := hB2.out.cell 0 _ rfl
    have f_B2_0 := hB2.out.frz 0
    have c_B2_1 := hB2.out.cell 1 _ rfl
    have f_B2_1 := hB2.out.frz 1
    have l_B2 := hB2.out.lt
    go_wp2_with fail
    clear c_B1_0 f_B1_0 l_B1 c_B2_0 f_B2_0 c_B2_1 f_B2_1 l_B2
    refine (wMix_any _ at_ _ rfl).mono ?_
    rintro _ _ ⟨rfl, rfl⟩
    obtain ⟨v2, zv2⟩ : ∃ v : UInt64, v = at_ * goldU := ⟨_, rfl⟩
    rw [← zv2]
    replace zv2 := Lib.hid zv2
    have d2 : decide (v2.toNat < v1.toNat) = false := decide_eq_false (by rw [zv1.out, zv2.out]; exact fun e => H2.out (UInt64.lt_iff_toNat_lt.2 e))
    have c_B1_0 := hB1.out.cell 0 _ rfl
    have f_B1_0 := hB1.out.frz 0
    have l_B1 := hB1.out.lt
    have c_B2_0 := hB2.out.cell 0 _ rfl
    have f_B2_0 := hB2.out.frz 0
    have c_B2_1 := hB2.out.cell 1 _ rfl
    have f_B2_1 := hB2.out.frz 1
    have l_B2 := hB2.out.lt
    go_wp2_with fail
    clear c_B1_0 f_B1_0 l_B1 c_B2_0 f_B2_0 c_B2_1 f_B2_1 l_B2
    refine (side_any hT.out.reads at_ (sizeF f off) off).mono ?_
    rintro _ W6 ⟨rfl, kn⟩
    obtain ⟨v3, zv3⟩ : ∃ v : UInt64, v = sideF szU f at_ ((sizeF f off), off) := ⟨_, rfl⟩
    rw [← zv3]
    replace zv3 := Lib.hid zv3
    replace hst := Lib.hid (hst.out.nil kn)
    replace hT := Lib.hid (hT.out.nil kn)
    replace hB1 := Lib.hid (hB1.out.nil kn)
    replace hB2 := Lib.hid (hB2.out.nil kn)
    clear kn
    have c_B1_0 := hB1.out.cell 0 _ rfl
    have f_B1_0 := hB1.out.frz 0
    have l_B1 := hB1.out.lt
    have c_B2_0 := hB2.out.cell 0 _ rfl
    have f_B2_0 := hB2.out.frz 0
    have c_B2_1 := hB2.out.cell 1 _ rfl
    have f_B2_1 := hB2.out.frz 1
    have l_B2 := hB2.out.lt
    go_wp2_with fail
    clear c_B1_0 f_B1_0 l_B1 c_B2_0 f_B2_0 c_B2_1 f_B2_1 l_B2
    obtain ⟨W7, hW7⟩ : ∃ W, W = W6.drew := ⟨_, rfl⟩
    replace hW7 := Lib.hid hW7
    have kn : Keeps Nil W6 W7 := by rw [hW7.out]; exact keeps_drew _
    replace hst := Lib.hid (hst.out.nil kn)
    replace hT := Lib.hid (hT.out.nil kn)
    replace hB1 := Lib.hid (hB1.out.nil kn)
    replace hB2 := Lib.hid (hB2.out.nil kn)
    clear kn
    refine wp_region_held_drew (S := fun w' => w'.cell? ⟨B1, 0, none⟩ = some (.pointer (some ⟨t, 0, none⟩)) ∧ w'.cell? ⟨B2, 0, none⟩ = some (.int .u64 ((sizeF f off).toNat : Int)) ∧ w'.cell? ⟨B2, 1, none⟩ = some (.int .u64 (off.toNat : Int))) (by kernel_rfl) (by rw [← hW7.out]; exact ⟨hB1.out.cell 0 _ rfl, hB2.out.cell 0 _ rfl, hB2.out.cell 1 _ rfl⟩) (fun hHeld => ?_)
    rw [← hW7.out] at hHeld ⊢
    refine wpAnyH_take (i := 0) (oi := _) (v := ?m68_v) rfl (by kernel_rfl) (by kernel_rfl) (by kernel_rfl) (fun _ _ _ h => h) (Or.inl ⟨by kernel_rfl, ?m68_h⟩) hHeld ?m68_r
    case m68_h => (intro w hSw; (try dsimp only at hSw); go_simp; try with_reducible rfl)
    try simp only [Act.put, List.getElem_toArray, List.getElem_cons_zero, List.setIfInBounds_toArray, List.set_cons_zero, List.set_cons_succ]
    refine wpAnyH_take (i := 1) (oi := _) (v := ?m69_v) rfl (by kernel_rfl) (by kernel_rfl) (by kernel_rfl) (fun _ _ _ h => h) (Or.inl ⟨by kernel_rfl, ?m69_h⟩) hHeld ?m69_r
    case m69_h => (intro w hSw; (try dsimp only at hSw); go_simp; try with_reducible rfl)
    try simp only [Act.put, List.getElem_toArray, List.getElem_cons_succ, List.getElem_cons_zero, List.setIfInBounds_toArray, List.set_cons_zero, List.set_cons_succ]
    refine wpAnyH_take (i := 2) (oi := _) (v := ?m70_v) rfl (by kernel_rfl) (by kernel_rfl) (by kernel_rfl) (fun _ _ _ h => h) (Or.inl ⟨by kernel_rfl, ?m70_h⟩) hHeld ?m70_r
    case m70_h => (intro w hSw; (try dsimp only at hSw); go_simp; try with_reducible rfl)
    try simp only [Act.put, List.getElem_toArray, List.getElem_cons_succ, List.getElem_cons_zero, List.setIfInBounds_toArray, List.set_cons_zero, List.set_cons_succ]
    refine wpAnyH_take (i := 3) (oi := _) (v := ?m71_v) rfl (by kernel_rfl) (by kernel_rfl) (by kernel_rfl) (fun _ _ _ h => h) (Or.inl ⟨by kernel_rfl, ?m71_h⟩) hHeld ?m71_r
    case m71_h => (intro w hSw; (try dsimp only at hSw); go_simp; try with_reducible rfl)
    try simp only [Act.put, List.getElem_toArray, List.getElem_cons_succ, List.getElem_cons_zero, List.setIfInBounds_toArray, List.set_cons_zero, List.set_cons_succ]
    refine wpAnyH_take (i := 4) (oi := _) (v := ?m72_v) rfl (by kernel_rfl) (by kernel_rfl) (by kernel_rfl) (fun _ _ _ h => h) (Or.inl ⟨by kernel_rfl, ?m72_h⟩) hHeld ?m72_r
    case m72_h => (intro w hSw; (try dsimp only at hSw); go_simp; try with_reducible rfl)
    try simp only [Act.put, List.getElem_toArray, List.getElem_cons_succ, List.getElem_cons_zero, List.setIfInBounds_toArray, List.set_cons_zero, List.set_cons_succ]
    refine wpAnyH_take (i := 5) (oi := _) (v := ?m73_v) rfl (by kernel_rfl) (by kernel_rfl) (by kernel_rfl) (fun _ _ _ h => h) (Or.inl ⟨by kernel_rfl, ?m73_h⟩) hHeld ?m73_r
    case m73_h => (intro w hSw; (try dsimp only at hSw); go_simp; try with_reducible rfl)
    try simp only [Act.put, List.getElem_toArray, List.getElem_cons_succ, List.getElem_cons_zero, List.setIfInBounds_toArray, List.set_cons_zero, List.set_cons_succ]
    refine wpAnyH_take (i := 6) (oi := _) (v := ?m74_v) rfl (by kernel_rfl) (by kernel_rfl) (by kernel_rfl) (fun _ _ _ h => h) (Or.inl ⟨by kernel_rfl, ?m74_h⟩) hHeld ?m74_r
    case m74_h => (intro w hSw; (try dsimp only at hSw); go_simp; try with_reducible rfl)
    try simp only [Act.put, List.getElem_toArray, List.getElem_cons_succ, List.getElem_cons_zero, List.setIfInBounds_toArray, List.set_cons_zero, List.set_cons_succ]
    refine wpAnyH_take (i := 8) (oi := _) (v := ?m75_v) rfl (by kernel_rfl) (by kernel_rfl) (by kernel_rfl) (fun _ _ _ h => h) (Or.inl ⟨by kernel_rfl, ?m75_h⟩) hHeld ?m75_r
    case m75_h => (intro w hSw; (try dsimp only at hSw); go_simp; try with_reducible rfl)
    try simp only [Act.put, List.getElem_toArray, List.getElem_cons_succ, List.getElem_cons_zero, List.setIfInBounds_toArray, List.set_cons_zero, List.set_cons_succ]
    refine wpAnyH_ready (rs := [7]) (by kernel_rfl) (by simp) ?_
    refine (AllReadyH.cons (o := _) rfl (fun K hK => ?_) AllReadyH.nil)
    go_simp
    refine (hT.out.reads.loadC v3 _ rfl).mono ?_
    rintro _ W8 ⟨rfl, kn⟩
    replace hst := Lib.hid (hst.out.nil kn)
    replace hT := Lib.hid (hT.out.nil kn)
    replace hB1 := Lib.hid (hB1.out.nil kn)
    replace hB2 := Lib.hid (hB2.out.nil kn)
    clear kn
    refine hK.out _ _ (⟨hB1.out.cell 0 _ rfl, hB2.out.cell 0 _ rfl, hB2.out.cell 1 _ rfl⟩) (fun hHeld => ?_)
    clear hK K
    try simp only [Act.put, List.getElem_toArray, List.getElem_cons_succ, List.getElem_cons_zero, List.setIfInBounds_toArray, List.set_cons_zero, List.set_cons_succ]
    refine wpAnyH_ready (rs := [9]) (by kernel_rfl) (by simp) ?_
    refine (AllReadyH.cons (o := _) rfl (fun K hK => ?_) AllReadyH.nil)
    go_simp
    have ih2 := @ih _ _ _ hT.out
    have e0 : sideF szU f at_ (keyF szU f off) = v3 := zv3.out.symm
    rw [e0] at ih2
    clear e0
    refine (ih2).mono ?_
    rintro _ W9 ⟨rfl, S1, hT2, kn⟩
    clear ih ih2
    replace hst := Lib.hid (hst.out.trans kn)
    replace hB1 := Lib.hid (hB1.out.steps kn)
    replace hB2 := Lib.hid (hB2.out.steps kn)
    replace hT := Lib.hid hT2
    clear kn hT2
    refine hK.out _ _ (⟨hB1.out.cell 0 _ rfl, hB2.out.cell 0 _ rfl, hB2.out.cell 1 _ rfl⟩) (fun hHeld => ?_)
    clear hK K
    try simp only [Act.put, List.getElem_toArray, List.getElem_cons_succ, List.getElem_cons_zero, List.setIfInBounds_toArray, List.set_cons_zero, List.set_cons_succ]
    refine wpAnyH_ready (rs := [10]) (by kernel_rfl) (by simp) ?_
    refine (AllReadyH.cons (o := _) rfl (fun K hK => ?_) AllReadyH.nil)
    go_simp
    refine (hT.out.store v3 r _ _ rfl rfl).mono ?_
    rintro _ W10 ⟨rfl, S2, hT2, kn⟩
    replace hst := Lib.hid (hst.out.trans kn)
    replace hB1 := Lib.hid (hB1.out.steps kn)
    replace hB2 := Lib.hid (hB2.out.steps kn)
    replace hT := Lib.hid hT2
    clear kn hT2
    refine hK.out _ _ (⟨hB1.out.cell 0 _ rfl, hB2.out.cell 0 _ rfl, hB2.out.cell 1 _ rfl⟩) (fun hHeld => ?_)
    clear hK K
    try simp only [Act.put, List.getElem_toArray, List.getElem_cons_succ, List.getElem_cons_zero, List.setIfInBounds_toArray, List.set_cons_zero, List.set_cons_succ]
    refine wpAnyH_done (by kernel_rfl) ?_ _
    clear hHeld
    have c_B1_0 := hB1.out.cell 0 _ rfl
    have f_B1_0 := hB1.out.frz 0
    have l_B1 := hB1.out.lt
    have c_B2_0 := hB2.out.cell 0 _ rfl
    have f_B2_0 := hB2.out.frz 0
    have c_B2_1 := hB2.out.cell 1 _ rfl
    have f_B2_1 := hB2.out.frz 1
    have l_B2 := hB2.out.lt
    go_wp2_with fail
    go_ret
    clear c_B1_0 f_B1_0 l_B1 c_B2_0 f_B2_0 c_B2_1 f_B2_1 l_B2
    have hT3 := hT.out
    rw [zv3.out] at hT3
    exact ⟨rfl, _, hT3, hst.out⟩
set_option maxRecDepth 100000 in
set_option maxHeartbeats 4000000 in
theorem remove_any {n : Nat} {f f' : UInt64 → UInt64} {at_ off r : UInt64} {ok : Bool} (h : RemR szU mixU n f at_ off f' r ok) : ∀ {w : World} {t : Nat} {S : Nat → Prop}, TxF w t f n S →
    Calls Tryz.prog 110 #[.agg #[.pointer (some ⟨t, 0, none⟩)], .int .u64 (at_.toNat : Int), .int .u64 (off.toNat : Int)] w fun e w' =>
      e = .returned (.tuple #[.int .u64 (r.toNat : Int), .bool ok]) ∧ ∃ S', TxF w' t f' n S' ∧ Step S S' w w' := by
  induction h with
  | nil off =>
    intro w t S h
    have hT := Lib.hid h
    clear h
    have hst := Lib.hid (Step.refl S w)
    go_enter Tryz.func110, Tryz.ntmps110
    have d1 : ((((0 : UInt64).toNat : Int) : Int) == (0 : Int)) = true := (same_u64 (a := (0 : UInt64)) (b := 0) (rfl)).2
    obtain ⟨W1, hW1⟩ : ∃ W, W = w.alloc (.cells #[.pointer (some ⟨t, 0, none⟩)] 153) := ⟨_, rfl⟩
    obtain ⟨B1, eB1⟩ : ∃ B, B = w.heap.size := ⟨_, rfl⟩
    replace hW1 := Lib.hid hW1
    replace eB1 := Lib.hid eB1
    go_wp2_with fail
    go_ret2
    rw [← hW1.out]
    try rw [← eB1.out]
    have k1 : Keeps Nil w W1 := by rw [hW1.out]; exact alloc_keeps _ _
    have e0B1 : B1 = w.heap.size := by rw [eB1.out]
    have hB1 := Lib.hid (show Bx W1 S B1 #[.pointer (some ⟨t, 0, none⟩)] 153 by rw [hW1.out]; exact Bx.new hT.out.lt _ _ e0B1)
    have gB1 := Lib.hid (show w.heap.size ≤ B1 by rw [e0B1]; exact hst.out.keeps.size)
    replace hst := Lib.hid (hst.out.nil k1)
    replace hT := Lib.hid (hT.out.nil k1)
    clear k1 e0B1
    exact ⟨rfl, _, hT.out, hst.out⟩
  | @hit at_ f' r h1 h2 =>
    intro w t S h
    have hT := Lib.hid h
    have H1 := Lib.hid h1
    have HJ := Lib.hid h2
    clear h h1 h2
    have hst := Lib.hid (Step.refl S w)
    go_enter Tryz.func110, Tryz.ntmps110
    have d1 : (((at_.toNat : Int) : Int) == (0 : Int)) = false := (unlike_u64 (a := at_) (b := 0) (H1.out)).2
    have d2 : (((at_.toNat : Int) : Int) == ((at_.toNat : Int) : Int)) = true := (same_u64 (a := at_) (b := at_) (rfl)).2
    obtain ⟨W1, hW1⟩ : ∃ W, W = w.alloc (.cells #[.pointer (some ⟨t, 0, none⟩)] 153) := ⟨_, rfl⟩
    obtain ⟨B1, eB1⟩ : ∃ B, B = w.heap.size := ⟨_, rfl⟩
    replace hW1 := Lib.hid hW1
    replace eB1 := Lib.hid eB1
    go_wp2_with fail
    rw [← hW1.out]
    try rw [← eB1.out]
    have k1 : Keeps Nil w W1 := by rw [hW1.out]; exact alloc_keeps _ _
    have e0B1 : B1 = w.heap.size := by rw [eB1.out]
    have hB1 := Lib.hid (show Bx W1 S B1 #[.pointer (some ⟨t, 0, none⟩)] 153 by rw [hW1.out]; exact Bx.new hT.out.lt _ _ e0B1)
    have gB1 := Lib.hid (show w.heap.size ≤ B1 by rw [e0B1]; exact hst.out.keeps.size)
    replace hst := Lib.hid (hst.out.nil k1)
    replace hT := Lib.hid (hT.out.nil k1)
    clear k1 e0B1
    obtain ⟨W2, hW2⟩ : ∃ W, W = W1.drew := ⟨_, rfl⟩
    replace hW2 := Lib.hid hW2
    have kn : Keeps Nil W1 W2 := by rw [hW2.out]; exact keeps_drew _
    replace hst := Lib.hid (hst.out.nil kn)
    replace hT := Lib.hid (hT.out.nil kn)
    replace hB1 := Lib.hid (hB1.out.nil kn)
    clear kn
    refine wp_region_held_drew (S := fun w' => w'.cell? ⟨B1, 0, none⟩ = some (.pointer (some ⟨t, 0, none⟩))) (by kernel_rfl) (by rw [← hW2.out]; exact hB1.out.cell 0 _ rfl) (fun hHeld => ?_)
    rw [← hW2.out] at hHeld ⊢
    refine wpAnyH_take (i := 0) (oi := _) (v := ?m76_v) rfl (by kernel_rfl) (by kernel_rfl) (by kernel_rfl) (fun _ _ _ h => h) (Or.inl ⟨by kernel_rfl, ?m76_h⟩) hHeld ?m76_r
    case m76_h => (intro w hSw; (try dsimp only at hSw); go_simp; try with_reducible rfl)
    try simp only [Act.put, List.getElem_toArray, List.getElem_cons_zero, List.setIfInBounds_toArray, List.set_cons_zero, List.set_cons_succ]
    refine wpAnyH_take (i := 1) (oi := _) (v := ?m77_v) rfl (by kernel_rfl) (by kernel_rfl) (by kernel_rfl) (fun _ _ _ h => h) (Or.inl ⟨by kernel_rfl, ?m77_h⟩) hHeld ?m77_r
    case m77_h => (intro w hSw; (try dsimp only at hSw); go_simp; try with_reducible rfl)
    try simp only [Act.put, List.getElem_toArray, List.getElem_cons_succ, List.getElem_cons_zero, List.setIfInBounds_toArray, List.set_cons_zero, List.set_cons_succ]
    refine wpAnyH_take (i := 2) (oi := _) (v := ?m78_v) rfl (by kernel_rfl) (by kernel_rfl) (by kernel_rfl) (fun _ _ _ h => h) (Or.inl ⟨by kernel_rfl, ?m78_h⟩) hHeld ?m78_r
    case m78_h => (intro w hSw; (try dsimp only at hSw); go_simp; try with_reducible rfl)
    try simp only [Act.put, List.getElem_toArray, List.getElem_cons_succ, List.getElem_cons_zero, List.setIfInBounds_toArray, List.set_cons_zero, List.set_cons_succ]
    refine wpAnyH_take (i := 3) (oi := _) (v := ?m79_v) rfl (by kernel_rfl) (by kernel_rfl) (by kernel_rfl) (fun _ _ _ h => h) (Or.inl ⟨by kernel_rfl, ?m79_h⟩) hHeld ?m79_r
    case m79_h => (intro w hSw; (try dsimp only at hSw); go_simp; try with_reducible rfl)
    try simp only [Act.put, List.getElem_toArray, List.getElem_cons_succ, List.getElem_cons_zero, List.setIfInBounds_toArray, List.set_cons_zero, List.set_cons_succ]
    obtain ⟨y1, zy1⟩ : ∃ y : UInt64, y = at_ + 8 := ⟨_, rfl⟩
    have q1 : IntKind.u64.wrap ((at_.toNat : Int) + 8) = (y1.toNat : Int) := by rw [zy1]; exact u64_add at_ 8
    replace zy1 := Lib.hid zy1
    refine wpAnyH_take (i := 4) (oi := _) (v := ?m80_v) rfl (by kernel_rfl) (by kernel_rfl) (by kernel_rfl) (fun _ _ _ h => h) (Or.inl ⟨by kernel_rfl, ?m80_h⟩) hHeld ?m80_r
    case m80_h => (intro w hSw; (try dsimp only at hSw); go_simp; try with_reducible rfl)
    try simp only [Act.put, List.getElem_toArray, List.getElem_cons_succ, List.getElem_cons_zero, List.setIfInBounds_toArray, List.set_cons_zero, List.set_cons_succ]
    refine wpAnyH_take (i := 6) (oi := _) (v := ?m81_v) rfl (by kernel_rfl) (by kernel_rfl) (by kernel_rfl) (fun _ _ _ h => h) (Or.inl ⟨by kernel_rfl, ?m81_h⟩) hHeld ?m81_r
    case m81_h => (intro w hSw; (try dsimp only at hSw); go_simp; try with_reducible rfl)
    try simp only [Act.put, List.getElem_toArray, List.getElem_cons_succ, List.getElem_cons_zero, List.setIfInBounds_toArray, List.set_cons_zero, List.set_cons_succ]
    refine wpAnyH_take (i := 7) (oi := _) (v := ?m82_v) rfl (by kernel_rfl) (by kernel_rfl) (by kernel_rfl) (fun _ _ _ h => h) (Or.inl ⟨by kernel_rfl, ?m82_h⟩) hHeld ?m82_r
    case m82_h => (intro w hSw; (try dsimp only at hSw); go_simp; try with_reducible rfl)
    try simp only [Act.put, List.getElem_toArray, List.getElem_cons_succ, List.getElem_cons_zero, List.setIfInBounds_toArray, List.set_cons_zero, List.set_cons_succ]
    refine wpAnyH_take (i := 8) (oi := _) (v := ?m83_v) rfl (by kernel_rfl) (by kernel_rfl) (by kernel_rfl) (fun _ _ _ h => h) (Or.inl ⟨by kernel_rfl, ?m83_h⟩) hHeld ?m83_r
    case m83_h => (intro w hSw; (try dsimp only at hSw); go_simp; try with_reducible rfl)
    try simp only [Act.put, List.getElem_toArray, List.getElem_cons_succ, List.getElem_cons_zero, List.setIfInBounds_toArray, List.set_cons_zero, List.set_cons_succ]
    obtain ⟨y2, zy2⟩ : ∃ y : UInt64, y = at_ + 16 := ⟨_, rfl⟩
    have q2 : IntKind.u64.wrap ((at_.toNat : Int) + 16) = (y2.toNat : Int) := by rw [zy2]; exact u64_add at_ 16
    replace zy2 := Lib.hid zy2
    refine wpAnyH_take (i := 9) (oi := _) (v := ?m84_v) rfl (by kernel_rfl) (by kernel_rfl) (by kernel_rfl) (fun _ _ _ h => h) (Or.inl ⟨by kernel_rfl, ?m84_h⟩) hHeld ?m84_r
    case m84_h => (intro w hSw; (try dsimp only at hSw); go_simp; try with_reducible rfl)
    try simp only [Act.put, List.getElem_toArray, List.getElem_cons_succ, List.getElem_cons_zero, List.setIfInBounds_toArray, List.set_cons_zero, List.set_cons_succ]
    refine wpAnyH_ready (rs := [5]) (by kernel_rfl) (by simp) ?_
    refine (AllReadyH.cons (o := _) rfl (fun K hK => ?_) AllReadyH.nil)
    go_simp
    refine (hT.out.reads.loadC y1 _ rfl).mono ?_
    rintro _ W3 ⟨rfl, kn⟩
    replace hst := Lib.hid (hst.out.nil kn)
    replace hT := Lib.hid (hT.out.nil kn)
    replace hB1 := Lib.hid (hB1.out.nil kn)
    clear kn
    refine hK.out _ _ (hB1.out.cell 0 _ rfl) (fun hHeld => ?_)
    clear hK K
    try simp only [Act.put, List.getElem_toArray, List.getElem_cons_succ, List.getElem_cons_zero, List.setIfInBounds_toArray, List.set_cons_zero, List.set_cons_succ]
    refine wpAnyH_ready (rs := [10]) (by kernel_rfl) (by simp) ?_
    refine (AllReadyH.cons (o := _) rfl (fun K hK => ?_) AllReadyH.nil)
    go_simp
    refine (hT.out.reads.loadC y2 _ rfl).mono ?_
    rintro _ W4 ⟨rfl, kn⟩
    replace hst := Lib.hid (hst.out.nil kn)
    replace hT := Lib.hid (hT.out.nil kn)
    replace hB1 := Lib.hid (hB1.out.nil kn)
    clear kn
    refine hK.out _ _ (hB1.out.cell 0 _ rfl) (fun hHeld => ?_)
    clear hK K
    try simp only [Act.put, List.getElem_toArray, List.getElem_cons_succ, List.getElem_cons_zero, List.setIfInBounds_toArray, List.set_cons_zero, List.set_cons_succ]
    refine wpAnyH_ready (rs := [11]) (by kernel_rfl) (by simp) ?_
    refine (AllReadyH.cons (o := _) rfl (fun K hK => ?_) AllReadyH.nil)
    go_simp
    have ih2 := join_any HJ.out hT.out
    rw [← zy1.out, ← zy2.out] at ih2
    refine (ih2).mono ?_
    rintro _ W5 ⟨rfl, S1, hT2, kn⟩
    clear ih2
    replace hst := Lib.hid (hst.out.trans kn)
    replace hB1 := Lib.hid (hB1.out.steps kn)
    replace hT := Lib.hid hT2
    clear kn hT2
    refine hK.out _ _ (hB1.out.cell 0 _ rfl) (fun hHeld => ?_)
    clear hK K
    try simp only [Act.put, List.getElem_toArray, List.getElem_cons_succ, List.getElem_cons_zero, List.setIfInBounds_toArray, List.set_cons_zero, List.set_cons_succ]
    refine wpAnyH_take (i := 12) (oi := _) (v := ?m85_v) rfl (by kernel_rfl) (by kernel_rfl) (by kernel_rfl) (fun _ _ _ h => h) (Or.inl ⟨by kernel_rfl, ?m85_h⟩) hHeld ?m85_r
    case m85_h => (intro w hSw; (try dsimp only at hSw); go_simp; try with_reducible rfl)
    try simp only [Act.put, List.getElem_toArray, List.getElem_cons_succ, List.getElem_cons_zero, List.setIfInBounds_toArray, List.set_cons_zero, List.set_cons_succ]
    refine wpAnyH_take (i := 13) (oi := _) (v := ?m86_v) rfl (by kernel_rfl) (by kernel_rfl) (by kernel_rfl) (fun _ _ _ h => h) (Or.inl ⟨by kernel_rfl, ?m86_h⟩) hHeld ?m86_r
    case m86_h => (intro w hSw; (try dsimp only at hSw); go_simp; try with_reducible rfl)
    try simp only [Act.put, List.getElem_toArray, List.getElem_cons_succ, List.getElem_cons_zero, List.setIfInBounds_toArray, List.set_cons_zero, List.set_cons_succ]
    refine wpAnyH_done (by kernel_rfl) ?_ _
    clear hHeld
    have c_B1_0 := hB1.out.cell 0 _ rfl
    have f_B1_0 := hB1.out.frz 0
    have l_B1 := hB1.out.lt
    go_wp2_with fail
    go_ret2
    clear c_B1_0 f_B1_0 l_B1
    exact ⟨rfl, _, hT.out, hst.out⟩
  | @down at_ off f' r ok h1 h2 h3 ih =>
    intro w t S h
    have hT := Lib.hid h
    have H1 := Lib.hid h1
    have H2 := Lib.hid h2
    clear h h1 h2 h3
    have hst := Lib.hid (Step.refl S w)
    go_enter Tryz.func110, Tryz.ntmps110
    have d1 : (((at_.toNat : Int) : Int) == (0 : Int)) = false := (unlike_u64 (a := at_) (b := 0) (H1.out)).2
    have d2 : (((at_.toNat : Int) : Int) == ((off.toNat : Int) : Int)) = false := (unlike_u64 (a := at_) (b := off) (H2.out)).2
    obtain ⟨W1, hW1⟩ : ∃ W, W = w.alloc (.cells #[.pointer (some ⟨t, 0, none⟩)] 153) := ⟨_, rfl⟩
    obtain ⟨B1, eB1⟩ : ∃ B, B = w.heap.size := ⟨_, rfl⟩
    replace hW1 := Lib.hid hW1
    replace eB1 := Lib.hid eB1
    go_wp2_with fail
    rw [← hW1.out]
    try rw [← eB1.out]
    have k1 : Keeps Nil w W1 := by rw [hW1.out]; exact alloc_keeps _ _
    have e0B1 : B1 = w.heap.size := by rw [eB1.out]
    have hB1 := Lib.hid (show Bx W1 S B1 #[.pointer (some ⟨t, 0, none⟩)] 153 by rw [hW1.out]; exact Bx.new hT.out.lt _ _ e0B1)
    have gB1 := Lib.hid (show w.heap.size ≤ B1 by rw [e0B1]; exact hst.out.keeps.size)
    replace hst := Lib.hid (hst.out.nil k1)
    replace hT := Lib.hid (hT.out.nil k1)
    clear k1 e0B1
    obtain ⟨W2, hW2⟩ : ∃ W, W = W1.drew := ⟨_, rfl⟩
    replace hW2 := Lib.hid hW2
    have kn : Keeps Nil W1 W2 := by rw [hW2.out]; exact keeps_drew _
    replace hst := Lib.hid (hst.out.nil kn)
    replace hT := Lib.hid (hT.out.nil kn)
    replace hB1 := Lib.hid (hB1.out.nil kn)
    clear kn
    refine wp_region_held_drew (S := fun w' => w'.cell? ⟨B1, 0, none⟩ = some (.pointer (some ⟨t, 0, none⟩))) (by kernel_rfl) (by rw [← hW2.out]; exact hB1.out.cell 0 _ rfl) (fun hHeld => ?_)
    rw [← hW2.out] at hHeld ⊢
    refine wpAnyH_take (i := 0) (oi := _) (v := ?m87_v) rfl (by kernel_rfl) (by kernel_rfl) (by kernel_rfl) (fun _ _ _ h => h) (Or.inl ⟨by kernel_rfl, ?m87_h⟩) hHeld ?m87_r
    case m87_h => (intro w hSw; (try dsimp only at hSw); go_simp; try with_reducible rfl)
    try simp only [Act.put, List.getElem_toArray, List.getElem_cons_zero, List.setIfInBounds_toArray, List.set_cons_zero, List.set_cons_succ]
    refine wpAnyH_take (i := 1) (oi := _) (v := ?m88_v) rfl (by kernel_rfl) (by kernel_rfl) (by kernel_rfl) (fun _ _ _ h => h) (Or.inl ⟨by kernel_rfl, ?m88_h⟩) hHeld ?m88_r
    case m88_h => (intro w hSw; (try dsimp only at hSw); go_simp; try with_reducible rfl)
    try simp only [Act.put, List.getElem_toArray, List.getElem_cons_succ, List.getElem_cons_zero, List.setIfInBounds_toArray, List.set_cons_zero, List.set_cons_succ]
    refine wpAnyH_take (i := 2) (oi := _) (v := ?m89_v) rfl (by kernel_rfl) (by kernel_rfl) (by kernel_rfl) (fun _ _ _ h => h) (Or.inl ⟨by kernel_rfl, ?m89_h⟩) hHeld ?m89_r
    case m89_h => (intro w hSw; (try dsimp only at hSw); go_simp; try with_reducible rfl)
    try simp only [Act.put, List.getElem_toArray, List.getElem_cons_succ, List.getElem_cons_zero, List.setIfInBounds_toArray, List.set_cons_zero, List.set_cons_succ]
    refine wpAnyH_take (i := 3) (oi := _) (v := ?m90_v) rfl (by kernel_rfl) (by kernel_rfl) (by kernel_rfl) (fun _ _ _ h => h) (Or.inl ⟨by kernel_rfl, ?m90_h⟩) hHeld ?m90_r
    case m90_h => (intro w hSw; (try dsimp only at hSw); go_simp; try with_reducible rfl)
    try simp only [Act.put, List.getElem_toArray, List.getElem_cons_succ, List.getElem_cons_zero, List.setIfInBounds_toArray, List.set_cons_zero, List.set_cons_succ]
    refine wpAnyH_ready (rs := [4]) (by kernel_rfl) (by simp) ?_
    refine (AllReadyH.cons (o := _) rfl (fun K hK => ?_) AllReadyH.nil)
    go_simp
    refine (key_any hT.out.reads off _ rfl).mono ?_
    rintro _ W3 ⟨rfl, kn⟩
    replace hst := Lib.hid (hst.out.nil kn)
    replace hT := Lib.hid (hT.out.nil kn)
    replace hB1 := Lib.hid (hB1.out.nil kn)
    clear kn
    refine hK.out _ _ (hB1.out.cell 0 _ rfl) (fun hHeld => ?_)
    clear hK K
    try simp only [Act.put, List.getElem_toArray, List.getElem_cons_succ, List.getElem_cons_zero, List.setIfInBounds_toArray, List.set_cons_zero, List.set_cons_succ]
    refine wpAnyH_ready (rs := [5]) (by kernel_rfl) (by simp) ?_
    refine (AllReadyH.cons (o := _) rfl (fun K hK => ?_) AllReadyH.nil)
    go_simp
    refine (side_any hT.out.reads at_ (sizeF f off) off).mono ?_
    rintro _ W4 ⟨rfl, kn⟩
    obtain ⟨v1, zv1⟩ : ∃ v : UInt64, v = sideF szU f at_ ((sizeF f off), off) := ⟨_, rfl⟩
    rw [← zv1]
    replace zv1 := Lib.hid zv1
    replace hst := Lib.hid (hst.out.nil kn)
    replace hT := Lib.hid (hT.out.nil kn)
    replace hB1 := Lib.hid (hB1.out.nil kn)
    clear kn
    refine hK.out _ _ (hB1.out.cell 0 _ rfl) (fun hHeld => ?_)
    clear hK K
    try simp only [Act.put, List.getElem_toArray, List.getElem_cons_succ, List.getElem_cons_zero, List.setIfInBounds_toArray, List.set_cons_zero, List.set_cons_succ]
    refine wpAnyH_take (i := 6) (oi := _) (v := ?m91_v) rfl (by kernel_rfl) (by kernel_rfl) (by kernel_rfl) (fun _ _ _ h => h) (Or.inl ⟨by kernel_rfl, ?m91_h⟩) hHeld ?m91_r
    case m91_h => (intro w hSw; (try dsimp only at hSw); go_simp; try with_reducible rfl)
    try simp only [Act.put, List.getElem_toArray, List.getElem_cons_succ, List.getElem_cons_zero, List.setIfInBounds_toArray, List.set_cons_zero, List.set_cons_succ]
    refine wpAnyH_done (by kernel_rfl) ?_ _
    clear hHeld
    have c_B1_0 := hB1.out.cell 0 _ rfl
    have f_B1_0 := hB1.out.frz 0
    have l_B1 := hB1.out.lt
    go_wp2_with fail
    clear c_B1_0 f_B1_0 l_B1
    obtain ⟨W5, hW5⟩ : ∃ W, W = W4.drew := ⟨_, rfl⟩
    replace hW5 := Lib.hid hW5
    have kn : Keeps Nil W4 W5 := by rw [hW5.out]; exact keeps_drew _
    replace hst := Lib.hid (hst.out.nil kn)
    replace hT := Lib.hid (hT.out.nil kn)
    replace hB1 := Lib.hid (hB1.out.nil kn)
    clear kn
    refine wp_region_held_drew (S := fun w' => w'.cell? ⟨B1, 0, none⟩ = some (.pointer (some ⟨t, 0, none⟩))) (by kernel_rfl) (by rw [← hW5.out]; exact hB1.out.cell 0 _ rfl) (fun hHeld => ?_)
    rw [← hW5.out] at hHeld ⊢
    refine wpAnyH_take (i := 0) (oi := _) (v := ?m92_v) rfl (by kernel_rfl) (by kernel_rfl) (by kernel_rfl) (fun _ _ _ h => h) (Or.inl ⟨by kernel_rfl, ?m92_h⟩) hHeld ?m92_r
    case m92_h => (intro w hSw; (try dsimp only at hSw); go_simp; try with_reducible rfl)
    try simp only [Act.put, List.getElem_toArray, List.getElem_cons_zero, List.setIfInBounds_toArray, List.set_cons_zero, List.set_cons_succ]
    refine wpAnyH_take (i := 1) (oi := _) (v := ?m93_v) rfl (by kernel_rfl) (by kernel_rfl) (by kernel_rfl) (fun _ _ _ h => h) (Or.inl ⟨by kernel_rfl, ?m93_h⟩) hHeld ?m93_r
    case m93_h => (intro w hSw; (try dsimp only at hSw); go_simp; try with_reducible rfl)
    try simp only [Act.put, List.getElem_toArray, List.getElem_cons_succ, List.getElem_cons_zero, List.setIfInBounds_toArray, List.set_cons_zero, List.set_cons_succ]
    refine wpAnyH_take (i := 2) (oi := _) (v := ?m94_v) rfl (by kernel_rfl) (by kernel_rfl) (by kernel_rfl) (fun _ _ _ h => h) (Or.inl ⟨by kernel_rfl, ?m94_h⟩) hHeld ?m94_r
    case m94_h => (intro w hSw; (try dsimp only at hSw); go_simp; try with_reducible rfl)
    try simp only [Act.put, List.getElem_toArray, List.getElem_cons_succ, List.getElem_cons_zero, List.setIfInBounds_toArray, List.set_cons_zero, List.set_cons_succ]
    refine wpAnyH_take (i := 3) (oi := _) (v := ?m95_v) rfl (by kernel_rfl) (by kernel_rfl) (by kernel_rfl) (fun _ _ _ h => h) (Or.inl ⟨by kernel_rfl, ?m95_h⟩) hHeld ?m95_r
    case m95_h => (intro w hSw; (try dsimp only at hSw); go_simp; try with_reducible rfl)
    try simp only [Act.put, List.getElem_toArray, List.getElem_cons_succ, List.getElem_cons_zero, List.setIfInBounds_toArray, List.set_cons_zero, List.set_cons_succ]
    refine wpAnyH_take (i := 5) (oi := _) (v := ?m96_v) rfl (by kernel_rfl) (by kernel_rfl) (by kernel_rfl) (fun _ _ _ h => h) (Or.inl ⟨by kernel_rfl, ?m96_h⟩) hHeld ?m96_r
    case m96_h => (intro w hSw; (try dsimp only at hSw); go_simp; try with_reducible rfl)
    try simp only [Act.put, List.getElem_toArray, List.getElem_cons_succ, List.getElem_cons_zero, List.setIfInBounds_toArray, List.set_cons_zero, List.set_cons_succ]
    refine wpAnyH_ready (rs := [4]) (by kernel_rfl) (by simp) ?_
    refine (AllReadyH.cons (o := _) rfl (fun K hK => ?_) AllReadyH.nil)
    go_simp
    refine (hT.out.reads.loadC v1 _ rfl).mono ?_
    rintro _ W6 ⟨rfl, kn⟩
    replace hst := Lib.hid (hst.out.nil kn)
    replace hT := Lib.hid (hT.out.nil kn)
    replace hB1 := Lib.hid (hB1.out.nil kn)
    clear kn
    refine hK.out _ _ (hB1.out.cell 0 _ rfl) (fun hHeld => ?_)
    clear hK K
    try simp only [Act.put, List.getElem_toArray, List.getElem_cons_succ, List.getElem_cons_zero, List.setIfInBounds_toArray, List.set_cons_zero, List.set_cons_succ]
    refine wpAnyH_ready (rs := [6]) (by kernel_rfl) (by simp) ?_
    refine (AllReadyH.cons (o := _) rfl (fun K hK => ?_) AllReadyH.nil)
    go_simp
    have ih2 := @ih _ _ _ hT.out
    have e0 : sideF szU f at_ (keyF szU f off) = v1 := zv1.out.symm
    rw [e0] at ih2
    clear e0
    refine (ih2).mono ?_
    rintro _ W7 ⟨rfl, S1, hT2, kn⟩
    clear ih ih2
    replace hst := Lib.hid (hst.out.trans kn)
    replace hB1 := Lib.hid (hB1.out.steps kn)
    replace hT := Lib.hid hT2
    clear kn hT2
    refine hK.out _ _ (hB1.out.cell 0 _ rfl) (fun hHeld => ?_)
    clear hK K
    try simp only [Act.put, List.getElem_toArray, List.getElem_cons_succ, List.getElem_cons_zero, List.setIfInBounds_toArray, List.set_cons_zero, List.set_cons_succ]
    refine wpAnyH_take (i := 7) (oi := _) (v := ?m97_v) rfl (by kernel_rfl) (by kernel_rfl) (by kernel_rfl) (fun _ _ _ h => h) (Or.inl ⟨by kernel_rfl, ?m97_h⟩) hHeld ?m97_r
    case m97_h => (intro w hSw; (try dsimp only at hSw); go_simp; try with_reducible rfl)
    try simp only [Act.put, List.getElem_toArray, List.getElem_cons_succ, List.getElem_cons_zero, List.setIfInBounds_toArray, List.set_cons_zero, List.set_cons_succ]
    refine wpAnyH_take (i := 8) (oi := _) (v := ?m98_v) rfl (by kernel_rfl) (by kernel_rfl) (by kernel_rfl) (fun _ _ _ h => h) (Or.inl ⟨by kernel_rfl, ?m98_h⟩) hHeld ?m98_r
    case m98_h => (intro w hSw; (try dsimp only at hSw); go_simp; try with_reducible rfl)
    try simp only [Act.put, List.getElem_toArray, List.getElem_cons_succ, List.getElem_cons_zero, List.setIfInBounds_toArray, List.set_cons_zero, List.set_cons_succ]
    refine wpAnyH_take (i := 9) (oi := _) (v := ?m99_v) rfl (by kernel_rfl) (by kernel_rfl) (by kernel_rfl) (fun _ _ _ h => h) (Or.inl ⟨by kernel_rfl, ?m99_h⟩) hHeld ?m99_r
    case m99_h => (intro w hSw; (try dsimp only at hSw); go_simp; try with_reducible rfl)
    try simp only [Act.put, List.getElem_toArray, List.getElem_cons_succ, List.getElem_cons_zero, List.setIfInBounds_toArray, List.set_cons_zero, List.set_cons_succ]
    refine wpAnyH_take (i := 10) (oi := _) (v := ?m100_v) rfl (by kernel_rfl) (by kernel_rfl) (by kernel_rfl) (fun _ _ _ h => h) (Or.inl ⟨by kernel_rfl, ?m100_h⟩) hHeld ?m100_r
    case m100_h => (intro w hSw; (try dsimp only at hSw); go_simp; try with_reducible rfl)
    try simp only [Act.put, List.getElem_toArray, List.getElem_cons_succ, List.getElem_cons_zero, List.setIfInBounds_toArray, List.set_cons_zero, List.set_cons_succ]
    refine wpAnyH_take (i := 11) (oi := _) (v := ?m101_v) rfl (by kernel_rfl) (by kernel_rfl) (by kernel_rfl) (fun _ _ _ h => h) (Or.inl ⟨by kernel_rfl, ?m101_h⟩) hHeld ?m101_r
    case m101_h => (intro w hSw; (try dsimp only at hSw); go_simp; try with_reducible rfl)
    try simp only [Act.put, List.getElem_toArray, List.getElem_cons_succ, List.getElem_cons_zero, List.setIfInBounds_toArray, List.set_cons_zero, List.set_cons_succ]
    refine wpAnyH_done (by kernel_rfl) ?_ _
    clear hHeld
    have c_B1_0 := hB1.out.cell 0 _ rfl
    have f_B1_0 := hB1.out.frz 0
    have l_B1 := hB1.out.lt
    go_wp2_with fail
    clear c_B1_0 f_B1_0 l_B1
    refine (hT.out.store v1 r _ _ rfl rfl).mono ?_
    rintro _ W8 ⟨rfl, S2, hT2, kn⟩
    replace hst := Lib.hid (hst.out.trans kn)
    replace hB1 := Lib.hid (hB1.out.steps kn)
    replace hT := Lib.hid hT2
    clear kn hT2
    have c_B1_0 := hB1.out.cell 0 _ rfl
    have f_B1_0 := hB1.out.frz 0
    have l_B1 := hB1.out.lt
    go_wp2_with fail
    go_ret2
    clear c_B1_0 f_B1_0 l_B1
    have hT3 := hT.out
    rw [zv1.out] at hT3
    exact ⟨rfl, _, hT3, hst.out⟩
set_option maxRecDepth 100000 in
set_option maxHeartbeats 4000000 in
theorem plantF_any {n : Nat} {f : UInt64 → UInt64} {w : World} {t : Nat} {S : Nat → Prop} (h : TxF w t f n S) (off : UInt64) (x : Int) (hx : x = (off.toNat : Int)) :
    Calls Tryz.prog 45 #[.pointer (some ⟨t, 0, none⟩), .int .u64 x] w fun e w' => e = .returned (.tuple #[]) ∧ ∃ S', TxF w' t (stF n f 32 off) n S' ∧ Step S S' w w' := by
  subst hx
  have hT := Lib.hid h
  clear h
  have hst := Lib.hid (Step.refl S w)
  go_enter Tryz.func45, Tryz.ntmps45
  go_wp2_with fail
  refine (hT.out.store 32 off _ _ (by rfl) rfl).mono ?_
  rintro _ W1 ⟨rfl, S1, hT2, kn⟩
  replace hst := Lib.hid (hst.out.trans kn)
  replace hT := Lib.hid hT2
  clear kn hT2
  go_wp2_with fail
  go_end0
  exact ⟨rfl, _, hT.out, hst.out⟩
set_option maxRecDepth 100000 in
set_option maxHeartbeats 4000000 in
theorem Insert_any {n : Nat} {f f' : UInt64 → UInt64} {off r : UInt64} (h : InsR szU mixU n f (f 32) off f' r) {w : World} {t : Nat} {S : Nat → Prop} (hT : TxF w t f n S) :
    Calls Tryz.prog 47 #[.pointer (some ⟨t, 0, none⟩), .int .u64 (off.toNat : Int)] w fun e w' =>
      e = .returned (.tuple #[]) ∧ ∃ S', TxF w' t (stF n f' 32 r) n S' ∧ Step S S' w w' := by
  have HI := Lib.hid h
  replace hT := Lib.hid hT
  clear h
  have hst := Lib.hid (Step.refl S w)
  go_enter Tryz.func47, Tryz.ntmps47
  go_wp2_with fail
  refine (hRoot_any hT.out.reads).mono ?_
  rintro _ W1 ⟨rfl, kn⟩
  replace hst := Lib.hid (hst.out.nil kn)
  replace hT := Lib.hid (hT.out.nil kn)
  clear kn
  go_wp2_with fail
  refine (insert_any HI.out hT.out).mono ?_
  rintro _ W2 ⟨rfl, S1, hT2, kn⟩
  replace hst := Lib.hid (hst.out.trans kn)
  replace hT := Lib.hid hT2
  clear kn hT2
  go_wp2_with fail
  refine (plantF_any hT.out r _ rfl).mono ?_
  rintro _ W3 ⟨rfl, S2, hT2, kn⟩
  replace hst := Lib.hid (hst.out.trans kn)
  replace hT := Lib.hid hT2
  clear kn hT2
  go_wp2_with fail
  go_end0
  exact ⟨rfl, _, hT.out, hst.out⟩
set_option maxRecDepth 100000 in
set_option maxHeartbeats 4000000 in
theorem Delete_any {n : Nat} {f f' : UInt64 → UInt64} {off r : UInt64} {ok : Bool} (h : RemR szU mixU n f (f 32) off f' r ok) {w : World} {t : Nat} {S : Nat → Prop} (hT : TxF w t f n S) :
    Calls Tryz.prog 52 #[.pointer (some ⟨t, 0, none⟩), .int .u64 (off.toNat : Int)] w fun e w' =>
      e = .returned (.bool ok) ∧ ∃ S', TxF w' t (if ok then stF n f' 32 r else f') n S' ∧ Step S S' w w' := by
  have HI := Lib.hid h
  replace hT := Lib.hid hT
  clear h
  cases ok with
  | true =>
    have hst := Lib.hid (Step.refl S w)
    go_enter Tryz.func52, Tryz.ntmps52
    go_wp2_with fail
    refine (hRoot_any hT.out.reads).mono ?_
    rintro _ W1 ⟨rfl, kn⟩
    replace hst := Lib.hid (hst.out.nil kn)
    replace hT := Lib.hid (hT.out.nil kn)
    clear kn
    go_wp2_with fail
    refine (remove_any HI.out hT.out).mono ?_
    rintro _ W2 ⟨rfl, S1, hT2, kn⟩
    replace hst := Lib.hid (hst.out.trans kn)
    replace hT := Lib.hid hT2
    clear kn hT2
    go_wp2_with fail
    refine (plantF_any hT.out r _ rfl).mono ?_
    rintro _ W3 ⟨rfl, S2, hT2, kn⟩
    replace hst := Lib.hid (hst.out.trans kn)
    replace hT := Lib.hid hT2
    clear kn hT2
    go_wp2_with fail
    go_ret
    exact ⟨rfl, _, hT.out, hst.out⟩
  | false =>
    have hst := Lib.hid (Step.refl S w)
    go_enter Tryz.func52, Tryz.ntmps52
    go_wp2_with fail
    refine (hRoot_any hT.out.reads).mono ?_
    rintro _ W1 ⟨rfl, kn⟩
    replace hst := Lib.hid (hst.out.nil kn)
    replace hT := Lib.hid (hT.out.nil kn)
    clear kn
    go_wp2_with fail
    refine (remove_any HI.out hT.out).mono ?_
    rintro _ W2 ⟨rfl, S1, hT2, kn⟩
    replace hst := Lib.hid (hst.out.trans kn)
    replace hT := Lib.hid hT2
    clear kn hT2
    go_wp2_with fail
    go_ret
    exact ⟨rfl, _, hT.out, hst.out⟩
end Go.Proofs.YtefpbljekfkefaaGreat
