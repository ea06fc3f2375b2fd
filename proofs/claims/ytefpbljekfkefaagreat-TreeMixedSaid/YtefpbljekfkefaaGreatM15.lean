/- TagWR: merged. -/
import Derived.Test.YtefpbljekfkefaaGreatM12
import Derived.Test.YtefpbljekfkefaaGreatM08
/- carrackref05.Write. -/
namespace Go.Proofs.YtefpbljekfkefaaGreat
open Go.RowKit

theorem TxV.box {S : Nat → Prop} {w w' : World} {A B : Value} {ws : List UInt64} {l : List Put} {m n1 n2 c1 c2 : Nat} {a1 a2 : Option Addr} {T : TypeId} {f : Nat × Nat} (h : TxV S w A B ws l) (hm : w.heap[m]? = some (.cells #[.slice a1 n1 c1, .slice a2 n2 c2] T f)) (k : Keeps (fun i => i = m) w w') : TxV S w' A B ws l :=
  ⟨h.1, h.2.1, h.2.2.1.box hm (noU _ _ _ _ _ _) k, h.2.2.2.box hm (noP _ _ _ _ _ _) k⟩
theorem rMay5k (w : World) (g : TagV) : Calls Tryz.prog 166 #[.agg g.cells] w fun e w' => e = .returned (.bool (mayT g)) ∧ Keeps Nil w w' := (rMay5_any w g).mono fun _ _ ⟨h1, h2⟩ => ⟨h1, by rw [h2]; exact alloc_keeps _ _⟩
theorem TxV.valB {S : Nat → Prop} {w : World} {A B : Value} {ws : List UInt64} {l : List Put} (h : TxV S w A B ws l) : ∃ a c, B = .slice a l.length c := by
  obtain ⟨a, c, e, _⟩ := h.2.2.2.val
  exact ⟨a, c, e⟩

set_option maxRecDepth 100000 in
set_option maxHeartbeats 4000000 in
theorem rWrite5_any {S : Nat → Prop} {w : World} {a1 a2 : Option Addr} {n1 c1 n2 c2 : Nat} {ws : List UInt64} {l : List Put} (h : TxV S w (.slice a1 n1 c1) (.slice a2 n2 c2) ws l) (hS : ∀ k, S k → k < w.heap.size) (hsm : l.length < 4294967290)
    (off : UInt64) (g : TagV) (x : Int) (hx : x = (off.toNat : Int)) :
    Calls Tryz.prog 150 #[.agg #[.slice a1 n1 c1, .slice a2 n2 c2], .int .u64 x, .agg g.cells] w fun e w' =>
      ∃ a3 c3, e = .returned (.tuple #[.agg #[.slice a1 n1 c1, .slice a3 (writeP ws l off g).length c3], .int .i64 (codeOf (writeB (txLoad ws l) off g))]) ∧ TxV S w' (.slice a1 n1 c1) (.slice a3 (writeP ws l off g).length c3) ws (writeP ws l off g) ∧ Keeps Nil w w' := by
  subst hx
  obtain ⟨s, u, o⟩ := g
  rw [TagV.cells_def]
  have hn2 : n2 = l.length := by obtain ⟨a, c, e⟩ := h.valB; cases e; rfl
  have hX := Lib.hid h
  have HS := Lib.hid hS
  have HSM := Lib.hid (And.intro hsm hn2)
  have hT := Lib.hid h.rreads
  clear h hS hsm hn2
  cases hm : mayT ⟨s, u, o⟩ with
  | false =>
    have hb : writeB (txLoad ws l) off ⟨s, u, o⟩ = false := by unfold writeB; rw [hm]; rfl
    rw [hb, writeP_no hb]
    have HM := Lib.hid hm
    clear hm hb
    have hst := Lib.hid (Step.refl Nil w)
    go_enter Tryz.func150, Tryz.ntmps150
    obtain ⟨W1, hW1⟩ : ∃ W, W = w.alloc (.cells #[.slice a1 n1 c1, .slice a2 n2 c2] 71) := ⟨_, rfl⟩
    obtain ⟨B1, eB1⟩ : ∃ B, B = w.heap.size := ⟨_, rfl⟩
    replace hW1 := Lib.hid hW1
    replace eB1 := Lib.hid eB1
    obtain ⟨W2, hW2⟩ : ∃ W, W = W1.alloc (.cells #[.int .u64 (s.toNat : Int), .bool u, .int .i64 o] 61) := ⟨_, rfl⟩
    obtain ⟨B2, eB2⟩ : ∃ B, B = w.heap.size + 1 := ⟨_, rfl⟩
    replace hW2 := Lib.hid hW2
    replace eB2 := Lib.hid eB2
    obtain ⟨W3, hW3⟩ : ∃ W, W = W2.alloc (.cells #[.slice none 0 0, .slice none 0 0] 71) := ⟨_, rfl⟩
    obtain ⟨B3, eB3⟩ : ∃ B, B = w.heap.size + 2 := ⟨_, rfl⟩
    replace hW3 := Lib.hid hW3
    replace eB3 := Lib.hid eB3
    go_wp2_with fail
    rw [← hW1.out]
    rw [← hW2.out]
    rw [← hW3.out]
    try rw [← eB3.out]
    try rw [← eB2.out]
    try rw [← eB1.out]
    have k1 : Keeps Nil w W1 := by rw [hW1.out]; exact alloc_keeps _ _
    have e0B1 : B1 = w.heap.size := by rw [eB1.out]
    have hB1 := Lib.hid (show Bx W1 Nil B1 #[.slice a1 n1 c1, .slice a2 n2 c2] 71 by rw [hW1.out]; exact Bx.new Nil.lt _ _ e0B1)
    have gB1 := Lib.hid (show w.heap.size ≤ B1 by rw [e0B1]; exact hst.out.keeps.size)
    replace hst := Lib.hid (hst.out.nil k1)
    clear k1 e0B1
    have k2 : Keeps Nil W1 W2 := by rw [hW2.out]; exact alloc_keeps _ _
    have e0B2 : B2 = W1.heap.size := by rw [eB2.out, hW1.out]; simp []
    have hB2 := Lib.hid (show Bx W2 Nil B2 #[.int .u64 (s.toNat : Int), .bool u, .int .i64 o] 61 by rw [hW2.out]; exact Bx.new Nil.lt _ _ e0B2)
    have gB2 := Lib.hid (show w.heap.size ≤ B2 by rw [e0B2]; exact hst.out.keeps.size)
    have nB1B2 := Lib.hid (show B1 < B2 by rw [e0B2]; exact hB1.out.lt)
    replace hst := Lib.hid (hst.out.nil k2)
    replace hB1 := Lib.hid (hB1.out.nil k2)
    clear k2 e0B2
    have k3 : Keeps Nil W2 W3 := by rw [hW3.out]; exact alloc_keeps _ _
    have e0B3 : B3 = W2.heap.size := by rw [eB3.out, hW2.out, hW1.out]; simp []
    have hB3 := Lib.hid (show Bx W3 Nil B3 #[.slice none 0 0, .slice none 0 0] 71 by rw [hW3.out]; exact Bx.new Nil.lt _ _ e0B3)
    have gB3 := Lib.hid (show w.heap.size ≤ B3 by rw [e0B3]; exact hst.out.keeps.size)
    have nB1B3 := Lib.hid (show B1 < B3 by rw [e0B3]; exact hB1.out.lt)
    have nB2B3 := Lib.hid (show B2 < B3 by rw [e0B3]; exact hB2.out.lt)
    replace hst := Lib.hid (hst.out.nil k3)
    replace hB1 := Lib.hid (hB1.out.nil k3)
    replace hB2 := Lib.hid (hB2.out.nil k3)
    clear k3 e0B3
    refine (rMay5k _ ⟨s, u, o⟩).mono ?_
    rintro _ W4 ⟨rfl, kn⟩
    rw [HM.out]
    replace hst := Lib.hid (hst.out.nil kn)
    replace hB1 := Lib.hid (hB1.out.nil kn)
    replace hB2 := Lib.hid (hB2.out.nil kn)
    replace hB3 := Lib.hid (hB3.out.nil kn)
    clear kn
    have c_B1_0 := hB1.out.cell 0 _ rfl
    have f_B1_0 := hB1.out.frz 0
    have c_B1_1 := hB1.out.cell 1 _ rfl
    have f_B1_1 := hB1.out.frz 1
    have l_B1 := hB1.out.lt
    have c_B2_0 := hB2.out.cell 0 _ rfl
    have f_B2_0 := hB2.out.frz 0
    have c_B2_1 := hB2.out.cell 1 _ rfl
    have f_B2_1 := hB2.out.frz 1
    have c_B2_2 := hB2.out.cell 2 _ rfl
    have f_B2_2 := hB2.out.frz 2
    have l_B2 := hB2.out.lt
    have c_B3_0 := hB3.out.cell 0 _ rfl
    have f_B3_0 := hB3.out.frz 0
    have c_B3_1 := hB3.out.cell 1 _ rfl
    have f_B3_1 := hB3.out.frz 1
    have l_B3 := hB3.out.lt
    have ne_B1_B3 : (B1 = B3) = False := eq_false (Nat.ne_of_lt nB1B3.out)
    have ne_B3_B1 : (B3 = B1) = False := eq_false (Ne.symm (Nat.ne_of_lt nB1B3.out))
    have ne_B2_B3 : (B2 = B3) = False := eq_false (Nat.ne_of_lt nB2B3.out)
    have ne_B3_B2 : (B3 = B2) = False := eq_false (Ne.symm (Nat.ne_of_lt nB2B3.out))
    obtain ⟨W5, hW5⟩ : ∃ W, W = ((W4.setCell ⟨B3, 0, none⟩ (.slice a1 n1 c1)).setCell ⟨B3, 1, none⟩ (.slice a2 n2 c2)) := ⟨_, rfl⟩
    replace hW5 := Lib.hid hW5
    go_wp2_with fail
    clear c_B1_0 f_B1_0 c_B1_1 f_B1_1 l_B1 c_B2_0 f_B2_0 c_B2_1 f_B2_1 c_B2_2 f_B2_2 l_B2 c_B3_0 f_B3_0 c_B3_1 f_B3_1 l_B3 ne_B1_B3 ne_B3_B1 ne_B2_B3 ne_B3_B2
    rw [← hW5.out]
    replace hst := Lib.hid (show Step _ Nil w W5 by rw [hW5.out]; exact ((hst.out.set gB3.out _ _).set gB3.out _ _))
    replace hB1 := Lib.hid (show Bx W5 Nil B1 #[.slice a1 n1 c1, .slice a2 n2 c2] 71 by rw [hW5.out]; exact ((hB1.out.other (Nat.ne_of_lt nB1B3.out) _ _).other (Nat.ne_of_lt nB1B3.out) _ _))
    replace hB2 := Lib.hid (show Bx W5 Nil B2 #[.int .u64 (s.toNat : Int), .bool u, .int .i64 o] 61 by rw [hW5.out]; exact ((hB2.out.other (Nat.ne_of_lt nB2B3.out) _ _).other (Nat.ne_of_lt nB2B3.out) _ _))
    replace hB3 := Lib.hid (show Bx W5 Nil B3 #[.slice a1 n1 c1, .slice a2 n2 c2] 71 by rw [hW5.out]; exact ((hB3.out.set _ _).set _ _))
    refine bodyPost_ret (results_row_tmp rfl rfl hB3.out.1 Tryz.underlying71 rfl (by kernel_rfl)) rfl ?_
    have hw := hX.out.keeps_nil hst.out.keeps
    rw [HSM.out.2] at hw ⊢
    exact ⟨a2, c2, rfl, hw, hst.out.keeps⟩
  | true =>
    cases hi : inT (txLoad ws l 16) off s with
    | false =>
      have hb : writeB (txLoad ws l) off ⟨s, u, o⟩ = false := by unfold writeB; rw [hm, hi]; rfl
      rw [hb, writeP_no hb]
      have HM := Lib.hid hm
      have HI := Lib.hid hi
      clear hm hi hb
      have hst := Lib.hid (Step.refl Nil w)
      go_enter Tryz.func150, Tryz.ntmps150
      obtain ⟨W1, hW1⟩ : ∃ W, W = w.alloc (.cells #[.slice a1 n1 c1, .slice a2 n2 c2] 71) := ⟨_, rfl⟩
      obtain ⟨B1, eB1⟩ : ∃ B, B = w.heap.size := ⟨_, rfl⟩
      replace hW1 := Lib.hid hW1
      replace eB1 := Lib.hid eB1
      obtain ⟨W2, hW2⟩ : ∃ W, W = W1.alloc (.cells #[.int .u64 (s.toNat : Int), .bool u, .int .i64 o] 61) := ⟨_, rfl⟩
      obtain ⟨B2, eB2⟩ : ∃ B, B = w.heap.size + 1 := ⟨_, rfl⟩
      replace hW2 := Lib.hid hW2
      replace eB2 := Lib.hid eB2
      obtain ⟨W3, hW3⟩ : ∃ W, W = W2.alloc (.cells #[.slice none 0 0, .slice none 0 0] 71) := ⟨_, rfl⟩
      obtain ⟨B3, eB3⟩ : ∃ B, B = w.heap.size + 2 := ⟨_, rfl⟩
      replace hW3 := Lib.hid hW3
      replace eB3 := Lib.hid eB3
      go_wp2_with fail
      rw [← hW1.out]
      rw [← hW2.out]
      rw [← hW3.out]
      try rw [← eB3.out]
      try rw [← eB2.out]
      try rw [← eB1.out]
      have k1 : Keeps Nil w W1 := by rw [hW1.out]; exact alloc_keeps _ _
      have e0B1 : B1 = w.heap.size := by rw [eB1.out]
      have hB1 := Lib.hid (show Bx W1 Nil B1 #[.slice a1 n1 c1, .slice a2 n2 c2] 71 by rw [hW1.out]; exact Bx.new Nil.lt _ _ e0B1)
      have gB1 := Lib.hid (show w.heap.size ≤ B1 by rw [e0B1]; exact hst.out.keeps.size)
      replace hst := Lib.hid (hst.out.nil k1)
      clear k1 e0B1
      have k2 : Keeps Nil W1 W2 := by rw [hW2.out]; exact alloc_keeps _ _
      have e0B2 : B2 = W1.heap.size := by rw [eB2.out, hW1.out]; simp []
      have hB2 := Lib.hid (show Bx W2 Nil B2 #[.int .u64 (s.toNat : Int), .bool u, .int .i64 o] 61 by rw [hW2.out]; exact Bx.new Nil.lt _ _ e0B2)
      have gB2 := Lib.hid (show w.heap.size ≤ B2 by rw [e0B2]; exact hst.out.keeps.size)
      have nB1B2 := Lib.hid (show B1 < B2 by rw [e0B2]; exact hB1.out.lt)
      replace hst := Lib.hid (hst.out.nil k2)
      replace hB1 := Lib.hid (hB1.out.nil k2)
      clear k2 e0B2
      have k3 : Keeps Nil W2 W3 := by rw [hW3.out]; exact alloc_keeps _ _
      have e0B3 : B3 = W2.heap.size := by rw [eB3.out, hW2.out, hW1.out]; simp []
      have hB3 := Lib.hid (show Bx W3 Nil B3 #[.slice none 0 0, .slice none 0 0] 71 by rw [hW3.out]; exact Bx.new Nil.lt _ _ e0B3)
      have gB3 := Lib.hid (show w.heap.size ≤ B3 by rw [e0B3]; exact hst.out.keeps.size)
      have nB1B3 := Lib.hid (show B1 < B3 by rw [e0B3]; exact hB1.out.lt)
      have nB2B3 := Lib.hid (show B2 < B3 by rw [e0B3]; exact hB2.out.lt)
      replace hst := Lib.hid (hst.out.nil k3)
      replace hB1 := Lib.hid (hB1.out.nil k3)
      replace hB2 := Lib.hid (hB2.out.nil k3)
      clear k3 e0B3
      refine (rMay5k _ ⟨s, u, o⟩).mono ?_
      rintro _ W4 ⟨rfl, kn⟩
      rw [HM.out]
      replace hst := Lib.hid (hst.out.nil kn)
      replace hB1 := Lib.hid (hB1.out.nil kn)
      replace hB2 := Lib.hid (hB2.out.nil kn)
      replace hB3 := Lib.hid (hB3.out.nil kn)
      clear kn
      have c_B1_0 := hB1.out.cell 0 _ rfl
      have f_B1_0 := hB1.out.frz 0
      have c_B1_1 := hB1.out.cell 1 _ rfl
      have f_B1_1 := hB1.out.frz 1
      have l_B1 := hB1.out.lt
      have c_B2_0 := hB2.out.cell 0 _ rfl
      have f_B2_0 := hB2.out.frz 0
      have c_B2_1 := hB2.out.cell 1 _ rfl
      have f_B2_1 := hB2.out.frz 1
      have c_B2_2 := hB2.out.cell 2 _ rfl
      have f_B2_2 := hB2.out.frz 2
      have l_B2 := hB2.out.lt
      have c_B3_0 := hB3.out.cell 0 _ rfl
      have f_B3_0 := hB3.out.frz 0
      have c_B3_1 := hB3.out.cell 1 _ rfl
      have f_B3_1 := hB3.out.frz 1
      have l_B3 := hB3.out.lt
      go_wp2_with fail
      clear c_B1_0 f_B1_0 c_B1_1 f_B1_1 l_B1 c_B2_0 f_B2_0 c_B2_1 f_B2_1 c_B2_2 f_B2_2 l_B2 c_B3_0 f_B3_0 c_B3_1 f_B3_1 l_B3
      refine (rIn_any (hT.out.keeps hst.out.keeps) off s _ _ rfl rfl).mono ?_
      rintro _ W5 ⟨rfl, kn⟩
      rw [HI.out]
      replace hst := Lib.hid (hst.out.nil kn)
      replace hB1 := Lib.hid (hB1.out.nil kn)
      replace hB2 := Lib.hid (hB2.out.nil kn)
      replace hB3 := Lib.hid (hB3.out.nil kn)
      clear kn
      have c_B1_0 := hB1.out.cell 0 _ rfl
      have f_B1_0 := hB1.out.frz 0
      have c_B1_1 := hB1.out.cell 1 _ rfl
      have f_B1_1 := hB1.out.frz 1
      have l_B1 := hB1.out.lt
      have c_B2_0 := hB2.out.cell 0 _ rfl
      have f_B2_0 := hB2.out.frz 0
      have c_B2_1 := hB2.out.cell 1 _ rfl
      have f_B2_1 := hB2.out.frz 1
      have c_B2_2 := hB2.out.cell 2 _ rfl
      have f_B2_2 := hB2.out.frz 2
      have l_B2 := hB2.out.lt
      have c_B3_0 := hB3.out.cell 0 _ rfl
      have f_B3_0 := hB3.out.frz 0
      have c_B3_1 := hB3.out.cell 1 _ rfl
      have f_B3_1 := hB3.out.frz 1
      have l_B3 := hB3.out.lt
      have ne_B1_B3 : (B1 = B3) = False := eq_false (Nat.ne_of_lt nB1B3.out)
      have ne_B3_B1 : (B3 = B1) = False := eq_false (Ne.symm (Nat.ne_of_lt nB1B3.out))
      have ne_B2_B3 : (B2 = B3) = False := eq_false (Nat.ne_of_lt nB2B3.out)
      have ne_B3_B2 : (B3 = B2) = False := eq_false (Ne.symm (Nat.ne_of_lt nB2B3.out))
      obtain ⟨W6, hW6⟩ : ∃ W, W = ((W5.setCell ⟨B3, 0, none⟩ (.slice a1 n1 c1)).setCell ⟨B3, 1, none⟩ (.slice a2 n2 c2)) := ⟨_, rfl⟩
      replace hW6 := Lib.hid hW6
      go_wp2_with fail
      clear c_B1_0 f_B1_0 c_B1_1 f_B1_1 l_B1 c_B2_0 f_B2_0 c_B2_1 f_B2_1 c_B2_2 f_B2_2 l_B2 c_B3_0 f_B3_0 c_B3_1 f_B3_1 l_B3 ne_B1_B3 ne_B3_B1 ne_B2_B3 ne_B3_B2
      rw [← hW6.out]
      replace hst := Lib.hid (show Step _ Nil w W6 by rw [hW6.out]; exact ((hst.out.set gB3.out _ _).set gB3.out _ _))
      replace hB1 := Lib.hid (show Bx W6 Nil B1 #[.slice a1 n1 c1, .slice a2 n2 c2] 71 by rw [hW6.out]; exact ((hB1.out.other (Nat.ne_of_lt nB1B3.out) _ _).other (Nat.ne_of_lt nB1B3.out) _ _))
      replace hB2 := Lib.hid (show Bx W6 Nil B2 #[.int .u64 (s.toNat : Int), .bool u, .int .i64 o] 61 by rw [hW6.out]; exact ((hB2.out.other (Nat.ne_of_lt nB2B3.out) _ _).other (Nat.ne_of_lt nB2B3.out) _ _))
      replace hB3 := Lib.hid (show Bx W6 Nil B3 #[.slice a1 n1 c1, .slice a2 n2 c2] 71 by rw [hW6.out]; exact ((hB3.out.set _ _).set _ _))
      refine bodyPost_ret (results_row_tmp rfl rfl hB3.out.1 Tryz.underlying71 rfl (by kernel_rfl)) rfl ?_
      have hw := hX.out.keeps_nil hst.out.keeps
      rw [HSM.out.2] at hw ⊢
      exact ⟨a2, c2, rfl, hw, hst.out.keeps⟩
    | true =>
      have hb : writeB (txLoad ws l) off ⟨s, u, o⟩ = true := by unfold writeB; rw [hm, hi]; rfl
      rw [hb, writeP_yes hb]
      obtain ⟨p, hp⟩ : ∃ p, p = packU ⟨s, u, o⟩ := ⟨_, rfl⟩
      rw [← hp]
      have HM := Lib.hid hm
      have HI := Lib.hid hi
      have HP := Lib.hid hp
      clear hm hi hb hp
      have hst := Lib.hid (Step.refl Nil w)
      go_enter Tryz.func150, Tryz.ntmps150
      obtain ⟨W1, hW1⟩ : ∃ W, W = w.alloc (.cells #[.slice a1 n1 c1, .slice a2 n2 c2] 71) := ⟨_, rfl⟩
      obtain ⟨B1, eB1⟩ : ∃ B, B = w.heap.size := ⟨_, rfl⟩
      replace hW1 := Lib.hid hW1
      replace eB1 := Lib.hid eB1
      obtain ⟨W2, hW2⟩ : ∃ W, W = W1.alloc (.cells #[.int .u64 (s.toNat : Int), .bool u, .int .i64 o] 61) := ⟨_, rfl⟩
      obtain ⟨B2, eB2⟩ : ∃ B, B = w.heap.size + 1 := ⟨_, rfl⟩
      replace hW2 := Lib.hid hW2
      replace eB2 := Lib.hid eB2
      obtain ⟨W3, hW3⟩ : ∃ W, W = W2.alloc (.cells #[.slice none 0 0, .slice none 0 0] 71) := ⟨_, rfl⟩
      obtain ⟨B3, eB3⟩ : ∃ B, B = w.heap.size + 2 := ⟨_, rfl⟩
      replace hW3 := Lib.hid hW3
      replace eB3 := Lib.hid eB3
      go_wp2_with fail
      rw [← hW1.out]
      rw [← hW2.out]
      rw [← hW3.out]
      try rw [← eB3.out]
      try rw [← eB2.out]
      try rw [← eB1.out]
      have k1 : Keeps Nil w W1 := by rw [hW1.out]; exact alloc_keeps _ _
      have e0B1 : B1 = w.heap.size := by rw [eB1.out]
      have hB1 := Lib.hid (show Bx W1 Nil B1 #[.slice a1 n1 c1, .slice a2 n2 c2] 71 by rw [hW1.out]; exact Bx.new Nil.lt _ _ e0B1)
      have gB1 := Lib.hid (show w.heap.size ≤ B1 by rw [e0B1]; exact hst.out.keeps.size)
      replace hst := Lib.hid (hst.out.nil k1)
      clear k1 e0B1
      have k2 : Keeps Nil W1 W2 := by rw [hW2.out]; exact alloc_keeps _ _
      have e0B2 : B2 = W1.heap.size := by rw [eB2.out, hW1.out]; simp []
      have hB2 := Lib.hid (show Bx W2 Nil B2 #[.int .u64 (s.toNat : Int), .bool u, .int .i64 o] 61 by rw [hW2.out]; exact Bx.new Nil.lt _ _ e0B2)
      have gB2 := Lib.hid (show w.heap.size ≤ B2 by rw [e0B2]; exact hst.out.keeps.size)
      have nB1B2 := Lib.hid (show B1 < B2 by rw [e0B2]; exact hB1.out.lt)
      replace hst := Lib.hid (hst.out.nil k2)
      replace hB1 := Lib.hid (hB1.out.nil k2)
      clear k2 e0B2
      have k3 : Keeps Nil W2 W3 := by rw [hW3.out]; exact alloc_keeps _ _
      have e0B3 : B3 = W2.heap.size := by rw [eB3.out, hW2.out, hW1.out]; simp []
      have hB3 := Lib.hid (show Bx W3 Nil B3 #[.slice none 0 0, .slice none 0 0] 71 by rw [hW3.out]; exact Bx.new Nil.lt _ _ e0B3)
      have gB3 := Lib.hid (show w.heap.size ≤ B3 by rw [e0B3]; exact hst.out.keeps.size)
      have nB1B3 := Lib.hid (show B1 < B3 by rw [e0B3]; exact hB1.out.lt)
      have nB2B3 := Lib.hid (show B2 < B3 by rw [e0B3]; exact hB2.out.lt)
      replace hst := Lib.hid (hst.out.nil k3)
      replace hB1 := Lib.hid (hB1.out.nil k3)
      replace hB2 := Lib.hid (hB2.out.nil k3)
      clear k3 e0B3
      refine (rMay5k _ ⟨s, u, o⟩).mono ?_
      rintro _ W4 ⟨rfl, kn⟩
      rw [HM.out]
      replace hst := Lib.hid (hst.out.nil kn)
      replace hB1 := Lib.hid (hB1.out.nil kn)
      replace hB2 := Lib.hid (hB2.out.nil kn)
      replace hB3 := Lib.hid (hB3.out.nil kn)
      clear kn
      have c_B1_0 := hB1.out.cell 0 _ rfl
      have f_B1_0 := hB1.out.frz 0
      have c_B1_1 := hB1.out.cell 1 _ rfl
      have f_B1_1 := hB1.out.frz 1
      have l_B1 := hB1.out.lt
      have c_B2_0 := hB2.out.cell 0 _ rfl
      have f_B2_0 := hB2.out.frz 0
      have c_B2_1 := hB2.out.cell 1 _ rfl
      have f_B2_1 := hB2.out.frz 1
      have c_B2_2 := hB2.out.cell 2 _ rfl
      have f_B2_2 := hB2.out.frz 2
      have l_B2 := hB2.out.lt
      have c_B3_0 := hB3.out.cell 0 _ rfl
      have f_B3_0 := hB3.out.frz 0
      have c_B3_1 := hB3.out.cell 1 _ rfl
      have f_B3_1 := hB3.out.frz 1
      have l_B3 := hB3.out.lt
      go_wp2_with fail
      clear c_B1_0 f_B1_0 c_B1_1 f_B1_1 l_B1 c_B2_0 f_B2_0 c_B2_1 f_B2_1 c_B2_2 f_B2_2 l_B2 c_B3_0 f_B3_0 c_B3_1 f_B3_1 l_B3
      refine (rIn_any (hT.out.keeps hst.out.keeps) off s _ _ rfl rfl).mono ?_
      rintro _ W5 ⟨rfl, kn⟩
      rw [HI.out]
      replace hst := Lib.hid (hst.out.nil kn)
      replace hB1 := Lib.hid (hB1.out.nil kn)
      replace hB2 := Lib.hid (hB2.out.nil kn)
      replace hB3 := Lib.hid (hB3.out.nil kn)
      clear kn
      have c_B1_0 := hB1.out.cell 0 _ rfl
      have f_B1_0 := hB1.out.frz 0
      have c_B1_1 := hB1.out.cell 1 _ rfl
      have f_B1_1 := hB1.out.frz 1
      have l_B1 := hB1.out.lt
      have c_B2_0 := hB2.out.cell 0 _ rfl
      have f_B2_0 := hB2.out.frz 0
      have c_B2_1 := hB2.out.cell 1 _ rfl
      have f_B2_1 := hB2.out.frz 1
      have c_B2_2 := hB2.out.cell 2 _ rfl
      have f_B2_2 := hB2.out.frz 2
      have l_B2 := hB2.out.lt
      have c_B3_0 := hB3.out.cell 0 _ rfl
      have f_B3_0 := hB3.out.frz 0
      have c_B3_1 := hB3.out.cell 1 _ rfl
      have f_B3_1 := hB3.out.frz 1
      have l_B3 := hB3.out.lt
      go_wp2_with fail
      clear c_B1_0 f_B1_0 c_B1_1 f_B1_1 l_B1 c_B2_0 f_B2_0 c_B2_1 f_B2_1 c_B2_2 f_B2_2 l_B2 c_B3_0 f_B3_0 c_B3_1 f_B3_1 l_B3
      obtain ⟨W6, hW6⟩ : ∃ W, W = W5.drew := ⟨_, rfl⟩
      replace hW6 := Lib.hid hW6
      have kn : Keeps Nil W5 W6 := by rw [hW6.out]; exact keeps_drew _
      replace hst := Lib.hid (hst.out.nil kn)
      replace hB1 := Lib.hid (hB1.out.nil kn)
      replace hB2 := Lib.hid (hB2.out.nil kn)
      replace hB3 := Lib.hid (hB3.out.nil kn)
      clear kn
      refine wp_region_held_drew (S := fun w' => w'.cell? ⟨B1, 0, none⟩ = some (.slice a1 n1 c1) ∧ w'.cell? ⟨B1, 1, none⟩ = some (.slice a2 n2 c2) ∧ w'.cell? ⟨B2, 0, none⟩ = some (.int .u64 (s.toNat : Int)) ∧ w'.cell? ⟨B2, 1, none⟩ = some (.bool u) ∧ w'.cell? ⟨B2, 2, none⟩ = some (.int .i64 o)) (by kernel_rfl) (by rw [← hW6.out]; exact ⟨hB1.out.cell 0 _ rfl, hB1.out.cell 1 _ rfl, hB2.out.cell 0 _ rfl, hB2.out.cell 1 _ rfl, hB2.out.cell 2 _ rfl⟩) (fun hHeld => ?_)
      rw [← hW6.out] at hHeld ⊢
      refine wpAnyH_take (i := 0) (oi := _) (v := ?m1_v) rfl (by kernel_rfl) (by kernel_rfl) (by kernel_rfl) (fun _ _ _ h => h) (Or.inl ⟨by kernel_rfl, ?m1_h⟩) hHeld ?m1_r
      case m1_h => (intro w hSw; (try dsimp only at hSw); go_simp; try with_reducible rfl)
      try simp only [Act.put, List.getElem_toArray, List.getElem_cons_zero, List.setIfInBounds_toArray, List.set_cons_zero, List.set_cons_succ]
      refine wpAnyH_take (i := 1) (oi := _) (v := ?m2_v) rfl (by kernel_rfl) (by kernel_rfl) (by kernel_rfl) (fun _ _ _ h => h) (Or.inl ⟨by kernel_rfl, ?m2_h⟩) hHeld ?m2_r
      case m2_h => (intro w hSw; (try dsimp only at hSw); go_simp; try with_reducible rfl)
      try simp only [Act.put, List.getElem_toArray, List.getElem_cons_succ, List.getElem_cons_zero, List.setIfInBounds_toArray, List.set_cons_zero, List.set_cons_succ]
      refine wpAnyH_take (i := 2) (oi := _) (v := ?m3_v) rfl (by kernel_rfl) (by kernel_rfl) (by kernel_rfl) (fun _ _ _ h => h) (Or.inl ⟨by kernel_rfl, ?m3_h⟩) hHeld ?m3_r
      case m3_h => (intro w hSw; (try dsimp only at hSw); go_simp; try with_reducible rfl)
      try simp only [Act.put, List.getElem_toArray, List.getElem_cons_succ, List.getElem_cons_zero, List.setIfInBounds_toArray, List.set_cons_zero, List.set_cons_succ]
      refine wpAnyH_take (i := 5) (oi := _) (v := ?m4_v) rfl (by kernel_rfl) (by kernel_rfl) (by kernel_rfl) (fun _ _ _ h => h) (Or.inl ⟨by kernel_rfl, ?m4_h⟩) hHeld ?m4_r
      case m4_h => (intro w hSw; (try dsimp only at hSw); go_simp; try with_reducible rfl)
      try simp only [Act.put, List.getElem_toArray, List.getElem_cons_succ, List.getElem_cons_zero, List.setIfInBounds_toArray, List.set_cons_zero, List.set_cons_succ]
      refine wpAnyH_take (i := 6) (oi := _) (v := ?m5_v) rfl (by kernel_rfl) (by kernel_rfl) (by kernel_rfl) (fun _ _ _ h => h) (Or.inl ⟨by kernel_rfl, ?m5_h⟩) hHeld ?m5_r
      case m5_h => (intro w hSw; (try dsimp only at hSw); go_simp; try with_reducible rfl)
      try simp only [Act.put, List.getElem_toArray, List.getElem_cons_succ, List.getElem_cons_zero, List.setIfInBounds_toArray, List.set_cons_zero, List.set_cons_succ]
      refine wpAnyH_take (i := 7) (oi := _) (v := ?m6_v) rfl (by kernel_rfl) (by kernel_rfl) (by kernel_rfl) (fun _ _ _ h => h) (Or.inl ⟨by kernel_rfl, ?m6_h⟩) hHeld ?m6_r
      case m6_h => (intro w hSw; (try dsimp only at hSw); go_simp; try with_reducible rfl)
      try simp only [Act.put, List.getElem_toArray, List.getElem_cons_succ, List.getElem_cons_zero, List.setIfInBounds_toArray, List.set_cons_zero, List.set_cons_succ]
      obtain ⟨y1, zy1⟩ : ∃ y : UInt64, y = off + s := ⟨_, rfl⟩
      have q1 : IntKind.u64.wrap ((off.toNat : Int) + (s.toNat : Int)) = (y1.toNat : Int) := by rw [zy1]; exact u64_add off s
      replace zy1 := Lib.hid zy1
      refine wpAnyH_take (i := 8) (oi := _) (v := ?m7_v) rfl (by kernel_rfl) (by kernel_rfl) (by kernel_rfl) (fun _ _ _ h => h) (Or.inl ⟨by kernel_rfl, ?m7_h⟩) hHeld ?m7_r
      case m7_h => (intro w hSw; (try dsimp only at hSw); go_simp; try with_reducible rfl)
      try simp only [Act.put, List.getElem_toArray, List.getElem_cons_succ, List.getElem_cons_zero, List.setIfInBounds_toArray, List.set_cons_zero, List.set_cons_succ]
      obtain ⟨y2, zy2⟩ : ∃ y : UInt64, y = y1 - 8 := ⟨_, rfl⟩
      have q2 : IntKind.u64.wrap ((y1.toNat : Int) - 8) = (y2.toNat : Int) := by rw [zy2]; exact u64_sub y1 8
      replace zy2 := Lib.hid zy2
      refine wpAnyH_take (i := 9) (oi := _) (v := ?m8_v) rfl (by kernel_rfl) (by kernel_rfl) (by kernel_rfl) (fun _ _ _ h => h) (Or.inl ⟨by kernel_rfl, ?m8_h⟩) hHeld ?m8_r
      case m8_h => (intro w hSw; (try dsimp only at hSw); go_simp; try with_reducible rfl)
      try simp only [Act.put, List.getElem_toArray, List.getElem_cons_succ, List.getElem_cons_zero, List.setIfInBounds_toArray, List.set_cons_zero, List.set_cons_succ]
      refine wpAnyH_take (i := 10) (oi := _) (v := ?m9_v) rfl (by kernel_rfl) (by kernel_rfl) (by kernel_rfl) (fun _ _ _ h => h) (Or.inl ⟨by kernel_rfl, ?m9_h⟩) hHeld ?m9_r
      case m9_h => (intro w hSw; (try dsimp only at hSw); go_simp; try with_reducible rfl)
      try simp only [Act.put, List.getElem_toArray, List.getElem_cons_succ, List.getElem_cons_zero, List.setIfInBounds_toArray, List.set_cons_zero, List.set_cons_succ]
      refine wpAnyH_ready (rs := [3]) (by kernel_rfl) (by simp) ?_
      refine (AllReadyH.cons (o := _) rfl (fun K hK => ?_) AllReadyH.nil)
      go_simp
      refine (rPack_any _ ⟨s, u, o⟩).mono ?_
      rintro _ W7 ⟨rfl, kn⟩
      rw [← HP.out]
      replace hst := Lib.hid (hst.out.nil kn)
      replace hB1 := Lib.hid (hB1.out.nil kn)
      replace hB2 := Lib.hid (hB2.out.nil kn)
      replace hB3 := Lib.hid (hB3.out.nil kn)
      clear kn
      refine hK.out _ _ (⟨hB1.out.cell 0 _ rfl, hB1.out.cell 1 _ rfl, hB2.out.cell 0 _ rfl, hB2.out.cell 1 _ rfl, hB2.out.cell 2 _ rfl⟩) (fun hHeld => ?_)
      clear hK K
      try simp only [Act.put, List.getElem_toArray, List.getElem_cons_succ, List.getElem_cons_zero, List.setIfInBounds_toArray, List.set_cons_zero, List.set_cons_succ]
      refine wpAnyH_ready (rs := [4]) (by kernel_rfl) (by simp) ?_
      refine (AllReadyH.cons (o := _) rfl (fun K hK => ?_) AllReadyH.nil)
      go_simp
      refine ((hX.out.keeps_nil hst.out.keeps).store (fun k e => Nat.lt_of_lt_of_le (HS.out k e) hst.out.keeps.size) (by have := HSM.out.1; omega) off p _ _ rfl rfl).mono ?_
      rintro _ W8 ⟨v, rfl, hv, kn⟩
      obtain ⟨e1, d1, rfl⟩ := hv.valB
      have hX1 := Lib.hid hv
      clear hv
      replace hst := Lib.hid (hst.out.nil kn)
      replace hB1 := Lib.hid (hB1.out.nil kn)
      replace hB2 := Lib.hid (hB2.out.nil kn)
      replace hB3 := Lib.hid (hB3.out.nil kn)
      clear kn
      refine hK.out _ _ (⟨hB1.out.cell 0 _ rfl, hB1.out.cell 1 _ rfl, hB2.out.cell 0 _ rfl, hB2.out.cell 1 _ rfl, hB2.out.cell 2 _ rfl⟩) (fun hHeld => ?_)
      clear hK K
      try simp only [Act.put, List.getElem_toArray, List.getElem_cons_succ, List.getElem_cons_zero, List.setIfInBounds_toArray, List.set_cons_zero, List.set_cons_succ]
      refine wpAnyH_ready (rs := [11]) (by kernel_rfl) (by simp) ?_
      refine (AllReadyH.cons (o := _) rfl (fun K hK => ?_) AllReadyH.nil)
      go_simp
      refine (rPack_any _ ⟨s, u, o⟩).mono ?_
      rintro _ W9 ⟨rfl, kn⟩
      rw [← HP.out]
      replace hst := Lib.hid (hst.out.nil kn)
      replace hX1 := Lib.hid (hX1.out.keeps_nil kn)
      replace hB1 := Lib.hid (hB1.out.nil kn)
      replace hB2 := Lib.hid (hB2.out.nil kn)
      replace hB3 := Lib.hid (hB3.out.nil kn)
      clear kn
      refine hK.out _ _ (⟨hB1.out.cell 0 _ rfl, hB1.out.cell 1 _ rfl, hB2.out.cell 0 _ rfl, hB2.out.cell 1 _ rfl, hB2.out.cell 2 _ rfl⟩) (fun hHeld => ?_)
      clear hK K
      try simp only [Act.put, List.getElem_toArray, List.getElem_cons_succ, List.getElem_cons_zero, List.setIfInBounds_toArray, List.set_cons_zero, List.set_cons_succ]
      refine wpAnyH_ready (rs := [12]) (by kernel_rfl) (by simp) ?_
      refine (AllReadyH.cons (o := _) rfl (fun K hK => ?_) AllReadyH.nil)
      go_simp
      refine (hX1.out.store (fun k e => Nat.lt_of_lt_of_le (HS.out k e) hst.out.keeps.size) (by have := txStore_length ws l off p; have := HSM.out.1; omega) y2 p _ _ rfl rfl).mono ?_
      rintro _ W10 ⟨v, rfl, hv, kn⟩
      obtain ⟨e2, d2, rfl⟩ := hv.valB
      have hX2 := Lib.hid hv
      clear hv
      replace hst := Lib.hid (hst.out.nil kn)
      replace hX1 := Lib.hid (hX1.out.keeps_nil kn)
      replace hB1 := Lib.hid (hB1.out.nil kn)
      replace hB2 := Lib.hid (hB2.out.nil kn)
      replace hB3 := Lib.hid (hB3.out.nil kn)
      clear kn
      refine hK.out _ _ (⟨hB1.out.cell 0 _ rfl, hB1.out.cell 1 _ rfl, hB2.out.cell 0 _ rfl, hB2.out.cell 1 _ rfl, hB2.out.cell 2 _ rfl⟩) (fun hHeld => ?_)
      clear hK K
      try simp only [Act.put, List.getElem_toArray, List.getElem_cons_succ, List.getElem_cons_zero, List.setIfInBounds_toArray, List.set_cons_zero, List.set_cons_succ]
      refine wpAnyH_ready (rs := [13]) (by kernel_rfl) (by simp) ?_
      refine (AllReadyH.cons (o := _) rfl (fun K hK => ?_) AllReadyH.nil)
      have c_B1_0 := hB1.out.cell 0 _ rfl
      have f_B1_0 := hB1.out.frz 0
      have c_B1_1 := hB1.out.cell 1 _ rfl
      have f_B1_1 := hB1.out.frz 1
      have l_B1 := hB1.out.lt
      have c_B2_0 := hB2.out.cell 0 _ rfl
      have f_B2_0 := hB2.out.frz 0
      have c_B2_1 := hB2.out.cell 1 _ rfl
      have f_B2_1 := hB2.out.frz 1
      have c_B2_2 := hB2.out.cell 2 _ rfl
      have f_B2_2 := hB2.out.frz 2
      have l_B2 := hB2.out.lt
      have c_B3_0 := hB3.out.cell 0 _ rfl
      have f_B3_0 := hB3.out.frz 0
      have c_B3_1 := hB3.out.cell 1 _ rfl
      have f_B3_1 := hB3.out.frz 1
      have l_B3 := hB3.out.lt
      obtain ⟨W11, hW11⟩ : ∃ W, W = ((W10.setCell ⟨B3, 0, none⟩ (.slice a1 n1 c1)).setCell ⟨B3, 1, none⟩ (.slice e2 (txStore ws (txStore ws l off p) y2 p).length d2)) := ⟨_, rfl⟩
      replace hW11 := Lib.hid hW11
      go_simp
      clear c_B1_0 f_B1_0 c_B1_1 f_B1_1 l_B1 c_B2_0 f_B2_0 c_B2_1 f_B2_1 c_B2_2 f_B2_2 l_B2 c_B3_0 f_B3_0 c_B3_1 f_B3_1 l_B3
      rw [← hW11.out]
      replace hX1 := Lib.hid (hX1.out.box hB3.out.1 (show Keeps (fun i => i = B3) W10 W11 by rw [hW11.out]; exact (keeps_setCell W10 ⟨B3, 0, none⟩ _).trans' (keeps_setCell _ ⟨B3, 1, none⟩ _)))
      replace hX2 := Lib.hid (hX2.out.box hB3.out.1 (show Keeps (fun i => i = B3) W10 W11 by rw [hW11.out]; exact (keeps_setCell W10 ⟨B3, 0, none⟩ _).trans' (keeps_setCell _ ⟨B3, 1, none⟩ _)))
      replace hst := Lib.hid (show Step _ Nil w W11 by rw [hW11.out]; exact ((hst.out.set gB3.out _ _).set gB3.out _ _))
      replace hB1 := Lib.hid (show Bx W11 Nil B1 #[.slice a1 n1 c1, .slice a2 n2 c2] 71 by rw [hW11.out]; exact ((hB1.out.other (Nat.ne_of_lt nB1B3.out) _ _).other (Nat.ne_of_lt nB1B3.out) _ _))
      replace hB2 := Lib.hid (show Bx W11 Nil B2 #[.int .u64 (s.toNat : Int), .bool u, .int .i64 o] 61 by rw [hW11.out]; exact ((hB2.out.other (Nat.ne_of_lt nB2B3.out) _ _).other (Nat.ne_of_lt nB2B3.out) _ _))
      replace hB3 := Lib.hid (show Bx W11 Nil B3 #[.slice a1 n1 c1, .slice e2 (txStore ws (txStore ws l off p) y2 p).length d2] 71 by rw [hW11.out]; exact ((hB3.out.set _ _).set _ _))
      refine hK.out _ _ (⟨hB1.out.cell 0 _ rfl, hB1.out.cell 1 _ rfl, hB2.out.cell 0 _ rfl, hB2.out.cell 1 _ rfl, hB2.out.cell 2 _ rfl⟩) (fun hHeld => ?_)
      clear hK K
      try simp only [Act.put, List.getElem_toArray, List.getElem_cons_succ, List.getElem_cons_zero, List.setIfInBounds_toArray, List.set_cons_zero, List.set_cons_succ]
      refine wpAnyH_take (i := 14) (oi := _) (v := ?m10_v) rfl (by kernel_rfl) (by kernel_rfl) (by kernel_rfl) (fun _ _ _ h => h) (Or.inl ⟨by kernel_rfl, ?m10_h⟩) hHeld ?m10_r
      case m10_h => (intro w hSw; (try dsimp only at hSw); go_simp; try with_reducible rfl)
      try simp only [Act.put, List.getElem_toArray, List.getElem_cons_succ, List.getElem_cons_zero, List.setIfInBounds_toArray, List.set_cons_zero, List.set_cons_succ]
      refine wpAnyH_done (by kernel_rfl) ?_ _
      clear hHeld
      have c_B1_0 := hB1.out.cell 0 _ rfl
      have f_B1_0 := hB1.out.frz 0
      have c_B1_1 := hB1.out.cell 1 _ rfl
      have f_B1_1 := hB1.out.frz 1
      have l_B1 := hB1.out.lt
      have c_B2_0 := hB2.out.cell 0 _ rfl
      have f_B2_0 := hB2.out.frz 0
      have c_B2_1 := hB2.out.cell 1 _ rfl
      have f_B2_1 := hB2.out.frz 1
      have c_B2_2 := hB2.out.cell 2 _ rfl
      have f_B2_2 := hB2.out.frz 2
      have l_B2 := hB2.out.lt
      have c_B3_0 := hB3.out.cell 0 _ rfl
      have f_B3_0 := hB3.out.frz 0
      have c_B3_1 := hB3.out.cell 1 _ rfl
      have f_B3_1 := hB3.out.frz 1
      have l_B3 := hB3.out.lt
      go_wp2_with fail
      clear c_B1_0 f_B1_0 c_B1_1 f_B1_1 l_B1 c_B2_0 f_B2_0 c_B2_1 f_B2_1 c_B2_2 f_B2_2 l_B2 c_B3_0 f_B3_0 c_B3_1 f_B3_1 l_B3
      refine bodyPost_ret (results_row_tmp rfl rfl hB3.out.1 Tryz.underlying71 rfl (by kernel_rfl)) rfl ?_
      have hw := hX2.out
      rw [zy2.out, zy1.out] at hw ⊢
      exact ⟨e2, d2, rfl, hw, hst.out.keeps⟩
end Go.Proofs.YtefpbljekfkefaaGreat
