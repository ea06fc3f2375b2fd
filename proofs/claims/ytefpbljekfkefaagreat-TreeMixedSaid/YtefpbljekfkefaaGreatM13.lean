/- PhysFind, PhysB: merged. -/
import Derived.Test.YtefpbljekfkefaaGreatM12
/- phys.Find. -/
namespace Go.Proofs.YtefpbljekfkefaaGreat
open Go.RowKit

def findP (payload : UInt64) (x : BlockV) : Bool := x.tag.used && x.off + 32 == payload
def findO (N : Nat) (f : UInt64 → UInt64) (payload : UInt64) : Option BlockV := (walkL N f).find? (findP payload)
def blockOf (o : Option BlockV) : BlockV := o.getD BlockV.zero
theorem BlockV.cells_def (a s : UInt64) (u : Bool) (o : Int) (n : UInt64) : BlockV.cells ⟨a, ⟨s, u, o⟩, n⟩ = #[.int .u64 (a.toNat : Int), .int .u64 (s.toNat : Int), .bool u, .int .i64 o, .int .u64 (n.toNat : Int)] := rfl
theorem find_idx {p : BlockV → Bool} {l : List BlockV} : (idxP p l = -1 ∧ l.find? p = none) ∨ ∃ k x, idxP p l = ((k : Nat) : Int) ∧ l[k]? = some x ∧ l.find? p = some x := by
  by_cases h : ∃ x ∈ l, p x = true
  · right
    cases e : l.findIdx? p with
    | none =>
      rw [List.findIdx?_eq_none_iff] at e
      obtain ⟨x, hx, hp⟩ := h
      rw [e x hx] at hp; cases hp
    | some k =>
      obtain ⟨hk, h1, h2⟩ := List.findIdx?_eq_some_iff_getElem.1 e
      refine ⟨k, l[k], by unfold idxP; rw [e], List.getElem?_eq_getElem hk, ?_⟩
      rw [List.find?_eq_some_iff_getElem]
      exact ⟨h1, k, hk, rfl, fun j hj => by have := h2 j hj; simpa using this⟩
  · left
    have h' : ∀ x ∈ l, p x = false := fun x hx => by
      cases e : p x with
      | false => rfl
      | true => exact absurd ⟨x, hx, e⟩ h
    refine ⟨idxP_none (fun j y _ hy => h' y (List.mem_of_getElem? hy)), ?_⟩
    rw [List.find?_eq_none]
    intro x hx; rw [h' x hx]; decide

set_option maxRecDepth 100000 in
set_option maxHeartbeats 4000000 in
theorem Find1_any {w : World} {P : Nat} {payload : UInt64} (hP : Bx w Nil P #[.int .u64 (payload.toNat : Int)] 25) (x : BlockV) :
    Calls Tryz.prog 79 #[.agg x.cells, .pointer (some ⟨P, 0, none⟩)] w fun e w' => e = .returned (.bool (findP payload x)) ∧ Keeps Nil w w' := by
  obtain ⟨bo, ⟨bs, bu, bw⟩, bl⟩ := x
  rw [BlockV.cells_def]
  have hR : findP payload ⟨bo, ⟨bs, bu, bw⟩, bl⟩ = (bu && bo + 32 == payload) := rfl
  rw [hR]
  replace hP := Lib.hid hP
  clear hR
  cases bu with
  | false =>
    have hst := Lib.hid (Step.refl Nil w)
    go_enter Tryz.func79, Tryz.ntmps79
    have c_P_0 := hP.out.cell 0 _ rfl
    have f_P_0 := hP.out.frz 0
    have l_P := hP.out.lt
    obtain ⟨W1, hW1⟩ : ∃ W, W = w.alloc (.cells #[.int .u64 (bo.toNat : Int), .int .u64 (bs.toNat : Int), .bool false, .int .i64 bw, .int .u64 (bl.toNat : Int)] 37) := ⟨_, rfl⟩
    obtain ⟨B1, eB1⟩ : ∃ B, B = w.heap.size := ⟨_, rfl⟩
    replace hW1 := Lib.hid hW1
    replace eB1 := Lib.hid eB1
    go_wp2_with fail
    go_ret
    clear c_P_0 f_P_0 l_P
    rw [← hW1.out]
    try rw [← eB1.out]
    have k1 : Keeps Nil w W1 := by rw [hW1.out]; exact alloc_keeps _ _
    have e0B1 : B1 = w.heap.size := by rw [eB1.out]
    have hB1 := Lib.hid (show Bx W1 Nil B1 #[.int .u64 (bo.toNat : Int), .int .u64 (bs.toNat : Int), .bool false, .int .i64 bw, .int .u64 (bl.toNat : Int)] 37 by rw [hW1.out]; exact Bx.new Nil.lt _ _ e0B1)
    have gB1 := Lib.hid (show w.heap.size ≤ B1 by rw [e0B1]; exact hst.out.keeps.size)
    have nPB1 := Lib.hid (show P < B1 by rw [e0B1]; exact hP.out.lt)
    replace hst := Lib.hid (hst.out.nil k1)
    replace hP := Lib.hid (hP.out.nil k1)
    clear k1 e0B1
    exact ⟨rfl, hst.out.keeps⟩
  | true =>
    by_cases h : bo + 32 = payload
    · have H := Lib.hid h
      have hr : (true && bo + 32 == payload) = true := by simp [h]
      rw [hr]
      clear h hr
      have hst := Lib.hid (Step.refl Nil w)
      go_enter Tryz.func79, Tryz.ntmps79
      obtain ⟨y1, zy1⟩ : ∃ y : UInt64, y = bo + 32 := ⟨_, rfl⟩
      have q1 : IntKind.u64.wrap ((bo.toNat : Int) + 32) = (y1.toNat : Int) := by rw [zy1]; exact u64_add bo 32
      replace zy1 := Lib.hid zy1
      have d1 : (((y1.toNat : Int) : Int) == ((payload.toNat : Int) : Int)) = true := (same_u64 (a := y1) (b := payload) (by rw [zy1.out]; exact H.out)).2
      have c_P_0 := hP.out.cell 0 _ rfl
      have f_P_0 := hP.out.frz 0
      have l_P := hP.out.lt
      obtain ⟨W1, hW1⟩ : ∃ W, W = w.alloc (.cells #[.int .u64 (bo.toNat : Int), .int .u64 (bs.toNat : Int), .bool true, .int .i64 bw, .int .u64 (bl.toNat : Int)] 37) := ⟨_, rfl⟩
      obtain ⟨B1, eB1⟩ : ∃ B, B = w.heap.size := ⟨_, rfl⟩
      replace hW1 := Lib.hid hW1
      replace eB1 := Lib.hid eB1
      go_wp2_with fail
      go_ret
      clear c_P_0 f_P_0 l_P
      rw [← hW1.out]
      try rw [← eB1.out]
      have k1 : Keeps Nil w W1 := by rw [hW1.out]; exact alloc_keeps _ _
      have e0B1 : B1 = w.heap.size := by rw [eB1.out]
      have hB1 := Lib.hid (show Bx W1 Nil B1 #[.int .u64 (bo.toNat : Int), .int .u64 (bs.toNat : Int), .bool true, .int .i64 bw, .int .u64 (bl.toNat : Int)] 37 by rw [hW1.out]; exact Bx.new Nil.lt _ _ e0B1)
      have gB1 := Lib.hid (show w.heap.size ≤ B1 by rw [e0B1]; exact hst.out.keeps.size)
      have nPB1 := Lib.hid (show P < B1 by rw [e0B1]; exact hP.out.lt)
      replace hst := Lib.hid (hst.out.nil k1)
      replace hP := Lib.hid (hP.out.nil k1)
      clear k1 e0B1
      exact ⟨rfl, hst.out.keeps⟩
    · have H := Lib.hid h
      have hr : (true && bo + 32 == payload) = false := by simp [h]
      rw [hr]
      clear h hr
      have hst := Lib.hid (Step.refl Nil w)
      go_enter Tryz.func79, Tryz.ntmps79
      obtain ⟨y1, zy1⟩ : ∃ y : UInt64, y = bo + 32 := ⟨_, rfl⟩
      have q1 : IntKind.u64.wrap ((bo.toNat : Int) + 32) = (y1.toNat : Int) := by rw [zy1]; exact u64_add bo 32
      replace zy1 := Lib.hid zy1
      have d1 : (((y1.toNat : Int) : Int) == ((payload.toNat : Int) : Int)) = false := (unlike_u64 (a := y1) (b := payload) (by rw [zy1.out]; exact H.out)).2
      have c_P_0 := hP.out.cell 0 _ rfl
      have f_P_0 := hP.out.frz 0
      have l_P := hP.out.lt
      obtain ⟨W1, hW1⟩ : ∃ W, W = w.alloc (.cells #[.int .u64 (bo.toNat : Int), .int .u64 (bs.toNat : Int), .bool true, .int .i64 bw, .int .u64 (bl.toNat : Int)] 37) := ⟨_, rfl⟩
      obtain ⟨B1, eB1⟩ : ∃ B, B = w.heap.size := ⟨_, rfl⟩
      replace hW1 := Lib.hid hW1
      replace eB1 := Lib.hid eB1
      go_wp2_with fail
      go_ret
      clear c_P_0 f_P_0 l_P
      rw [← hW1.out]
      try rw [← eB1.out]
      have k1 : Keeps Nil w W1 := by rw [hW1.out]; exact alloc_keeps _ _
      have e0B1 : B1 = w.heap.size := by rw [eB1.out]
      have hB1 := Lib.hid (show Bx W1 Nil B1 #[.int .u64 (bo.toNat : Int), .int .u64 (bs.toNat : Int), .bool true, .int .i64 bw, .int .u64 (bl.toNat : Int)] 37 by rw [hW1.out]; exact Bx.new Nil.lt _ _ e0B1)
      have gB1 := Lib.hid (show w.heap.size ≤ B1 by rw [e0B1]; exact hst.out.keeps.size)
      have nPB1 := Lib.hid (show P < B1 by rw [e0B1]; exact hP.out.lt)
      replace hst := Lib.hid (hst.out.nil k1)
      replace hP := Lib.hid (hP.out.nil k1)
      clear k1 e0B1
      exact ⟨rfl, hst.out.keeps⟩
set_option maxRecDepth 100000 in
set_option maxHeartbeats 4000000 in
theorem Find_any {R : Nat → Prop} {a : Option Addr} {f : UInt64 → UInt64} {N : Nat} {w : World} (h : ReadsK R (.pointer a) f N w) (hR : ∀ k, R k → k < w.heap.size) (hN : N ≤ 1048576) (payload : UInt64) (x : Int) (hx : x = (payload.toNat : Int)) :
    Calls Tryz.prog 28 #[.pointer a, .int .u64 x] w fun e w' => e = .returned (.tuple #[.agg (blockOf (findO N f payload)).cells, .bool (findO N f payload).isSome]) ∧ Keeps Nil w w' := by
  subst hx
  obtain ⟨L, hL⟩ : ∃ L, L = walkL N f := ⟨_, rfl⟩
  obtain ⟨cd, hcd⟩ : ∃ cd, cd = codeOf (walkB N f) := ⟨_, rfl⟩
  have ho : findO N f payload = L.find? (findP payload) := by unfold findO; rw [hL]
  rw [ho]
  have hT := Lib.hid h
  have HR := Lib.hid hR
  have HC := Lib.hid (And.intro hL hcd)
  clear h hR hL hcd ho
  rcases find_idx (p := findP payload) (l := L) with ⟨hi, hf⟩ | ⟨k, x, hi, hlk, hf⟩
  · have HI := Lib.hid hi
    have HF := Lib.hid hf
    clear hi hf
    have hst := Lib.hid (Step.refl Nil w)
    go_enter Tryz.func28, Tryz.ntmps28
    obtain ⟨W1, hW1⟩ : ∃ W, W = w.alloc (.cells #[.int .u64 (payload.toNat : Int)] 25) := ⟨_, rfl⟩
    obtain ⟨B1, eB1⟩ : ∃ B, B = w.heap.size := ⟨_, rfl⟩
    replace hW1 := Lib.hid hW1
    replace eB1 := Lib.hid eB1
    obtain ⟨W2, hW2⟩ : ∃ W, W = W1.alloc (.cells #[.int .u64 0, .int .u64 0, .bool false, .int .i64 0, .int .u64 0] 37) := ⟨_, rfl⟩
    obtain ⟨B2, eB2⟩ : ∃ B, B = w.heap.size + 1 := ⟨_, rfl⟩
    replace hW2 := Lib.hid hW2
    replace eB2 := Lib.hid eB2
    go_wp2_with fail
    rw [← hW1.out]
    rw [← hW2.out]
    try rw [← eB2.out]
    try rw [← eB1.out]
    have k1 : Keeps Nil w W1 := by rw [hW1.out]; exact alloc_keeps _ _
    have e0B1 : B1 = w.heap.size := by rw [eB1.out]
    have hB1 := Lib.hid (show Bx W1 Nil B1 #[.int .u64 (payload.toNat : Int)] 25 by rw [hW1.out]; exact Bx.new Nil.lt _ _ e0B1)
    have gB1 := Lib.hid (show w.heap.size ≤ B1 by rw [e0B1]; exact hst.out.keeps.size)
    replace hst := Lib.hid (hst.out.nil k1)
    clear k1 e0B1
    have k2 : Keeps Nil W1 W2 := by rw [hW2.out]; exact alloc_keeps _ _
    have e0B2 : B2 = W1.heap.size := by rw [eB2.out, hW1.out]; simp []
    have hB2 := Lib.hid (show Bx W2 Nil B2 #[.int .u64 0, .int .u64 0, .bool false, .int .i64 0, .int .u64 0] 37 by rw [hW2.out]; exact Bx.new Nil.lt _ _ e0B2)
    have gB2 := Lib.hid (show w.heap.size ≤ B2 by rw [e0B2]; exact hst.out.keeps.size)
    have nB1B2 := Lib.hid (show B1 < B2 by rw [e0B2]; exact hB1.out.lt)
    replace hst := Lib.hid (hst.out.nil k2)
    replace hB1 := Lib.hid (hB1.out.nil k2)
    clear k2 e0B2
    refine (Walk_any (hT.out.keeps HR.out hst.out.keeps) (fun k e => Nat.lt_of_lt_of_le (HR.out k e) hst.out.keeps.size) hN).mono ?_
    rintro _ W3 ⟨v, rfl, ho, kn⟩
    rw [← HC.out.1] at ho
    rw [← HC.out.2]
    have hV := Lib.hid (ho.view (S := Nil) (fun _ _ e => e))
    clear ho
    obtain ⟨al, cl, rfl, _⟩ := hV.out.val
    have hk2 := Lib.hid (Keeps.refl Nil W3)
    replace hst := Lib.hid (hst.out.nil kn)
    replace hB1 := Lib.hid (hB1.out.nil kn)
    replace hB2 := Lib.hid (hB2.out.nil kn)
    clear kn
    have c_B1_0 := hB1.out.cell 0 _ rfl
    have f_B1_0 := hB1.out.frz 0
    have l_B1 := hB1.out.lt
    have c_B2_0 := hB2.out.cell 0 _ rfl
    have f_B2_0 := hB2.out.frz 0
    have c_B2_1 := hB2.out.cell 1 _ rfl
    have f_B2_1 := hB2.out.frz 1
    have c_B2_2 := hB2.out.cell 2 _ rfl
    have f_B2_2 := hB2.out.frz 2
    have c_B2_3 := hB2.out.cell 3 _ rfl
    have f_B2_3 := hB2.out.frz 3
    have c_B2_4 := hB2.out.cell 4 _ rfl
    have f_B2_4 := hB2.out.frz 4
    have l_B2 := hB2.out.lt
    go_wp2_with fail
    clear c_B1_0 f_B1_0 l_B1 c_B2_0 f_B2_0 c_B2_1 f_B2_1 c_B2_2 f_B2_2 c_B2_3 f_B2_3 c_B2_4 f_B2_4 l_B2
    refine (IndexFunc_any (hV.out.keeps_nil hk2.out) 79 #[.pointer (some ⟨B1, 0, none⟩)] (findP payload) (enters_of Tryz.func79 (by kernel_rfl) rfl) (fun w2 y k2 => Find1_any (hB1.out.nil k2) y)).mono ?_
    rintro _ W4 ⟨rfl, kn⟩
    rw [HI.out]
    replace hst := Lib.hid (hst.out.nil kn)
    replace hk2 := Lib.hid (hk2.out.trans' kn)
    replace hB1 := Lib.hid (hB1.out.nil kn)
    replace hB2 := Lib.hid (hB2.out.nil kn)
    clear kn
    have c_B1_0 := hB1.out.cell 0 _ rfl
    have f_B1_0 := hB1.out.frz 0
    have l_B1 := hB1.out.lt
    have c_B2_0 := hB2.out.cell 0 _ rfl
    have f_B2_0 := hB2.out.frz 0
    have c_B2_1 := hB2.out.cell 1 _ rfl
    have f_B2_1 := hB2.out.frz 1
    have c_B2_2 := hB2.out.cell 2 _ rfl
    have f_B2_2 := hB2.out.frz 2
    have c_B2_3 := hB2.out.cell 3 _ rfl
    have f_B2_3 := hB2.out.frz 3
    have c_B2_4 := hB2.out.cell 4 _ rfl
    have f_B2_4 := hB2.out.frz 4
    have l_B2 := hB2.out.lt
    obtain ⟨W5, hW5⟩ : ∃ W, W = (((((W4.setCell ⟨B2, 0, none⟩ (.int .u64 0)).setCell ⟨B2, 1, none⟩ (.int .u64 0)).setCell ⟨B2, 2, none⟩ (.bool false)).setCell ⟨B2, 3, none⟩ (.int .i64 0)).setCell ⟨B2, 4, none⟩ (.int .u64 0)) := ⟨_, rfl⟩
    replace hW5 := Lib.hid hW5
    go_wp2_with fail
    clear c_B1_0 f_B1_0 l_B1 c_B2_0 f_B2_0 c_B2_1 f_B2_1 c_B2_2 f_B2_2 c_B2_3 f_B2_3 c_B2_4 f_B2_4 l_B2
    rw [← hW5.out]
    clear hk2
    replace hst := Lib.hid (show Step _ Nil w W5 by rw [hW5.out]; exact (((((hst.out.set gB2.out _ _).set gB2.out _ _).set gB2.out _ _).set gB2.out _ _).set gB2.out _ _))
    replace hB1 := Lib.hid (show Bx W5 Nil B1 #[.int .u64 (payload.toNat : Int)] 25 by rw [hW5.out]; exact (((((hB1.out.other (Nat.ne_of_lt nB1B2.out) _ _).other (Nat.ne_of_lt nB1B2.out) _ _).other (Nat.ne_of_lt nB1B2.out) _ _).other (Nat.ne_of_lt nB1B2.out) _ _).other (Nat.ne_of_lt nB1B2.out) _ _))
    replace hB2 := Lib.hid (show Bx W5 Nil B2 #[.int .u64 0, .int .u64 0, .bool false, .int .i64 0, .int .u64 0] 37 by rw [hW5.out]; exact (((((hB2.out.set _ _).set _ _).set _ _).set _ _).set _ _))
    refine bodyPost_ret (results_row_tmp rfl rfl hB2.out.1 Tryz.underlying37 rfl (by kernel_rfl)) rfl ?_
    exact ⟨by rw [HF.out]; rfl, hst.out.keeps⟩
  · have HI := Lib.hid hi
    have HF := Lib.hid (And.intro hf hlk)
    clear hi hf hlk
    obtain ⟨bo, ⟨bs, bu, bw⟩, bl⟩ := x
    have hst := Lib.hid (Step.refl Nil w)
    go_enter Tryz.func28, Tryz.ntmps28
    obtain ⟨W1, hW1⟩ : ∃ W, W = w.alloc (.cells #[.int .u64 (payload.toNat : Int)] 25) := ⟨_, rfl⟩
    obtain ⟨B1, eB1⟩ : ∃ B, B = w.heap.size := ⟨_, rfl⟩
    replace hW1 := Lib.hid hW1
    replace eB1 := Lib.hid eB1
    obtain ⟨W2, hW2⟩ : ∃ W, W = W1.alloc (.cells #[.int .u64 0, .int .u64 0, .bool false, .int .i64 0, .int .u64 0] 37) := ⟨_, rfl⟩
    obtain ⟨B2, eB2⟩ : ∃ B, B = w.heap.size + 1 := ⟨_, rfl⟩
    replace hW2 := Lib.hid hW2
    replace eB2 := Lib.hid eB2
    go_wp2_with fail
    rw [← hW1.out]
    rw [← hW2.out]
    try rw [← eB2.out]
    try rw [← eB1.out]
    have k1 : Keeps Nil w W1 := by rw [hW1.out]; exact alloc_keeps _ _
    have e0B1 : B1 = w.heap.size := by rw [eB1.out]
    have hB1 := Lib.hid (show Bx W1 Nil B1 #[.int .u64 (payload.toNat : Int)] 25 by rw [hW1.out]; exact Bx.new Nil.lt _ _ e0B1)
    have gB1 := Lib.hid (show w.heap.size ≤ B1 by rw [e0B1]; exact hst.out.keeps.size)
    replace hst := Lib.hid (hst.out.nil k1)
    clear k1 e0B1
    have k2 : Keeps Nil W1 W2 := by rw [hW2.out]; exact alloc_keeps _ _
    have e0B2 : B2 = W1.heap.size := by rw [eB2.out, hW1.out]; simp []
    have hB2 := Lib.hid (show Bx W2 Nil B2 #[.int .u64 0, .int .u64 0, .bool false, .int .i64 0, .int .u64 0] 37 by rw [hW2.out]; exact Bx.new Nil.lt _ _ e0B2)
    have gB2 := Lib.hid (show w.heap.size ≤ B2 by rw [e0B2]; exact hst.out.keeps.size)
    have nB1B2 := Lib.hid (show B1 < B2 by rw [e0B2]; exact hB1.out.lt)
    replace hst := Lib.hid (hst.out.nil k2)
    replace hB1 := Lib.hid (hB1.out.nil k2)
    clear k2 e0B2
    refine (Walk_any (hT.out.keeps HR.out hst.out.keeps) (fun k e => Nat.lt_of_lt_of_le (HR.out k e) hst.out.keeps.size) hN).mono ?_
    rintro _ W3 ⟨v, rfl, ho, kn⟩
    rw [← HC.out.1] at ho
    rw [← HC.out.2]
    have hV := Lib.hid (ho.view (S := Nil) (fun _ _ e => e))
    clear ho
    obtain ⟨gb, go, cl, rfl, _, _, hgb, _, hcell⟩ := hV.out.pos (Nat.lt_of_le_of_lt (Nat.zero_le _) (List.getElem?_eq_some_iff.1 HF.out.2).1)
    have HV2 := Lib.hid hcell
    have HGB := Lib.hid hgb
    have hkl : (k : Int) < L.length := by have := (List.getElem?_eq_some_iff.1 HF.out.2).1; omega
    clear hcell hgb
    have hk2 := Lib.hid (Keeps.refl Nil W3)
    replace hst := Lib.hid (hst.out.nil kn)
    replace hB1 := Lib.hid (hB1.out.nil kn)
    replace hB2 := Lib.hid (hB2.out.nil kn)
    clear kn
    have c_B1_0 := hB1.out.cell 0 _ rfl
    have f_B1_0 := hB1.out.frz 0
    have l_B1 := hB1.out.lt
    have c_B2_0 := hB2.out.cell 0 _ rfl
    have f_B2_0 := hB2.out.frz 0
    have c_B2_1 := hB2.out.cell 1 _ rfl
    have f_B2_1 := hB2.out.frz 1
    have c_B2_2 := hB2.out.cell 2 _ rfl
    have f_B2_2 := hB2.out.frz 2
    have c_B2_3 := hB2.out.cell 3 _ rfl
    have f_B2_3 := hB2.out.frz 3
    have c_B2_4 := hB2.out.cell 4 _ rfl
    have f_B2_4 := hB2.out.frz 4
    have l_B2 := hB2.out.lt
    have e_v := View.cellB HV2.out k _ HF.out.2
    have e_0 := (hk2.out.cell HGB.out (fun e => e) _).trans e_v.1
    have e_1 := (hk2.out.cell HGB.out (fun e => e) _).trans e_v.2.1
    have e_2 := (hk2.out.cell HGB.out (fun e => e) _).trans e_v.2.2.1
    have e_3 := (hk2.out.cell HGB.out (fun e => e) _).trans e_v.2.2.2.1
    have e_4 := (hk2.out.cell HGB.out (fun e => e) _).trans e_v.2.2.2.2
    go_wp2_with fail
    clear c_B1_0 f_B1_0 l_B1 c_B2_0 f_B2_0 c_B2_1 f_B2_1 c_B2_2 f_B2_2 c_B2_3 f_B2_3 c_B2_4 f_B2_4 l_B2 e_v e_0 e_1 e_2 e_3 e_4
    refine (IndexFunc_any (hV.out.keeps_nil hk2.out) 79 #[.pointer (some ⟨B1, 0, none⟩)] (findP payload) (enters_of Tryz.func79 (by kernel_rfl) rfl) (fun w2 y k2 => Find1_any (hB1.out.nil k2) y)).mono ?_
    rintro _ W4 ⟨rfl, kn⟩
    rw [HI.out]
    replace hst := Lib.hid (hst.out.nil kn)
    replace hk2 := Lib.hid (hk2.out.trans' kn)
    replace hB1 := Lib.hid (hB1.out.nil kn)
    replace hB2 := Lib.hid (hB2.out.nil kn)
    clear kn
    have c_B1_0 := hB1.out.cell 0 _ rfl
    have f_B1_0 := hB1.out.frz 0
    have l_B1 := hB1.out.lt
    have c_B2_0 := hB2.out.cell 0 _ rfl
    have f_B2_0 := hB2.out.frz 0
    have c_B2_1 := hB2.out.cell 1 _ rfl
    have f_B2_1 := hB2.out.frz 1
    have c_B2_2 := hB2.out.cell 2 _ rfl
    have f_B2_2 := hB2.out.frz 2
    have c_B2_3 := hB2.out.cell 3 _ rfl
    have f_B2_3 := hB2.out.frz 3
    have c_B2_4 := hB2.out.cell 4 _ rfl
    have f_B2_4 := hB2.out.frz 4
    have l_B2 := hB2.out.lt
    have e_v := View.cellB HV2.out k _ HF.out.2
    have e_0 := (hk2.out.cell HGB.out (fun e => e) _).trans e_v.1
    have e_1 := (hk2.out.cell HGB.out (fun e => e) _).trans e_v.2.1
    have e_2 := (hk2.out.cell HGB.out (fun e => e) _).trans e_v.2.2.1
    have e_3 := (hk2.out.cell HGB.out (fun e => e) _).trans e_v.2.2.2.1
    have e_4 := (hk2.out.cell HGB.out (fun e => e) _).trans e_v.2.2.2.2
    obtain ⟨W5, hW5⟩ : ∃ W, W = (((((W4.setCell ⟨B2, 0, none⟩ (.int .u64 (bo.toNat : Int))).setCell ⟨B2, 1, none⟩ (.int .u64 (bs.toNat : Int))).setCell ⟨B2, 2, none⟩ (.bool bu)).setCell ⟨B2, 3, none⟩ (.int .i64 bw)).setCell ⟨B2, 4, none⟩ (.int .u64 (bl.toNat : Int))) := ⟨_, rfl⟩
    replace hW5 := Lib.hid hW5
    go_wp2_with fail
    clear c_B1_0 f_B1_0 l_B1 c_B2_0 f_B2_0 c_B2_1 f_B2_1 c_B2_2 f_B2_2 c_B2_3 f_B2_3 c_B2_4 f_B2_4 l_B2 e_v e_0 e_1 e_2 e_3 e_4
    rw [← hW5.out]
    clear hk2
    replace hst := Lib.hid (show Step _ Nil w W5 by rw [hW5.out]; exact (((((hst.out.set gB2.out _ _).set gB2.out _ _).set gB2.out _ _).set gB2.out _ _).set gB2.out _ _))
    replace hB1 := Lib.hid (show Bx W5 Nil B1 #[.int .u64 (payload.toNat : Int)] 25 by rw [hW5.out]; exact (((((hB1.out.other (Nat.ne_of_lt nB1B2.out) _ _).other (Nat.ne_of_lt nB1B2.out) _ _).other (Nat.ne_of_lt nB1B2.out) _ _).other (Nat.ne_of_lt nB1B2.out) _ _).other (Nat.ne_of_lt nB1B2.out) _ _))
    replace hB2 := Lib.hid (show Bx W5 Nil B2 #[.int .u64 (bo.toNat : Int), .int .u64 (bs.toNat : Int), .bool bu, .int .i64 bw, .int .u64 (bl.toNat : Int)] 37 by rw [hW5.out]; exact (((((hB2.out.set _ _).set _ _).set _ _).set _ _).set _ _))
    refine bodyPost_ret (results_row_tmp rfl rfl hB2.out.1 Tryz.underlying37 rfl (by kernel_rfl)) rfl ?_
    exact ⟨by rw [HF.out.1]; rfl, hst.out.keeps⟩
end Go.Proofs.YtefpbljekfkefaaGreat

/- Lists of blocks: the program's and the document's. -/
namespace Go.Proofs.YtefpbljekfkefaaGreat
open Go.RowKit

theorem View.toB {S : Nat → Prop} {w : World} {v : Value} {l : List BlockV} (h : View kRB S w v l) : View kB S w v l := h
def offP (off : UInt64) (x : BlockV) : Bool := x.off == off

/-- the block so many places behind one -/
def besideO (l : List BlockV) (off : UInt64) (d : Int) : Option BlockV := if idxP (offP off) l < 0 ∨ idxP (offP off) l + d < 0 ∨ (l.length : Int) ≤ idxP (offP off) l + d then none else l[(idxP (offP off) l + d).toNat]?
theorem idx_cases (p : BlockV → Bool) (l : List BlockV) : idxP p l = -1 ∨ ∃ k : Nat, idxP p l = (k : Int) ∧ k < l.length := by
  rcases find_idx (p := p) (l := l) with ⟨h, _⟩ | ⟨k, x, h, hx, _⟩
  · exact .inl h
  · exact .inr ⟨k, h, (List.getElem?_eq_some_iff.1 hx).1⟩

end Go.Proofs.YtefpbljekfkefaaGreat
