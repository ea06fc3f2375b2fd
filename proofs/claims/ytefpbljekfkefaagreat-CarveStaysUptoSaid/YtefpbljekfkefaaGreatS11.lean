/- PhysFind, PhysB, PhysRW, TagWR, LayR, Open6, LaidP, TreeK, CmpL: written short. -/
import Derived.Test.YtefpbljekfkefaaGreatS10
import Derived.Test.YtefpbljekfkefaaGreatS01
import Derived.Test.YtefpbljekfkefaaGreatS05
import Derived.Test.YtefpbljekfkefaaGreatS06
import Derived.Test.YtefpbljekfkefaaGreatS04
set_option maxRecDepth 100000
set_option maxHeartbeats 8000000
namespace Go.Proofs.YtefpbljekfkefaaGreat
section
open Go.RowKit
def findP (payload : UInt64) (x : BlockV) : Bool := x.tag.used && x.off + 32 == payload
def findO (N : Nat) (f : UInt64 → UInt64) (payload : UInt64) : Option BlockV := (walkL N f).find? (findP payload)
def blockOf (o : Option BlockV) : BlockV := o.getD BlockV.zero
theorem BlockV.cells_def (a s : UInt64) (u : Bool) (o : Int) (n : UInt64) : BlockV.cells ⟨a, ⟨s, u, o⟩, n⟩ = #[.int .u64 (a.toNat : Int), .int .u64 (s.toNat : Int), .bool u, .int .i64 o, .int .u64 (n.toNat : Int)] := rfl
theorem find_idx {p : BlockV → Bool} {l : List BlockV} : (idxP p l = -1 ∧ l.find? p = none) ∨ ∃ k x, idxP p l = ((k : Nat) : Int) ∧ l[k]? = some x ∧ l.find? p = some x := by
 by_cases h : ∃ x ∈ l, p x = true
 ·right
  cases e : l.findIdx? p with
  | none =>
    rw [List.findIdx?_eq_none_iff] at e
    obtain ⟨x, hx, hp⟩ := h
    rw [e x hx] at hp; cases hp
  | some k =>
    obtain ⟨hk, h1, h2⟩ := List.findIdx?_eq_some_iff_getElem.1 e
    refine ⟨k, l[k], by unfold idxP; rw [e], List.getElem?_eq_getElem hk, ?_⟩
    rw [List.find?_eq_some_iff_getElem]
    exact ⟨h1, k, hk, rfl, fun j hj => by have := h2 j hj; simpa using this⟩
 ·left
  have h' : ∀ x ∈ l, p x = false := fun x hx => by
    cases e : p x with
    | false => rfl
    | true => exact absurd ⟨x, hx, e⟩ h
  refine ⟨idxP_none (fun j y _ hy => h' y (List.mem_of_getElem? hy)), ?_⟩
  rw [List.find?_eq_none]
  intro x hx; rw [h' x hx]; decide
theorem Find1_any {w : World} {P : Nat} {payload : UInt64} (hP : Bx w Nil P #[.int .u64 (payload.toNat : Int)] 25) (x : BlockV) :
   Calls Tryz.prog 79 #[.agg x.cells, .pointer (some ⟨P, 0, none⟩)] w fun e w' => e = .returned (.bool (findP payload x)) ∧ Keeps Nil w w' := by
 obtain ⟨bo, ⟨bs, bu, bw⟩, bl⟩ := x
 rw [BlockV.cells_def]
 have hR : findP payload ⟨bo, ⟨bs, bu, bw⟩, bl⟩ = (bu && bo + 32 == payload) := rfl
 rw [hR]
 replace hP := qH hP
 clear hR
 cases bu with
 | false =>
   have hst := qH (Step.refl Nil w)
   go_enter Tryz.func79, Tryz.ntmps79
   have c_P_0 := hP.out.cell 0 _ rfl
   have f_P_0 := hP.out.frz 0
   have l_P := hP.out.lt
   obtain ⟨W1, hW1⟩ := nm (w.alloc (.cells #[.int .u64 (bo.toNat : Int), .int .u64 (bs.toNat : Int), .bool false, .int .i64 bw, .int .u64 (bl.toNat : Int)] 37))
   obtain ⟨B1, eB1⟩ := nm (w.heap.size)
   go_wp2_with fail
   go_ret
   clear c_P_0 f_P_0 l_P
   rw [← hW1.out]
   try rw [← eB1.out]
   have k1 := kA hW1
   have e0B1 := eB1.out
   have hB1 := zB hW1 (Bx.new Nil.lt _ _ e0B1)
   have gB1 := gZ e0B1 hst
   have nPB1 := qH (show P < B1 by rw [e0B1]; exact hP.out.lt)
   replace hst := sN hst k1
   replace hP := qH (hP.out.nil k1)
   clear k1 e0B1
   exact ⟨rfl, hst.out.keeps⟩
 | true =>
   by_cases h : bo + 32 = payload
   ·have H := qH h
    have hr : (true && bo + 32 == payload) = true := by simp [h]
    rw [hr]
    clear h hr
    have hst := qH (Step.refl Nil w)
    go_enter Tryz.func79, Tryz.ntmps79
    obtain ⟨y1, zy1⟩ : ∃ y : UInt64, y = bo + 32 := ⟨_, rfl⟩
    have q1 : IntKind.u64.wrap ((bo.toNat : Int) + 32) = (y1.toNat : Int) := by rw [zy1]; exact u64_add bo 32
    replace zy1 := qH zy1
    have d1 : (((y1.toNat : Int) : Int) == ((payload.toNat : Int) : Int)) = true := (same_u64 (a := y1) (b := payload) (by rw [zy1.out]; exact H.out)).2
    have c_P_0 := hP.out.cell 0 _ rfl
    have f_P_0 := hP.out.frz 0
    have l_P := hP.out.lt
    obtain ⟨W1, hW1⟩ := nm (w.alloc (.cells #[.int .u64 (bo.toNat : Int), .int .u64 (bs.toNat : Int), .bool true, .int .i64 bw, .int .u64 (bl.toNat : Int)] 37))
    obtain ⟨B1, eB1⟩ := nm (w.heap.size)
    go_wp2_with fail
    go_ret
    clear c_P_0 f_P_0 l_P
    rw [← hW1.out]
    try rw [← eB1.out]
    have k1 := kA hW1
    have e0B1 := eB1.out
    have hB1 := zB hW1 (Bx.new Nil.lt _ _ e0B1)
    have gB1 := gZ e0B1 hst
    have nPB1 := qH (show P < B1 by rw [e0B1]; exact hP.out.lt)
    replace hst := sN hst k1
    replace hP := qH (hP.out.nil k1)
    clear k1 e0B1
    exact ⟨rfl, hst.out.keeps⟩
   ·have H := qH h
    have hr : (true && bo + 32 == payload) = false := by simp [h]
    rw [hr]
    clear h hr
    have hst := qH (Step.refl Nil w)
    go_enter Tryz.func79, Tryz.ntmps79
    obtain ⟨y1, zy1⟩ : ∃ y : UInt64, y = bo + 32 := ⟨_, rfl⟩
    have q1 : IntKind.u64.wrap ((bo.toNat : Int) + 32) = (y1.toNat : Int) := by rw [zy1]; exact u64_add bo 32
    replace zy1 := qH zy1
    have d1 : (((y1.toNat : Int) : Int) == ((payload.toNat : Int) : Int)) = false := (unlike_u64 (a := y1) (b := payload) (by rw [zy1.out]; exact H.out)).2
    have c_P_0 := hP.out.cell 0 _ rfl
    have f_P_0 := hP.out.frz 0
    have l_P := hP.out.lt
    obtain ⟨W1, hW1⟩ := nm (w.alloc (.cells #[.int .u64 (bo.toNat : Int), .int .u64 (bs.toNat : Int), .bool true, .int .i64 bw, .int .u64 (bl.toNat : Int)] 37))
    obtain ⟨B1, eB1⟩ := nm (w.heap.size)
    go_wp2_with fail
    go_ret
    clear c_P_0 f_P_0 l_P
    rw [← hW1.out]
    try rw [← eB1.out]
    have k1 := kA hW1
    have e0B1 := eB1.out
    have hB1 := zB hW1 (Bx.new Nil.lt _ _ e0B1)
    have gB1 := gZ e0B1 hst
    have nPB1 := qH (show P < B1 by rw [e0B1]; exact hP.out.lt)
    replace hst := sN hst k1
    replace hP := qH (hP.out.nil k1)
    clear k1 e0B1
    exact ⟨rfl, hst.out.keeps⟩
theorem Find_any {R : Nat → Prop} {a : Option Addr} {f : UInt64 → UInt64} {N : Nat} {w : World} (h : ReadsK R (.pointer a) f N w) (hR : ∀ k, R k → k < w.heap.size) (hN : N ≤ 1048576) (payload : UInt64) (x : Int) (hx : x = (payload.toNat : Int)) :
  Calls Tryz.prog 28 #[.pointer a, .int .u64 x] w fun e w' => e = .returned (.tuple #[.agg (blockOf (findO N f payload)).cells, .bool (findO N f payload).isSome]) ∧ Keeps Nil w w' := by
 subst hx
 obtain ⟨L, hL⟩ : ∃ L, L = walkL N f := ⟨_, rfl⟩
 obtain ⟨cd, hcd⟩ : ∃ cd, cd = codeOf (walkB N f) := ⟨_, rfl⟩
 have ho : findO N f payload = L.find? (findP payload) := by unfold findO; rw [hL]
 rw [ho]
 have hT := qH h
 have HR := qH hR
 have HC := qH (And.intro hL hcd)
 clear h hR hL hcd ho
 rcases find_idx (p := findP payload) (l := L) with ⟨hi, hf⟩ | ⟨k, x, hi, hlk, hf⟩
 ·have HI := qH hi
  have HF := qH hf
  clear hi hf
  have hst := qH (Step.refl Nil w)
  go_enter Tryz.func28, Tryz.ntmps28
  obtain ⟨W1, hW1⟩ := nm (w.alloc (.cells #[.int .u64 (payload.toNat : Int)] 25))
  obtain ⟨B1, eB1⟩ := nm (w.heap.size)
  obtain ⟨W2, hW2⟩ := nm (W1.alloc (.cells #[.int .u64 0, .int .u64 0, .bool false, .int .i64 0, .int .u64 0] 37))
  obtain ⟨B2, eB2⟩ := nm (w.heap.size + 1)
  go_wp2_with fail
  rw [← hW1.out]
  rw [← hW2.out]
  try rw [← eB2.out]
  try rw [← eB1.out]
  have k1 := kA hW1
  have e0B1 := eB1.out
  have hB1 := zB hW1 (Bx.new Nil.lt _ _ e0B1)
  have gB1 := gZ e0B1 hst
  replace hst := sN hst k1
  clear k1 e0B1
  have k2 := kA hW2
  have e0B2 : B2 = W1.heap.size := by rw [eB2.out, hW1.out]; simp []
  have hB2 := zB hW2 (Bx.new Nil.lt _ _ e0B2)
  have gB2 := gZ e0B2 hst
  have nB1B2 := nZ e0B2 hB1
  replace hst := sN hst k2
  replace hB1 := bN hB1 k2
  clear k2 e0B2
  refine (Walk_any (hT.out.keeps HR.out hst.out.keeps) (fun k e => Nat.lt_of_lt_of_le (HR.out k e) hst.out.keeps.size) hN).mono ?_
  rintro _ W3 ⟨v, rfl, ho, kn⟩
  rw [← HC.out.1] at ho
  rw [← HC.out.2]
  have hV := qH (ho.view (S := Nil) (fun _ _ e => e))
  clear ho
  obtain ⟨al, cl, rfl, _⟩ := hV.out.val
  have hk2 := qH (Keeps.refl Nil W3)
  replace hst := sN hst kn
  replace hB1 := bN hB1 kn
  replace hB2 := bN hB2 kn
  clear kn
  have c_B1_0 := cB hB1 0
  have f_B1_0 := hB1.out.frz 0
  have l_B1 := hB1.out.lt
  have c_B2_0 := cB hB2 0
  have f_B2_0 := hB2.out.frz 0
  have c_B2_1 := cB hB2 1
  have f_B2_1 := hB2.out.frz 1
  have c_B2_2 := cB hB2 2
  have f_B2_2 := hB2.out.frz 2
  have c_B2_3 := cB hB2 3
  have f_B2_3 := hB2.out.frz 3
  have c_B2_4 := cB hB2 4
  have f_B2_4 := hB2.out.frz 4
  have l_B2 := hB2.out.lt
  go_wp2_with fail
  clear c_B1_0 f_B1_0 l_B1 c_B2_0 f_B2_0 c_B2_1 f_B2_1 c_B2_2 f_B2_2 c_B2_3 f_B2_3 c_B2_4 f_B2_4 l_B2
  refine (IndexFunc_any (hV.out.keeps_nil hk2.out) 79 #[.pointer (some ⟨B1, 0, none⟩)] (findP payload) (enters_of Tryz.func79 (by kernel_rfl) rfl) (fun w2 y k2 => Find1_any (hB1.out.nil k2) y)).mono ?_
  rintro _ W4 ⟨rfl, kn⟩
  rw [HI.out]
  replace hst := sN hst kn
  replace hk2 := qH (hk2.out.trans' kn)
  replace hB1 := bN hB1 kn
  replace hB2 := bN hB2 kn
  clear kn
  have c_B1_0 := cB hB1 0
  have f_B1_0 := hB1.out.frz 0
  have l_B1 := hB1.out.lt
  have c_B2_0 := cB hB2 0
  have f_B2_0 := hB2.out.frz 0
  have c_B2_1 := cB hB2 1
  have f_B2_1 := hB2.out.frz 1
  have c_B2_2 := cB hB2 2
  have f_B2_2 := hB2.out.frz 2
  have c_B2_3 := cB hB2 3
  have f_B2_3 := hB2.out.frz 3
  have c_B2_4 := cB hB2 4
  have f_B2_4 := hB2.out.frz 4
  have l_B2 := hB2.out.lt
  obtain ⟨W5, hW5⟩ := nm ((((((W4.setCell ⟨B2, 0, none⟩ (.int .u64 0)).setCell ⟨B2, 1, none⟩ (.int .u64 0)).setCell ⟨B2, 2, none⟩ (.bool false)).setCell ⟨B2, 3, none⟩ (.int .i64 0)).setCell ⟨B2, 4, none⟩ (.int .u64 0)))
  go_wp2_with fail
  clear c_B1_0 f_B1_0 l_B1 c_B2_0 f_B2_0 c_B2_1 f_B2_1 c_B2_2 f_B2_2 c_B2_3 f_B2_3 c_B2_4 f_B2_4 l_B2
  rw [← hW5.out]
  clear hk2
  replace hst := zS hW5 ((((((hst.out.set gB2.out _ _).set gB2.out _ _).set gB2.out _ _).set gB2.out _ _).set gB2.out _ _))
  replace hB1 := zB hW5 ((((((hB1.out.other (Nat.ne_of_lt nB1B2.out) _ _).other (Nat.ne_of_lt nB1B2.out) _ _).other (Nat.ne_of_lt nB1B2.out) _ _).other (Nat.ne_of_lt nB1B2.out) _ _).other (Nat.ne_of_lt nB1B2.out) _ _))
  replace hB2 := zC hW5 ((((((hB2.out.set _ _).set _ _).set _ _).set _ _).set _ _))
  refine bodyPost_ret (results_row_tmp rfl rfl hB2.out.1 Tryz.underlying37 rfl (by kernel_rfl)) rfl ?_
  exact ⟨by rw [HF.out]; rfl, hst.out.keeps⟩
 ·have HI := qH hi
  have HF := qH (And.intro hf hlk)
  clear hi hf hlk
  obtain ⟨bo, ⟨bs, bu, bw⟩, bl⟩ := x
  have hst := qH (Step.refl Nil w)
  go_enter Tryz.func28, Tryz.ntmps28
  obtain ⟨W1, hW1⟩ := nm (w.alloc (.cells #[.int .u64 (payload.toNat : Int)] 25))
  obtain ⟨B1, eB1⟩ := nm (w.heap.size)
  obtain ⟨W2, hW2⟩ := nm (W1.alloc (.cells #[.int .u64 0, .int .u64 0, .bool false, .int .i64 0, .int .u64 0] 37))
  obtain ⟨B2, eB2⟩ := nm (w.heap.size + 1)
  go_wp2_with fail
  rw [← hW1.out]
  rw [← hW2.out]
  try rw [← eB2.out]
  try rw [← eB1.out]
  have k1 := kA hW1
  have e0B1 := eB1.out
  have hB1 := zB hW1 (Bx.new Nil.lt _ _ e0B1)
  have gB1 := gZ e0B1 hst
  replace hst := sN hst k1
  clear k1 e0B1
  have k2 := kA hW2
  have e0B2 : B2 = W1.heap.size := by rw [eB2.out, hW1.out]; simp []
  have hB2 := zB hW2 (Bx.new Nil.lt _ _ e0B2)
  have gB2 := gZ e0B2 hst
  have nB1B2 := nZ e0B2 hB1
  replace hst := sN hst k2
  replace hB1 := bN hB1 k2
  clear k2 e0B2
  refine (Walk_any (hT.out.keeps HR.out hst.out.keeps) (fun k e => Nat.lt_of_lt_of_le (HR.out k e) hst.out.keeps.size) hN).mono ?_
  rintro _ W3 ⟨v, rfl, ho, kn⟩
  rw [← HC.out.1] at ho
  rw [← HC.out.2]
  have hV := qH (ho.view (S := Nil) (fun _ _ e => e))
  clear ho
  obtain ⟨gb, go, cl, rfl, _, _, hgb, _, hcell⟩ := hV.out.pos (Nat.lt_of_le_of_lt (Nat.zero_le _) (List.getElem?_eq_some_iff.1 HF.out.2).1)
  have HV2 := qH hcell
  have HGB := qH hgb
  have hkl : (k : Int) < L.length := by have := (List.getElem?_eq_some_iff.1 HF.out.2).1; omega
  clear hcell hgb
  have hk2 := qH (Keeps.refl Nil W3)
  replace hst := sN hst kn
  replace hB1 := bN hB1 kn
  replace hB2 := bN hB2 kn
  clear kn
  have c_B1_0 := cB hB1 0
  have f_B1_0 := hB1.out.frz 0
  have l_B1 := hB1.out.lt
  have c_B2_0 := cB hB2 0
  have f_B2_0 := hB2.out.frz 0
  have c_B2_1 := cB hB2 1
  have f_B2_1 := hB2.out.frz 1
  have c_B2_2 := cB hB2 2
  have f_B2_2 := hB2.out.frz 2
  have c_B2_3 := cB hB2 3
  have f_B2_3 := hB2.out.frz 3
  have c_B2_4 := cB hB2 4
  have f_B2_4 := hB2.out.frz 4
  have l_B2 := hB2.out.lt
  have e_v := View.cellB HV2.out k _ HF.out.2
  have e_0 := (hk2.out.cell HGB.out (fun e => e) _).trans e_v.1
  have e_1 := (hk2.out.cell HGB.out (fun e => e) _).trans e_v.2.1
  have e_2 := (hk2.out.cell HGB.out (fun e => e) _).trans e_v.2.2.1
  have e_3 := (hk2.out.cell HGB.out (fun e => e) _).trans e_v.2.2.2.1
  have e_4 := (hk2.out.cell HGB.out (fun e => e) _).trans e_v.2.2.2.2
  go_wp2_with fail
  clear c_B1_0 f_B1_0 l_B1 c_B2_0 f_B2_0 c_B2_1 f_B2_1 c_B2_2 f_B2_2 c_B2_3 f_B2_3 c_B2_4 f_B2_4 l_B2 e_v e_0 e_1 e_2 e_3 e_4
  refine (IndexFunc_any (hV.out.keeps_nil hk2.out) 79 #[.pointer (some ⟨B1, 0, none⟩)] (findP payload) (enters_of Tryz.func79 (by kernel_rfl) rfl) (fun w2 y k2 => Find1_any (hB1.out.nil k2) y)).mono ?_
  rintro _ W4 ⟨rfl, kn⟩
  rw [HI.out]
  replace hst := sN hst kn
  replace hk2 := qH (hk2.out.trans' kn)
  replace hB1 := bN hB1 kn
  replace hB2 := bN hB2 kn
  clear kn
  have c_B1_0 := cB hB1 0
  have f_B1_0 := hB1.out.frz 0
  have l_B1 := hB1.out.lt
  have c_B2_0 := cB hB2 0
  have f_B2_0 := hB2.out.frz 0
  have c_B2_1 := cB hB2 1
  have f_B2_1 := hB2.out.frz 1
  have c_B2_2 := cB hB2 2
  have f_B2_2 := hB2.out.frz 2
  have c_B2_3 := cB hB2 3
  have f_B2_3 := hB2.out.frz 3
  have c_B2_4 := cB hB2 4
  have f_B2_4 := hB2.out.frz 4
  have l_B2 := hB2.out.lt
  have e_v := View.cellB HV2.out k _ HF.out.2
  have e_0 := (hk2.out.cell HGB.out (fun e => e) _).trans e_v.1
  have e_1 := (hk2.out.cell HGB.out (fun e => e) _).trans e_v.2.1
  have e_2 := (hk2.out.cell HGB.out (fun e => e) _).trans e_v.2.2.1
  have e_3 := (hk2.out.cell HGB.out (fun e => e) _).trans e_v.2.2.2.1
  have e_4 := (hk2.out.cell HGB.out (fun e => e) _).trans e_v.2.2.2.2
  obtain ⟨W5, hW5⟩ := nm ((((((W4.setCell ⟨B2, 0, none⟩ (.int .u64 (bo.toNat : Int))).setCell ⟨B2, 1, none⟩ (.int .u64 (bs.toNat : Int))).setCell ⟨B2, 2, none⟩ (.bool bu)).setCell ⟨B2, 3, none⟩ (.int .i64 bw)).setCell ⟨B2, 4, none⟩ (.int .u64 (bl.toNat : Int))))
  go_wp2_with fail
  clear c_B1_0 f_B1_0 l_B1 c_B2_0 f_B2_0 c_B2_1 f_B2_1 c_B2_2 f_B2_2 c_B2_3 f_B2_3 c_B2_4 f_B2_4 l_B2 e_v e_0 e_1 e_2 e_3 e_4
  rw [← hW5.out]
  clear hk2
  replace hst := zS hW5 ((((((hst.out.set gB2.out _ _).set gB2.out _ _).set gB2.out _ _).set gB2.out _ _).set gB2.out _ _))
  replace hB1 := zB hW5 ((((((hB1.out.other (Nat.ne_of_lt nB1B2.out) _ _).other (Nat.ne_of_lt nB1B2.out) _ _).other (Nat.ne_of_lt nB1B2.out) _ _).other (Nat.ne_of_lt nB1B2.out) _ _).other (Nat.ne_of_lt nB1B2.out) _ _))
  replace hB2 := zC hW5 ((((((hB2.out.set _ _).set _ _).set _ _).set _ _).set _ _))
  refine bodyPost_ret (results_row_tmp rfl rfl hB2.out.1 Tryz.underlying37 rfl (by kernel_rfl)) rfl ?_
  exact ⟨by rw [HF.out.1]; rfl, hst.out.keeps⟩
end


section
open Go.RowKit
theorem TxV.box {S : Nat → Prop} {w w' : World} {A B : Value} {ws : List UInt64} {l : List Put} {m n1 n2 c1 c2 : Nat} {a1 a2 : Option Addr} {T : TypeId} {f : Nat × Nat} (h : TxV S w A B ws l) (hm : w.heap[m]? = some (.cells #[.slice a1 n1 c1, .slice a2 n2 c2] T f)) (k : Keeps (fun i => i = m) w w') : TxV S w' A B ws l :=
  ⟨h.1, h.2.1, h.2.2.1.box hm (noU _ _ _ _ _ _) k, h.2.2.2.box hm (noP _ _ _ _ _ _) k⟩
theorem TxV.valB {S : Nat → Prop} {w : World} {A B : Value} {ws : List UInt64} {l : List Put} (h : TxV S w A B ws l) : ∃ a c, B = .slice a l.length c := by
 obtain ⟨a, c, e, _⟩ := h.2.2.2.val
 exact ⟨a, c, e⟩
abbrev PieceV := UInt8 × UInt8 × UInt16
def sizeP (p : PieceV) : UInt64 := UInt64.ofNat (48 + 16 * (p.1.toNat % 8))
theorem sizeP_nat (p : PieceV) : (sizeP p).toNat = 48 + 16 * (p.1.toNat % 8) := by unfold sizeP; rw [UInt64.toNat_ofNat']; omega
def tagP (p : PieceV) : TagV := if p.2.1.toNat % 10 = 0 then ⟨sizeP p, false, 0⟩ else ⟨sizeP p, true, ((p.2.1.toNat % 10 : Nat) : Int) - 1⟩
def lenP (p : PieceV) : UInt64 := UInt64.ofNat (p.2.2.toNat % (sizeP p - 39).toNat)
def putPc (ws : List UInt64) (l : List Put) (off : UInt64) (p : PieceV) : List Put := if (tagP p).used then txStore ws (writeP ws l off (tagP p)) (off + 8) (lenP p) else writeP ws l off (tagP p)
def layP (ws : List UInt64) (e : UInt64) : List PieceV → List Put → UInt64 → List Put × UInt64
 | [], l, off => (l, off)
 | p :: ps, l, off => if e.toNat < (off + sizeP p + 48).toNat then (l, off) else layP ws e ps (putPc ws l off p) (off + sizeP p)
theorem GoodP.write {ws : List UInt64} {l : List Put} (h : GoodP ws l) (off : UInt64) (g : TagV) : GoodP ws (writeP ws l off g) := by
 unfold writeP; split
 · exact (h.store _ _).store _ _
 · exact h
theorem GoodP.pc {ws : List UInt64} {l : List Put} (h : GoodP ws l) (off : UInt64) (p : PieceV) : GoodP ws (putPc ws l off p) := by
 unfold putPc; split
 · exact (h.write _ _).store _ _
 · exact h.write _ _
end
section
open Go.ChangeShapes Go.WideShapes Go.ChangeAt Go.RowKit Go.Deep Go.Joins
section
variable {H : Type} {enc : TypeId × Value → H} {W : World} {spare : Nat → Bool} {held : Bool} {base : Nat}
end
end
section
open Go.RowKit
theorem AtB.good16 {f : UInt64 → UInt64} {xs : List Item} {off : UInt64} (h : AtB f xs off) : off.toNat % 16 = 0 := by
 induction h with
 | start => rfl
 | step h1 h2 h3 ih =>
   obtain ⟨e, _⟩ := one_next h3
   obtain ⟨_, _, _, h4⟩ := one_spec h3
   rw [e]; omega
theorem one_frame {f g : UInt64 → UInt64} {off : UInt64} (h3 : oneB f off = true) (e16 : g 16 = f 16) (ha : ∀ o : UInt64, off.toNat ≤ o.toNat → o.toNat < (off + (oneT f off).tag.size).toNat → g o = f o) : oneB g off = true ∧ oneT g off = oneT f off := by
 obtain ⟨hn, hle⟩ := one_next h3
 obtain ⟨hr, _, h48, _⟩ := one_spec h3
 have hsz : (oneT f off).tag.size = (unpackT (f off)).size := by unfold oneT; rw [readT_yes hr]
 rw [hsz] at hn hle h48 ha
 have hlt := (f 16).toNat_lt
 have e0 : g off = f off := ha _ (Nat.le_refl _) (by omega)
 have e8 : g (off + 8) = f (off + 8) := ha _ (by rw [UInt64.toNat_add]; simp; omega) (by rw [hn, UInt64.toNat_add]; simp; omega)
 have hl : (off + (unpackT (f off)).size - 8).toNat = off.toNat + (unpackT (f off)).size.toNat - 8 := by
  have : (8 : UInt64) ≤ off + (unpackT (f off)).size := by rw [UInt64.le_iff_toNat_le, hn]; simp; omega
  rw [UInt64.toNat_sub_of_le _ _ this, hn]; rfl
 have el : g (off + (unpackT (f off)).size - 8) = f (off + (unpackT (f off)).size - 8) := ha _ (by rw [hl]; omega) (by rw [hl, hn]; omega)
 have hrb : readB g off = readB f off := by unfold readB; rw [e0, e16, el]
 have hrt : readT g off = readT f off := by unfold readT; rw [hrb, e0]
 have hlen : lenB g off = lenB f off := by unfold lenB; rw [e8, hrt]
 exact ⟨by unfold oneB; rw [hrb, hrt, hlen]; exact h3, by unfold oneT; rw [hrt, e8]⟩
theorem AtB.frame {f g : UInt64 → UInt64} {xs : List Item} {off : UInt64} (h : AtB f xs off) (e16 : g 16 = f 16) (ha : ∀ o : UInt64, 3776 ≤ o.toNat → o.toNat < off.toNat → g o = f o) : AtB g xs off := by
 induction h with
 | start => exact .start
 | @step xs off h1 h2 h3 ih =>
   obtain ⟨hn, _⟩ := one_next h3
   obtain ⟨_, hin, h48, _⟩ := one_spec h3
   obtain ⟨_, h3776, _, _⟩ := inT_spec hin
   obtain ⟨b1, b2⟩ := one_frame h3 e16 (fun o h9 h10 => ha o (by omega) h10)
   have := AtB.step (ih (fun o h9 h10 => ha o h9 (by omega))) (by rw [e16]; exact h2) b1
   rw [b2] at this
   exact this
structure LaidAt (ws : List UInt64) (e : UInt64) (l : List Put) (off : UInt64) (xs : List Item) : Prop where
 at_ : AtB (txLoad ws l) xs off
 e16 : txLoad ws l 16 = e
 low : ∀ o : UInt64, o.toNat < 3776 → txLoad ws l o = loadV ws o
 room : off.toNat + 48 ≤ e.toNat
theorem in600 {ws : List UInt64} (hw : ws.length = 600) {o : UInt64} (h1 : o.toNat % 8 = 0) (h2 : o.toNat < 4800) : inB ws o = true := by rw [inB_iff, hw]; exact ⟨h1, h2⟩
theorem LaidAt.off16 {ws : List UInt64} {e : UInt64} {l : List Put} {off : UInt64} {xs : List Item} (h : LaidAt ws e l off xs) : off.toNat % 16 = 0 ∧ 3776 ≤ off.toNat := ⟨h.at_.good16, by have := h.at_.le; omega⟩
section
variable {ws : List UInt64} {e : UInt64} (hw : ws.length = 600) (he : e.toNat ≤ 4800)
include hw he
theorem LaidAt.put {l : List Put} {off : UInt64} {xs : List Item} (h : LaidAt ws e l off xs) {g : TagV} (hm : mayT g = true) (hr : off.toNat + g.size.toNat ≤ e.toNat) (n : UInt64) (hu : g.used = true → needB n = true ∧ (needU n).toNat ≤ g.size.toNat) :
  ∃ b : BlockV, b.off = off ∧ b.tag = g ∧ (off + g.size).toNat = off.toNat + g.size.toNat ∧
    AtB (txLoad ws (if g.used then txStore ws (writeP ws l off g) (off + 8) n else writeP ws l off g)) (xs ++ [(b, true)]) (off + g.size) ∧
    txLoad ws (if g.used then txStore ws (writeP ws l off g) (off + 8) n else writeP ws l off g) 16 = e ∧
    ∀ o : UInt64, o.toNat < 3776 → txLoad ws (if g.used then txStore ws (writeP ws l off g) (off + 8) n else writeP ws l off g) o = loadV ws o := by
 obtain ⟨h16, h37⟩ := h.off16
 obtain ⟨m1, m2, m3, _⟩ := may_spec hm
 have hn : (off + g.size).toNat = off.toNat + g.size.toNat := by rw [UInt64.toNat_add]; omega
 have hl : (off + g.size - 8).toNat = off.toNat + g.size.toNat - 8 := by
  have : (8 : UInt64) ≤ off + g.size := by rw [UInt64.le_iff_toNat_le, hn]; simp; omega
  rw [UInt64.toNat_sub_of_le _ _ this, hn]; rfl
 have h8 : (off + 8).toNat = off.toNat + 8 := by rw [UInt64.toNat_add]; simp; omega
 have hin : inT e off g.size = true := decide_eq_true ⟨h16, h37, by omega, by omega⟩
 have hwb : writeB (txLoad ws l) off g = true := by unfold writeB; rw [hm, h.e16, hin]; rfl
 have i1 : inB ws off = true := in600 hw (by omega) (by omega)
 have i2 : inB ws (off + g.size - 8) = true := in600 hw (by omega) (by omega)
 have i3 : inB ws (off + 8) = true := in600 hw (by omega) (by omega)
 obtain ⟨f, hf⟩ : ∃ f, f = txLoad ws (if g.used then txStore ws (writeP ws l off g) (off + 8) n else writeP ws l off g) := ⟨_, rfl⟩
 rw [← hf]
 have n1 : off + 8 ≠ off := fun x => by have := congrArg UInt64.toNat x; omega
 have n2 : off + 8 ≠ off + g.size - 8 := fun x => by have := congrArg UInt64.toNat x; omega
 have tells : ∀ o, f o = if g.used = true ∧ o = off + 8 then n else if o = off + g.size - 8 then packU g else if o = off then packU g else txLoad ws l o := fun o => by
  rw [hf, writeP_yes hwb]
  cases hg : g.used with
  | true =>
    rw [if_pos rfl, txLoad_store i3, txLoad_store i2, txLoad_store i1]
    by_cases x : o = off + 8
    · rw [if_pos x, if_pos ⟨rfl, x⟩]
    · rw [if_neg x, if_neg (show ¬ (true = true ∧ o = off + 8) from fun y => x y.2)]
  | false => rw [if_neg (by decide), if_neg (fun y => by cases y.1), txLoad_store i2, txLoad_store i1]
 have old : ∀ o : UInt64, o.toNat < off.toNat → f o = txLoad ws l o := fun o ho => by
  rw [tells, if_neg (fun y => by have := congrArg UInt64.toNat y.2; omega), if_neg (fun y => by have := congrArg UInt64.toNat y; omega), if_neg (fun y => by have := congrArg UInt64.toNat y; omega)]
 have f16 : f 16 = e := by rw [old 16 (by simp; omega)]; exact h.e16
 have fo : f off = packU g := by
  rw [tells, if_neg (fun y => n1 y.2.symm)]
  split
  · rfl
  · rw [if_pos rfl]
 have fl : f (off + g.size - 8) = packU g := by rw [tells, if_neg (fun y => n2 y.2.symm), if_pos rfl]
 have hrd : readB f off = true ∧ readT f off = g := by
  have hb : readB f off = true := by unfold readB; rw [fo, isTag_pack hm, unpack_pack hm, f16, hin, fl]; simp
  exact ⟨hb, by rw [readT_yes hb, fo, unpack_pack hm]⟩
 have hat : AtB f xs off := h.at_.frame (by rw [f16, h.e16]) (fun o _ ho => old o ho)
 have hone : oneB f off = true := by
  unfold oneB
  rw [hrd.1, hrd.2]
  cases hg : g.used with
  | false => rfl
  | true =>
    have f8 : f (off + 8) = n := by rw [tells, if_pos ⟨hg, rfl⟩]
    unfold lenB
    rw [f8, hrd.2, (hu hg).1, decide_eq_true (hu hg).2]; rfl
 have ht : (oneT f off).tag = g := by unfold oneT; exact hrd.2
 have := AtB.step hat (by rw [f16]; omega) hone
 rw [ht] at this
 exact ⟨oneT f off, rfl, ht, hn, this, f16, fun o ho => by rw [old o (by omega)]; exact h.low o ho⟩
end
theorem sizeP_may (p : PieceV) : mayT (tagP p) = true := by
 have hs := sizeP_nat p
 unfold tagP
 split
 · exact decide_eq_true ⟨by rw [hs]; omega, by rw [hs]; omega, by rw [hs]; omega, by simp, by simp, .inr rfl⟩
 · next h => exact decide_eq_true ⟨by rw [hs]; omega, by rw [hs]; omega, by rw [hs]; omega, by dsimp only; omega, by dsimp only; omega, .inl rfl⟩
theorem tagP_size (p : PieceV) : (tagP p).size = sizeP p := by unfold tagP; split <;> rfl
theorem lenP_fits (p : PieceV) : needB (lenP p) = true ∧ (needU (lenP p)).toNat ≤ (sizeP p).toNat := by
 have hs := sizeP_nat p
 have h39 : (sizeP p - 39).toNat = (sizeP p).toNat - 39 := by
  have : (39 : UInt64) ≤ sizeP p := by rw [UInt64.le_iff_toNat_le, hs]; simp; omega
  rw [UInt64.toNat_sub_of_le _ _ this]; rfl
 have hl : (lenP p).toNat < (sizeP p).toNat - 39 := by
  unfold lenP
  rw [h39]
  have := Nat.mod_lt p.2.2.toNat (show 0 < (sizeP p).toNat - 39 by omega)
  rw [UInt64.toNat_ofNat']; omega
 have hb : needB (lenP p) = true := decide_eq_true (by omega)
 refine ⟨hb, ?_⟩
 unfold needU
 rw [if_pos hb, UInt64.toNat_ofNat']
 omega
section
variable {ws : List UInt64} {e : UInt64} (hw : ws.length = 600) (he : e.toNat ≤ 4800) (h16 : e.toNat % 16 = 0) 
include hw he
theorem LaidAt.lay : ∀ (ps : List PieceV) {l : List Put} {off : UInt64} {xs : List Item}, LaidAt ws e l off xs → ∃ xs', LaidAt ws e (layP ws e ps l off).1 (layP ws e ps l off).2 xs'
  | [], _, _, xs, h => ⟨xs, h⟩
  | p :: ps, l, off, xs, h => by
    unfold layP
    split
    · exact ⟨xs, h⟩
    · next hlt =>
      have hs := sizeP_nat p
      obtain ⟨_, h37⟩ := h.off16
      have hroom := h.room
      have e1 : (off + sizeP p + 48).toNat = off.toNat + (sizeP p).toNat + 48 := by
        rw [UInt64.toNat_add, UInt64.toNat_add]; simp; omega
      obtain ⟨b, _, hbt, hn, ha, hf, hlow⟩ := h.put hw he (sizeP_may p) (by rw [tagP_size]; omega) (lenP p) (fun _ => by rw [tagP_size]; exact lenP_fits p)
      rw [tagP_size] at hn ha
      exact LaidAt.lay ps (xs := xs ++ [(b, true)]) ⟨ha, hf, hlow, by rw [hn]; omega⟩
include h16
end
def endL (l : List BlockV) : UInt64 := l.foldl (fun o b => o + b.tag.size) 3776
theorem endL_add (l : List BlockV) (b : BlockV) : endL (l ++ [b]) = endL l + b.tag.size := by simp [endL]
structure RowL (L : List BlockV) (e : UInt64) : Prop where
 end_ : endL L = e
 at_ : ∀ k x, L[k]? = some x → x.off = endL (L.take k) ∧ (x.off + x.tag.size).toNat = x.off.toNat + x.tag.size.toNat ∧ 48 ≤ x.tag.size.toNat ∧ x.off.toNat % 16 = 0 ∧ 3776 ≤ x.off.toNat ∧ x.off.toNat + x.tag.size.toNat ≤ e.toNat
theorem AtB.row {f : UInt64 → UInt64} {xs : List Item} {off : UInt64} (h : AtB f xs off) : RowL (xs.map (·.1)) off := by
 induction h with
 | start => exact ⟨rfl, fun k x hx => by simp at hx⟩
 | @step xs off h1 h2 h3 ih =>
   obtain ⟨hn, hle⟩ := one_next h3
   obtain ⟨_, hin, h48, _⟩ := one_spec h3
   obtain ⟨_, h37, _, _⟩ := inT_spec hin
   have e : (oneT f off).off = off := rfl
   refine ⟨by simp only [List.map_append, List.map_cons, List.map_nil]; rw [endL_add, ih.end_], fun k x hx => ?_⟩
   simp only [List.map_append, List.map_cons, List.map_nil] at hx ⊢
   by_cases hk : k < (xs.map (·.1)).length
   ·rw [List.getElem?_append_left hk] at hx
    obtain ⟨a1, a2, a3, a4, a5, a6⟩ := ih.at_ k x hx
    rw [List.take_append_of_le_length (by omega)]
    exact ⟨a1, a2, a3, a4, a5, by omega⟩
   ·rw [List.getElem?_append_right (by omega)] at hx
    have hk0 : k - (xs.map (·.1)).length = 0 := by
        rcases Nat.eq_zero_or_pos (k - (xs.map (·.1)).length) with h | h
        · exact h
        · rw [List.getElem?_eq_none (by simp only [List.length_cons, List.length_nil]; omega)] at hx; cases hx
    rw [hk0] at hx
    simp only [List.getElem?_cons_zero, Option.some.injEq] at hx
    subst hx
    have hkl : k = (xs.map (·.1)).length := by omega
    rw [List.take_append_of_le_length (by omega), List.take_of_length_le (by omega), ih.end_]
    exact ⟨e, by rw [e]; exact hn, h48, by rw [e]; exact h1.good16, h37, by rw [e, hn]; omega⟩
theorem RowL.below {L : List BlockV} {e : UInt64} (h : RowL L e) : ∀ (d i : Nat) {x y : BlockV}, L[i]? = some x → L[i + d + 1]? = some y → x.off.toNat + x.tag.size.toNat ≤ y.off.toNat
 | 0, i, x, y, hx, hy => by
   obtain ⟨a1, a2, _⟩ := h.at_ i x hx
   obtain ⟨b1, _⟩ := h.at_ (i + 1) y hy
   rw [b1, take_succ' hx, endL_add, ← a1, a2]; exact Nat.le_refl _
 | d + 1, i, x, y, hx, hy => by
   have hl := (List.getElem?_eq_some_iff.1 hy).1
   obtain ⟨z, hz⟩ : ∃ z, L[i + 1]? = some z := ⟨L[i + 1]'(by omega), by simp⟩
   have h1 := RowL.below h 0 i hx hz
   have h2 := RowL.below h d (i + 1) hz (by rw [show i + 1 + d + 1 = i + (d + 1) + 1 by omega]; exact hy)
   omega
theorem RowL.same {L : List BlockV} {e : UInt64} (h : RowL L e) {i j : Nat} {x y : BlockV} (hx : L[i]? = some x) (hy : L[j]? = some y) (ho : x.off = y.off) : i = j := by
 rcases Nat.lt_trichotomy i j with hlt | he | hgt
 ·have := h.below (j - i - 1) i hx (by rw [show i + (j - i - 1) + 1 = j by omega]; exact hy)
  have h3 := (h.at_ i x hx).2.2.1
  rw [ho] at this; omega
 ·exact he
 ·have := h.below (i - j - 1) j hy (by rw [show j + (i - j - 1) + 1 = i by omega]; exact hx)
  have h3 := (h.at_ j y hy).2.2.1
  rw [ho] at this; omega
theorem RowL.next {L : List BlockV} {e : UInt64} (h : RowL L e) {i : Nat} {x y : BlockV} (hx : L[i]? = some x) (hy : L[i + 1]? = some y) : y.off = x.off + x.tag.size := by
  rw [(h.at_ (i + 1) y hy).1, take_succ' hx, endL_add, ← (h.at_ i x hx).1]
end
section
open Go.RowKit PT
def sizeF (f : UInt64 → UInt64) (off : UInt64) : UInt64 := (unpackT (f off)).size
theorem key_any {a : Option Addr} {f : UInt64 → UInt64} {N : Nat} {w : World} (h : Reads (.pointer a) f N w) (off : UInt64) (x : Int) (hx : x = (off.toNat : Int)) :
  Calls Tryz.prog 113 #[.agg #[.pointer a], .int .u64 x] w fun e w' => e = .returned (.agg #[.int .u64 ((sizeF f off).toNat : Int), .int .u64 (off.toNat : Int)]) ∧ Keeps Nil w w' := by
 subst hx
 have hT := qH h
 obtain ⟨s, u, o, hg⟩ : ∃ s u o, unpackT (f off) = ⟨s, u, o⟩ := ⟨_, _, _, rfl⟩
 obtain ⟨ib, hib⟩ : ∃ ib, ib = isTag (f off) := ⟨_, rfl⟩
 have hz : sizeF f off = s := by unfold sizeF; rw [hg]
 rw [hz]
 have HG := qH hg
 have HI := qH hib
 clear h hg hib hz
 have hst := qH (Step.refl Nil w)
 go_enter Tryz.func113, Tryz.ntmps113
 obtain ⟨W1, hW1⟩ := nm (w.alloc (.cells #[.pointer a] 153))
 obtain ⟨B1, eB1⟩ := nm (w.heap.size)
 obtain ⟨W2, hW2⟩ := nm (W1.alloc (.cells #[.int .u64 0, .int .u64 0] 162))
 obtain ⟨B2, eB2⟩ := nm (w.heap.size + 1)
 go_wp2_with fail
 rw [← hW1.out]
 rw [← hW2.out]
 try rw [← eB2.out]
 try rw [← eB1.out]
 have k1 := kA hW1
 have e0B1 := eB1.out
 have hB1 := zB hW1 (Bx.new Nil.lt _ _ e0B1)
 have gB1 := gZ e0B1 hst
 replace hst := sN hst k1
 clear k1 e0B1
 have k2 := kA hW2
 have e0B2 : B2 = W1.heap.size := by rw [eB2.out, hW1.out]; simp []
 have hB2 := zB hW2 (Bx.new Nil.lt _ _ e0B2)
 have gB2 := gZ e0B2 hst
 have nB1B2 := nZ e0B2 hB1
 replace hst := sN hst k2
 replace hB1 := bN hB1 k2
 clear k2 e0B2
 refine ((hT.out.keeps hst.out.keeps).loadC off _ rfl).mono ?_
 rintro _ W3 ⟨rfl, kn⟩
 replace hst := sN hst kn
 replace hB1 := bN hB1 kn
 replace hB2 := bN hB2 kn
 clear kn
 have c_B1_0 := cB hB1 0
 have f_B1_0 := hB1.out.frz 0
 have l_B1 := hB1.out.lt
 have c_B2_0 := cB hB2 0
 have f_B2_0 := hB2.out.frz 0
 have c_B2_1 := cB hB2 1
 have f_B2_1 := hB2.out.frz 1
 have l_B2 := hB2.out.lt
 go_wp2_with fail
 clear c_B1_0 f_B1_0 l_B1 c_B2_0 f_B2_0 c_B2_1 f_B2_1 l_B2
 refine (Unpack_any W3 (f off)).mono ?_
 rintro _ W4 ⟨rfl, kn⟩
 rw [HG.out, TagV.cells_def]
 replace hst := sN hst kn
 replace hB1 := bN hB1 kn
 replace hB2 := bN hB2 kn
 clear kn
 have c_B1_0 := cB hB1 0
 have f_B1_0 := hB1.out.frz 0
 have l_B1 := hB1.out.lt
 have c_B2_0 := cB hB2 0
 have f_B2_0 := hB2.out.frz 0
 have c_B2_1 := cB hB2 1
 have f_B2_1 := hB2.out.frz 1
 have l_B2 := hB2.out.lt
 obtain ⟨W5, hW5⟩ := nm (((W4.setCell ⟨B2, 0, none⟩ (.int .u64 (s.toNat : Int))).setCell ⟨B2, 1, none⟩ (.int .u64 (off.toNat : Int))))
 obtain ⟨W6, hW6⟩ := nm (W5.alloc (.cells #[.int .u64 (s.toNat : Int), .bool u, .int .i64 o] 35))
 obtain ⟨B3, eB3⟩ := nm (W4.heap.size)
 go_wp2_with fail
 clear c_B1_0 f_B1_0 l_B1 c_B2_0 f_B2_0 c_B2_1 f_B2_1 l_B2
 rw [← hW5.out]
 rw [← hW6.out]
 try rw [← eB3.out]
 replace hst := zS hW5 (((hst.out.set gB2.out _ _).set gB2.out _ _))
 replace hB1 := zB hW5 (((hB1.out.other (Nat.ne_of_lt nB1B2.out) _ _).other (Nat.ne_of_lt nB1B2.out) _ _))
 replace hB2 := zC hW5 (((hB2.out.set _ _).set _ _))
 have k3 := kA hW6
 have e0B3 : B3 = W5.heap.size := by rw [eB3.out, hW5.out]; simp [World.setCell]
 have hB3 := zB hW6 (Bx.new Nil.lt _ _ e0B3)
 have gB3 := gZ e0B3 hst
 have nB1B3 := nZ e0B3 hB1
 have nB2B3 := nZ e0B3 hB2
 replace hst := sN hst k3
 replace hB1 := bN hB1 k3
 replace hB2 := bN hB2 k3
 clear k3 e0B3
 refine bodyPost_ret (results_row rfl rfl hB2.out.1 Tryz.underlying162 rfl (by kernel_rfl)) rfl ?_
 exact ⟨rfl, hst.out.keeps⟩
end
section
open Go.RowKit
def cmp1 (a b : UInt64) : Int := if a.toNat < b.toNat then -1 else if b.toNat < a.toNat then 1 else 0
theorem isNaN_any (w : World) (a : UInt64) : Calls Tryz.prog 183 #[.int .u64 (a.toNat : Int)] w fun e w' => e = .returned (.bool false) ∧ w = w' := by
 go_enter Tryz.func183, Tryz.ntmps183
 go_wp2_with fail
 go_ret
 exact ⟨by simp, rfl⟩
theorem Compare_any (w : World) (a b : UInt64) : Calls Tryz.prog 157 #[.int .u64 (a.toNat : Int), .int .u64 (b.toNat : Int)] w fun e w' => e = .returned (.int .i64 (cmp1 a b)) ∧ w = w' := by
 unfold cmp1
 by_cases h : a.toNat < b.toNat
 ·rw [if_pos h]
  go_enter Tryz.func157, Tryz.ntmps157
  go_wp2_with (go_at_call 183; refine (isNaN_any _ _).mono ?_; rintro _ _ ⟨rfl, rfl⟩)
  go_ret
  exact ⟨rfl, rfl⟩
 ·rw [if_neg h]
  by_cases h2 : b.toNat < a.toNat
  ·rw [if_pos h2]
   go_enter Tryz.func157, Tryz.ntmps157
   go_wp2_with (go_at_call 183; refine (isNaN_any _ _).mono ?_; rintro _ _ ⟨rfl, rfl⟩)
   go_ret
   exact ⟨rfl, rfl⟩
  ·rw [if_neg h2]
   go_enter Tryz.func157, Tryz.ntmps157
   go_wp2_with (go_at_call 183; refine (isNaN_any _ _).mono ?_; rintro _ _ ⟨rfl, rfl⟩)
   go_ret
   exact ⟨rfl, rfl⟩
def or2 (x y : Int) : Int := if x = 0 then y else x
theorem Or_any (w : World) (b : Nat) (x y : Int) (h0 : w.cell? ⟨b, 0, none⟩ = some (.int .i64 x)) (h1 : w.cell? ⟨b, 1, none⟩ = some (.int .i64 y)) :
  Calls Tryz.prog 165 #[.slice (some ⟨b, 0, none⟩) 2 2] w fun e w' => e = .returned (.int .i64 (or2 x y)) ∧ w = w' := by
 unfold or2
 by_cases hx : x = 0
 ·subst hx
  rw [if_pos rfl]
  by_cases hy : y = 0
  ·subst hy
   go_enter Tryz.func165, Tryz.ntmps165
   go_wp2_with fail
   go_loopw [5, 8] (fun _ i wr => ∃ k : Nat, k ≤ 2 ∧ i = .int .i64 (k : Int) ∧ w = wr) (fun _ i _ => 2 - (intOf i).toNat)
   case atStart => exact ⟨0, by omega, rfl, rfl⟩
   case round =>
        obtain ⟨k, hk, rfl, rfl⟩ := hrel
        obtain rfl | rfl | rfl : k = 0 ∨ k = 1 ∨ k = 2 := by omega
        ·go_wp2_with fail
         go_roundw
         case rel => exact ⟨1, by omega, by first | go_num | simp, by first | trivial | rfl⟩
         case measure => simp [intOf]
        ·go_wp2_with fail
         go_roundw
         case rel => exact ⟨2, by omega, by first | go_num | simp, by first | trivial | rfl⟩
         case measure => simp [intOf]
        ·go_wp2_with fail
         go_ret
         exact ⟨rfl, rfl⟩
  ·go_enter Tryz.func165, Tryz.ntmps165
   go_wp2_with fail
   go_loopw [5, 8] (fun _ i wr => ∃ k : Nat, k ≤ 1 ∧ i = .int .i64 (k : Int) ∧ w = wr) (fun _ i _ => 2 - (intOf i).toNat)
   case atStart => exact ⟨0, by omega, rfl, rfl⟩
   case round =>
        obtain ⟨k, hk, rfl, rfl⟩ := hrel
        obtain rfl | rfl : k = 0 ∨ k = 1 := by omega
        ·go_wp2_with fail
         go_roundw
         case rel => exact ⟨1, by omega, by first | go_num | simp, by first | trivial | rfl⟩
         case measure => simp [intOf]
        ·go_wp2_with fail
         go_ret
         exact ⟨rfl, rfl⟩
 ·rw [if_neg hx]
  go_enter Tryz.func165, Tryz.ntmps165
  go_wp2_with fail
  go_loopw [5, 8] (fun _ i wr => i = .int .i64 0 ∧ w = wr) (fun _ _ _ => 0)
  case atStart => exact ⟨rfl, rfl⟩
  case round =>
   obtain ⟨rfl, rfl⟩ := hrel
   go_wp2_with fail
   go_ret
   exact ⟨rfl, rfl⟩
end
end Go.Proofs.YtefpbljekfkefaaGreat
