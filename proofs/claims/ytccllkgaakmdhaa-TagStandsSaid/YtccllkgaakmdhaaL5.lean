/- carracklaw05: made, awake; tag.Write that is refused. -/
import Derived.Test.YtccllkgaakmdhaaFormed05
namespace Go.Proofs.Ytccllkgaakmdhaa
open Go.RowKit

set_option maxHeartbeats 1000000 in
theorem made5 (w : World) (g : TagV) : Calls Try.prog 64 #[.agg g.cells] w fun e w' => e = .returned (.agg g.cells) ∧ Keeps Nil w w' := by
  obtain ⟨s, u, o⟩ := g
  rw [TagV.cells_def]
  go_enter Try.func64, Try.ntmps64
  go_wp2_with fail
  refine bodyPost_ret (results_row rfl rfl (by simpa using heap_new (w.alloc _) _) Try.underlying70 rfl (by kernel_rfl)) rfl ?_
  exact ⟨rfl, ((Keeps.refl Nil w).alloc _).alloc _⟩

set_option maxRecDepth 100000 in
set_option maxHeartbeats 4000000 in
theorem Write_no {T : Value} {f : UInt64 → UInt64} {N : Nat} {w : World} (h : Reads T f N w) (off : UInt64) (g : TagV) (hno : writeB f off g = false) (x : Int) (hx : x = (off.toNat : Int)) :
    Calls Try.prog 71 #[T, .int .u64 x, .agg g.cells] w fun e w' => e = .returned (.int .i64 12) ∧ Keeps Nil w w' := by
  subst hx
  obtain ⟨sz, u, o⟩ := g
  have hbb : (mayT ⟨sz, u, o⟩ && inT (f 16) off sz) = false := hno
  rw [TagV.cells_def]
  obtain ⟨B, hB⟩ : ∃ B, B = w.heap.size := ⟨_, rfl⟩
  obtain ⟨w1, hw1⟩ : ∃ w1, w1 = w.alloc (.cells #[.int .u64 (sz.toNat : Int), .bool u, .int .i64 o] 70) := ⟨_, rfl⟩
  have k1 : Keeps Nil w w1 := by rw [hw1]; exact (Keeps.refl Nil w).alloc _
  have b1 : w1.heap[B]? = some (.cells #[.int .u64 (sz.toNat : Int), .bool u, .int .i64 o] 70 (0, 0)) := by rw [hw1, hB]; exact heap_new w _
  obtain ⟨w2, hw2⟩ : ∃ w2, w2 = w1.alloc (.cells #[.int .u64 (sz.toNat : Int), .bool u, .int .i64 o] 70) := ⟨_, rfl⟩
  have hk2 : Keeps Nil w1 w2 := by rw [hw2]; exact (Keeps.refl Nil w1).alloc _
  have b2 := hk2.at b1 (fun e => e)
  have d0 := (row3 b1).1
  have d1 := (row3 b1).2.1
  have d2 := (row3 b1).2.2
  have e0 := (row3 b2).1
  have e1 := (row3 b2).2.1
  have e2 := (row3 b2).2.2
  have HW := Lib.hid (And.intro hw1 (And.intro hB hw2))
  have H2 := Lib.hid (And.intro (h.keeps (k1.trans' hk2)) (k1.trans' hk2))
  have HM := Lib.hid (May_any w1 ⟨sz, u, o⟩)
  rw [TagV.cells_def, ← hw2] at HM
  have HBB := Lib.hid hbb
  clear h hno hbb hw1 hB k1 b1 hw2 hk2 b2
  cases hm : mayT ⟨sz, u, o⟩ with
  | false =>
    have HMM := Lib.hid hm
    clear hm
    go_enter Try.func71, Try.ntmps71
    go_wp2_with fail
    rw [← HW.out.1, ← HW.out.2.1]
    refine HM.out.mono ?_
    rintro e w' ⟨rfl, rfl⟩
    rw [HMM.out]
    go_wp2_with fail
    go_ret
    exact ⟨rfl, H2.out.2⟩
  | true =>
    have HMM := Lib.hid hm
    clear hm
    have HN := Lib.hid (show inT (f 16) off sz = false by have := HBB.out; rw [HMM.out] at this; simpa using this)
    go_enter Try.func71, Try.ntmps71
    go_wp2_with fail
    rw [← HW.out.1, ← HW.out.2.1]
    refine HM.out.mono ?_
    rintro e w' ⟨rfl, rfl⟩
    rw [HMM.out]
    go_wp2_with fail
    refine (in_any H2.out.1 off sz _ _ rfl rfl).mono ?_
    rintro e w3 ⟨rfl, k3⟩
    rw [HN.out]
    have H3 := Lib.hid (H2.out.2.trans' k3)
    clear k3
    go_wp2_with fail
    go_ret
    exact ⟨rfl, H3.out⟩

def g5 : TagV := ⟨48, true, 3⟩
def P5 : List Put := writeP (formW 4000) [] 3776 g5
theorem aw5_1 : writeB (txLoad (formW 4000) []) 3776 g5 = true := by kernel_rfl
theorem aw5_2 : readB (txLoad (formW 4000) P5) 3776 = true := by kernel_rfl
theorem aw5_3 : readT (txLoad (formW 4000) P5) 3776 = g5 := by kernel_rfl
theorem aw5_4 : readB (txLoad (formW 4000) P5) 3824 = false := by kernel_rfl
theorem aw5_5 : (packU g5).toNat = 12884901937 := by kernel_rfl
theorem g5_cells : g5.cells = #[.int .u64 48, .bool true, .int .i64 3] := rfl

set_option maxRecDepth 100000 in
set_option maxHeartbeats 4000000 in
theorem awake5 (w : World) : Calls Try.prog 60 #[] w fun e w' => e = .returned (.bool true) ∧ Keeps Nil w w' := by
  obtain ⟨n, hn⟩ : ∃ n, n = w.heap.size := ⟨_, rfl⟩
  obtain ⟨w1, hw1⟩ : ∃ w1, w1 = w.alloc (.cells #[.int .u64 48, .bool true, .int .i64 3] 70) := ⟨_, rfl⟩
  have k1 : Keeps Nil w w1 := by rw [hw1]; exact (Keeps.refl Nil w).alloc _
  have b1 : w1.heap[n]? = some (.cells #[.int .u64 48, .bool true, .int .i64 3] 70 (0, 0)) := by rw [hw1, hn]; exact heap_new w _
  have q1 := tag_eql 48 48 true true 3 3
  have q2 := tag_eql 0 0 false false 0 0
  have q1' : ∀ w, (binOp .eql 70 (.agg #[.int .u64 48, .bool true, .int .i64 3]) (.agg #[.int .u64 48, .bool true, .int .i64 3])).run Try.prog w = .ok (.bool true) w := fun w => q1 w
  have q2' : ∀ w, (binOp .eql 70 (.agg #[.int .u64 0, .bool false, .int .i64 0]) (.agg #[.int .u64 0, .bool false, .int .i64 0])).run Try.prog w = .ok (.bool true) w := fun w => q2 w
  clear q1 q2
  have hgd := tag_gd
  have H1 := Lib.hid (And.intro k1 b1)
  have HW := Lib.hid hw1
  have HN := Lib.hid hn
  clear k1 b1 hw1 hn
  go_enter Try.func60, Try.ntmps60
  go_wp2_with fail
  rw [← HW.out, ← HN.out]
  refine (formed05' (l := []) 4000 Look.nil _ (by rfl)).mono ?_
  rintro e w2 ⟨s, t, ab, ao, ac, a2, n2, cc2, rfl, L2⟩
  have L2' : Live w1 w2 s t [] (formW 4000) Top := L2.reads (fun _ _ _ => trivial)
  obtain ⟨w3, hw3⟩ : ∃ w3, w3 = w2.alloc (.cells #[.slice (some ⟨ab, ao, none⟩) 600 ac, .slice a2 n2 cc2] 28) := ⟨_, rfl⟩
  have L3 := L2'.quiet (w' := w3) Stable.top (by rw [hw3]; exact (Keeps.refl Nil _).alloc _)
  have d0 := (row3 (L3.keeps.at H1.out.2 (fun e => e))).1
  have d1 := (row3 (L3.keeps.at H1.out.2 (fun e => e))).2.1
  have d2 := (row3 (L3.keeps.at H1.out.2 (fun e => e))).2.2
  have c0 := (row3 (L2'.keeps.at H1.out.2 (fun e => e))).1
  have c1 := (row3 (L2'.keeps.at H1.out.2 (fun e => e))).2.1
  have c2 := (row3 (L2'.keeps.at H1.out.2 (fun e => e))).2.2
  have hlt : n < w2.heap.size := getElem?_lt (L2'.keeps.at H1.out.2 (fun e => e))
  have HW3 := Lib.hid hw3
  have HL3 := Lib.hid L3
  clear L2 L2' hw3 L3
  go_wp2_with fail
  rw [← HW3.out]
  refine (HL3.out.tagWrite Stable.top 3776 g5 (by decide) _ (by rfl)).mono ?_
  rintro e w4 ⟨rfl, L4⟩
  rw [aw5_1, codeOf_true]
  have L4' : Live w1 w4 s t P5 (formW 4000) Top := L4
  have HL4 := Lib.hid L4'
  clear L4 L4' c0 c1 c2 d0 d1 d2 hlt
  go_wp2_with fail
  refine (Read_any HL4.out.tells 3776 _ (by rfl)).mono ?_
  rintro e w5 ⟨rfl, k5⟩
  rw [aw5_2, aw5_3, codeOf_true, g5_cells]
  obtain ⟨w6, hw6⟩ : ∃ w6, w6 = w5.alloc (.cells #[.int .u64 48, .bool true, .int .i64 3] 70) := ⟨_, rfl⟩
  have hk6 : Keeps Nil w5 w6 := by rw [hw6]; exact (Keeps.refl Nil _).alloc _
  have b6 : w6.heap[w5.heap.size]? = some (.cells #[.int .u64 48, .bool true, .int .i64 3] 70 (0, 0)) := by rw [hw6]; exact heap_new _ _
  have HL6 := Lib.hid (And.intro ((HL4.out.quiet Stable.top k5).quiet Stable.top hk6) b6)
  have HW6 := Lib.hid hw6
  clear k5 hk6 hw6 b6
  go_wp2_with fail
  rw [← HW6.out]
  refine (Read_any HL6.out.1.tells 3824 _ (by rfl)).mono ?_
  rintro e w7 ⟨rfl, k7⟩
  rw [aw5_4, readT_no aw5_4, codeOf_false]
  obtain ⟨w8, hw8⟩ : ∃ w8, w8 = w7.alloc (.cells #[.int .u64 0, .bool false, .int .i64 0] 70) := ⟨_, rfl⟩
  have hk8 : Keeps Nil w7 w8 := by rw [hw8]; exact (Keeps.refl Nil _).alloc _
  have b8 : w8.heap[w7.heap.size]? = some (.cells #[.int .u64 0, .bool false, .int .i64 0] 70 (0, 0)) := by rw [hw8]; exact heap_new _ _
  have L8 := (HL6.out.1.quiet Stable.top k7).quiet Stable.top hk8
  have b6 := hk8.at (k7.at HL6.out.2 (fun e => e)) (fun e => e)
  have bn := L8.keeps.at H1.out.2 (fun e => e)
  have bn7 := (HL6.out.1.quiet Stable.top k7).keeps.at H1.out.2 (fun e => e)
  have d0 := (row3 bn).1
  have d1 := (row3 bn).2.1
  have d2 := (row3 bn).2.2
  have c0 := (row3 bn7).1
  have c1 := (row3 bn7).2.1
  have c2 := (row3 bn7).2.2
  have hlt : n < w7.heap.size := getElem?_lt bn7
  have HL8 := Lib.hid (And.intro L8 (And.intro b6 (And.intro b8 bn)))
  have HW8 := Lib.hid hw8
  have hcell : TagV.zero.cells = #[.int .u64 0, .bool false, .int .i64 0] := rfl
  rw [hcell]
  clear k7 hk8 b8 L8 b6 bn bn7 hw8 hcell
  go_wp2_with fail
  rw [← HW8.out]
  refine (Pack_any w8 g5).mono ?_
  rintro e w9 ⟨rfl, k9⟩
  rw [aw5_5]
  have b6 := k9.at HL8.out.2.1 (fun e => e)
  have b8 := k9.at HL8.out.2.2.1 (fun e => e)
  have bn := k9.at HL8.out.2.2.2 (fun e => e)
  clear c0 c1 c2 d0 d1 d2 hlt
  have c0 := (row3 b6).1
  have c1 := (row3 b6).2.1
  have c2 := (row3 b6).2.2
  have d0 := (row3 b8).1
  have d1 := (row3 b8).2.1
  have d2 := (row3 b8).2.2
  have f0 := (row3 bn).1
  have f1 := (row3 bn).2.1
  have f2 := (row3 bn).2.2
  have HK := Lib.hid (HL8.out.1.keeps.trans' k9)
  clear k9 b6 b8 bn
  go_wp2_with fail
  go_ret
  exact ⟨rfl, H1.out.1.trans' HK.out⟩
end Go.Proofs.Ytccllkgaakmdhaa
