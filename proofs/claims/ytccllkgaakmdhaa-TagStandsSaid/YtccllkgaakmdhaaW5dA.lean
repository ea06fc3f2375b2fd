/- carracklaw05.TagStands: cases a1, b1, c1. -/
import Derived.Test.YtccllkgaakmdhaaW5dN
import Derived.Test.YtccllkgaakmdhaaW5c
namespace Go.Proofs.Ytccllkgaakmdhaa
open Go.RowKit

set_option maxRecDepth 100000 in
set_option maxHeartbeats 8000000 in
theorem stands_a1 {w : World} (off : UInt64) (g : TagV) (po pv : UInt64) (hB : writeB (txLoad ws44 []) off g = true) (hrd : readB (txLoad ws44 (txStore ws44 (writeP ws44 [] off g) po pv)) off = true) (hgg : readT (txLoad ws44 (txStore ws44 (writeP ws44 [] off g) po pv)) off = g) (h1 : po = off) (hv : pv = txLoad ws44 (writeP ws44 [] off g) po) (h16 : po ≠ 16) : Calls Try.prog 19 #[.int .u64 (off.toNat : Int), .agg g.cells, .agg #[.int .u64 (po.toNat : Int), .int .u64 (pv.toNat : Int)]] w fun e w' => e = .returned (.bool true) ∧ Keeps Nil w w' := by
  obtain ⟨gs, gu, go⟩ := g
  obtain ⟨bs, bu, bo, hbb⟩ : ∃ bs bu bo, readT (txLoad ws44 (txStore ws44 (writeP ws44 [] off ⟨gs, gu, go⟩) po pv)) off = ⟨bs, bu, bo⟩ := ⟨_, _, _, rfl⟩
  have HRD := Lib.hid (And.intro hrd hbb)
  rw [hgg] at hbb
  obtain ⟨rfl, rfl, rfl⟩ := TagV.mk.inj hbb
  have qb := tag_neq_self gs gu go
  obtain ⟨was, hwas⟩ : ∃ was, was = txLoad ws44 (writeP ws44 [] off ⟨gs, gu, go⟩) po := ⟨_, rfl⟩
  obtain ⟨y1, hy1⟩ : ∃ y, y = off + gs := ⟨_, rfl⟩
  obtain ⟨y2, hy2⟩ : ∃ y, y = off + gs - 8 := ⟨_, rfl⟩
  have q1 := add_eq off gs
  have q2 := sub8_eq (off + gs)
  rw [← hy1] at q1 q2
  rw [← hy1] at hy2
  rw [← hy2] at q2
  have t1 := (same_u64 h1).2
  have t3 : ((pv.toNat : Int) != (was.toNat : Int)) = false := (same_u64 (by rw [hwas]; exact hv)).1
  have t4 : ((po.toNat : Int) == 16) = false := (unlike_u64 (b := 16) h16).2
  have HB := Lib.hid hB
  have HWAS := Lib.hid hwas
  clear hB hrd hwas hy1 hy2 h1 hgg hbb hv h16
  rw [TagV.cells_def]
  have hgd := tag_gd
  obtain ⟨n, hn⟩ : ∃ n, n = w.heap.size := ⟨_, rfl⟩
  obtain ⟨w0, hw0⟩ : ∃ w0, w0 = (w.alloc (.cells #[.int .u64 (gs.toNat : Int), .bool gu, .int .i64 go] 69)).alloc (.cells #[.int .u64 (po.toNat : Int), .int .u64 (pv.toNat : Int)] 38) := ⟨_, rfl⟩
  have k0 : Keeps Nil w w0 := by rw [hw0]; exact ((Keeps.refl Nil _).alloc _).alloc _
  have b0 : w0.heap[n]? = some (.cells #[.int .u64 (gs.toNat : Int), .bool gu, .int .i64 go] 69 (0, 0)) := by rw [hw0, hn]; exact heap_old _ _ (heap_new _ _)
  have b1 : w0.heap[n + 1]? = some (.cells #[.int .u64 (po.toNat : Int), .int .u64 (pv.toNat : Int)] 38 (0, 0)) := by
    rw [hw0, hn]
    have := heap_new (w.alloc (.cells #[.int .u64 (gs.toNat : Int), .bool gu, .int .i64 go] 69)) (.cells #[.int .u64 (po.toNat : Int), .int .u64 (pv.toNat : Int)] 38)
    simpa using this
  have H0 := Lib.hid (And.intro k0 (And.intro b0 b1))
  have HW0 := Lib.hid hw0
  have HN := Lib.hid hn
  clear hn hw0 k0 b0 b1
  go_enter Try.func19, Try.ntmps19
  go_wp2_with fail
  rw [← HW0.out, ← HN.out]
  refine (awake5 _).mono ?_
  rintro e w1 ⟨rfl, k1⟩
  have H1 := Lib.hid k1
  clear k1
  go_wp2_with fail
  refine (formed05' (l := []) 4480 Look.nil _ (by rfl)).mono ?_
  rintro e w2 ⟨sg, t, ab, ao, ac, a2, n2, cc2, rfl, L⟩
  have L2 : Live w1 w2 sg t [] ws44 Top := L.reads (fun _ _ _ => trivial)
  obtain ⟨w3, hw3⟩ : ∃ w3, w3 = w2.alloc (.cells #[.slice (some ⟨ab, ao, none⟩) 600 ac, .slice a2 n2 cc2] 28) := ⟨_, rfl⟩
  have L3 := L2.quiet (w' := w3) Stable.top (by rw [hw3]; exact (Keeps.refl Nil _).alloc _)
  have C0 := cells_at H0.out.2.1 (H1.out.trans' L2.keeps)
  have D0 := cells_at H0.out.2.1 (H1.out.trans' L3.keeps)
  have hlt : n + 1 < w2.heap.size := getElem?_lt ((H1.out.trans' L2.keeps).at H0.out.2.2 (fun e => e))
  have hlt0 : n < w2.heap.size := getElem?_lt ((H1.out.trans' L2.keeps).at H0.out.2.1 (fun e => e))
  have H3 := Lib.hid L3
  have HW3 := Lib.hid hw3
  have c00 := C0.1
  have c01 := C0.2.1
  have c02 := C0.2.2
  have d00 := D0.1
  have d01 := D0.2.1
  have d02 := D0.2.2
  clear L L2 L3 C0 D0 hw3
  go_wp2_with fail
  rw [← HW3.out]
  refine (made5 _ ⟨gs, gu, go⟩).mono ?_
  rintro e w4 ⟨rfl, k4⟩
  rw [TagV.cells_def]
  have H4 := Lib.hid (H3.out.quiet Stable.top k4)
  clear k4 c00 c01 c02 d00 d01 d02 hlt hlt0
  go_wp2_with fail
  refine (H4.out.tagWrite Stable.top off ⟨gs, gu, go⟩ (by decide) _ rfl).mono ?_
  rintro e w5 ⟨rfl, L5⟩
  rw [HB.out]
  rw [codeOf_true]
  obtain ⟨l1, hl1⟩ : ∃ l1, l1 = writeP ws44 [] off ⟨gs, gu, go⟩ := ⟨_, rfl⟩
  rw [← hl1] at L5
  have hlen : l1.length ≤ 2 := by rw [hl1]; exact writeP_length _ _ _ _
  have HL1 := Lib.hid hl1
  have HLEN := Lib.hid hlen
  have H5 := Lib.hid L5
  clear L5 hl1 hlen
  go_wp2_with fail
  refine (Read_any H5.out.tells off _ rfl).mono ?_
  rintro e w6 ⟨rfl, k6⟩
  rw [HL1.out, (stands_read HB.out).1, (stands_read HB.out).2, codeOf_true, TagV.cells_def]
  obtain ⟨w7, hw7⟩ : ∃ w7, w7 = w6.alloc (.cells #[.int .u64 (gs.toNat : Int), .bool gu, .int .i64 go] 70) := ⟨_, rfl⟩
  have k67 : Keeps Nil w6 w7 := by rw [hw7]; exact (Keeps.refl Nil _).alloc _
  have b7 : w7.drew.heap[w6.heap.size]? = some (.cells #[.int .u64 (gs.toNat : Int), .bool gu, .int .i64 go] 70 (0, 0)) := by rw [hw7]; exact heap_new _ _
  have L7 := ((H5.out.quiet Stable.top k6).quiet Stable.top k67).quiet Stable.top (keeps_drew _)
  have H7 := Lib.hid (And.intro L7 b7)
  have HW7 := Lib.hid hw7
  have qn := tag_neq_self gs gu go
  have hKK : Keeps Nil w7.drew w7.drew := Keeps.refl _ _
  clear k6 k67 hw7 b7 L7
  go_wp2_with fail
  rw [← HW7.out]
  go_region_held3 (fun w' => (w'.cell? ⟨w6.heap.size, 0, none⟩ = some (.int .u64 (gs.toNat : Int)) ∧ w'.cell? ⟨w6.heap.size, 1, none⟩ = some (.bool gu) ∧ w'.cell? ⟨w6.heap.size, 2, none⟩ = some (.int .i64 go)) ∧
      (w'.cell? ⟨n, 0, none⟩ = some (.int .u64 (gs.toNat : Int)) ∧ w'.cell? ⟨n, 1, none⟩ = some (.bool gu) ∧ w'.cell? ⟨n, 2, none⟩ = some (.int .i64 go)))
    (exact ⟨cells_at H7.out.2 hKK, cells_at H0.out.2.1 ((H1.out.trans' H7.out.1.keeps).trans' hKK)⟩)
    (first
      | (go_at_call 64; refine (made5 _ ⟨_, _, _⟩).mono ?_; rintro e w' ⟨rfl, kn⟩; rw [TagV.cells_def]; have hKK := hKK.trans' kn))
  have H8 := Lib.hid (H7.out.1.quiet Stable.top hKK)
  have P0 := put_at H0.out.2.2 (H1.out.trans' H8.out.keeps)
  have p0 := P0.1
  have p1 := P0.2
  clear hKK P0 qn
  go_wp2_with fail
  refine (H8.out.tells.load _ (Keeps.refl _ _) po _ rfl).mono ?_
  rintro e w9 ⟨rfl, k9⟩
  rw [HL1.out, ← HWAS.out]
  have H9 := Lib.hid (H8.out.quiet Stable.top k9)
  clear k9 p0 p1
  have P0 := put_at H0.out.2.2 (H1.out.trans' H9.out.keeps)
  have p0 := P0.1
  have p1 := P0.2
  clear P0
  go_wp2_with fail
  refine (H9.out.store Stable.top po pv (by have := HLEN.out; omega) _ _ rfl rfl).mono ?_
  rintro e w10 ⟨rfl, L10⟩
  have H10 := Lib.hid L10
  clear L10 p0 p1
  go_wp2_with fail
  refine (Read_any H10.out.tells off _ rfl).mono ?_
  rintro e w11 ⟨rfl, k11⟩
  rw [HL1.out, HRD.out.1, HRD.out.2, TagV.cells_def, codeOf_true]
  obtain ⟨w12, hw12⟩ : ∃ w12, w12 = w11.alloc (.cells #[.int .u64 (gs.toNat : Int), .bool gu, .int .i64 go] 70) := ⟨_, rfl⟩
  have k12 : Keeps Nil w11 w12 := by rw [hw12]; exact (Keeps.refl Nil _).alloc _
  have b12 : w12.drew.heap[w11.heap.size]? = some (.cells #[.int .u64 (gs.toNat : Int), .bool gu, .int .i64 go] 70 (0, 0)) := by rw [hw12]; exact heap_new _ _
  have L12 := (H10.out.quiet Stable.top k11).quiet Stable.top k12
  have P0 := put_at H0.out.2.2 (H1.out.trans' L12.keeps)
  have P1 := put_at H0.out.2.2 (H1.out.trans' (H10.out.quiet Stable.top k11).keeps)
  have G0 := cells_at H0.out.2.1 (H1.out.trans' L12.keeps)
  have G1 := cells_at H0.out.2.1 (H1.out.trans' (H10.out.quiet Stable.top k11).keeps)
  have hlt : n + 1 < w11.heap.size := getElem?_lt ((H1.out.trans' (H10.out.quiet Stable.top k11).keeps).at H0.out.2.2 (fun e => e))
  have hlt0 : n < w11.heap.size := by omega
  have p0 := P0.1
  have p1 := P0.2
  have r0 := P1.1
  have r1 := P1.2
  have g00 := G0.1
  have g10 := G1.1
  have H12 := Lib.hid (And.intro (L12.quiet Stable.top (keeps_drew _)) b12)
  have HW12 := Lib.hid hw12
  have hKK : Keeps Nil w12.drew w12.drew := Keeps.refl _ _
  clear k11 hw12 k12 b12 L12 P0 P1 G0 G1
  go_wp2_with fail
  rw [← HW12.out]
  clear p0 p1 r0 r1 g00 g10 hlt hlt0
  refine wp_region_held_drew (S := fun w' => (w'.cell? ⟨w11.heap.size, 0, none⟩ = some (.int .u64 (gs.toNat : Int)) ∧ w'.cell? ⟨w11.heap.size, 1, none⟩ = some (.bool gu) ∧ w'.cell? ⟨w11.heap.size, 2, none⟩ = some (.int .i64 go)) ∧ (w'.cell? ⟨n, 0, none⟩ = some (.int .u64 (gs.toNat : Int)) ∧ w'.cell? ⟨n, 1, none⟩ = some (.bool gu) ∧ w'.cell? ⟨n, 2, none⟩ = some (.int .i64 go)) ∧ (w'.cell? ⟨n + 1, 0, none⟩ = some (.int .u64 (po.toNat : Int)) ∧ w'.cell? ⟨n + 1, 1, none⟩ = some (.int .u64 (pv.toNat : Int)))) (by kernel_rfl) ⟨cells_at H12.out.2 hKK, cells_at H0.out.2.1 ((H1.out.trans' H12.out.1.keeps).trans' hKK), put_at H0.out.2.2 ((H1.out.trans' H12.out.1.keeps).trans' hKK)⟩ (fun hHeld => ?_)
  refine wpAnyH_take (i := 0) (oi := _) (v := ?m1v0) rfl (by kernel_rfl) (by kernel_rfl) (by kernel_rfl) (fun _ _ _ h => h) (Or.inl ⟨by kernel_rfl, ?m1h0⟩) hHeld ?m1r0
  case m1h0 => (intro w hSw; (try dsimp only at hSw); go_simp; try with_reducible rfl)
  try simp only [Act.put, List.getElem_toArray, List.getElem_cons_succ, List.getElem_cons_zero, List.setIfInBounds_toArray, List.set_cons_zero, List.set_cons_succ]
  refine wpAnyH_take (i := 1) (oi := _) (v := ?m1v1) rfl (by kernel_rfl) (by kernel_rfl) (by kernel_rfl) (fun _ _ _ h => h) (Or.inl ⟨by kernel_rfl, ?m1h1⟩) hHeld ?m1r1
  case m1h1 => (intro w hSw; (try dsimp only at hSw); go_simp; try with_reducible rfl)
  try simp only [Act.put, List.getElem_toArray, List.getElem_cons_succ, List.getElem_cons_zero, List.setIfInBounds_toArray, List.set_cons_zero, List.set_cons_succ]
  refine wpAnyH_take (i := 2) (oi := _) (v := ?m1v2) rfl (by kernel_rfl) (by kernel_rfl) (by kernel_rfl) (fun _ _ _ h => h) (Or.inl ⟨by kernel_rfl, ?m1h2⟩) hHeld ?m1r2
  case m1h2 => (intro w hSw; (try dsimp only at hSw); go_simp; try with_reducible rfl)
  try simp only [Act.put, List.getElem_toArray, List.getElem_cons_succ, List.getElem_cons_zero, List.setIfInBounds_toArray, List.set_cons_zero, List.set_cons_succ]
  refine wpAnyH_take (i := 3) (oi := _) (v := ?m1v3) rfl (by kernel_rfl) (by kernel_rfl) (by kernel_rfl) (fun _ _ _ h => h) (Or.inl ⟨by kernel_rfl, ?m1h3⟩) hHeld ?m1r3
  case m1h3 => (intro w hSw; (try dsimp only at hSw); go_simp; try with_reducible rfl)
  try simp only [Act.put, List.getElem_toArray, List.getElem_cons_succ, List.getElem_cons_zero, List.setIfInBounds_toArray, List.set_cons_zero, List.set_cons_succ]
  refine wpAnyH_take (i := 4) (oi := _) (v := ?m1v4) rfl (by kernel_rfl) (by kernel_rfl) (by kernel_rfl) (fun _ _ _ h => h) (Or.inl ⟨by kernel_rfl, ?m1h4⟩) hHeld ?m1r4
  case m1h4 => (intro w hSw; (try dsimp only at hSw); go_simp; try with_reducible rfl)
  try simp only [Act.put, List.getElem_toArray, List.getElem_cons_succ, List.getElem_cons_zero, List.setIfInBounds_toArray, List.set_cons_zero, List.set_cons_succ]
  refine wpAnyH_take (i := 5) (oi := _) (v := ?m1v5) rfl (by kernel_rfl) (by kernel_rfl) (by kernel_rfl) (fun _ _ _ h => h) (Or.inl ⟨by kernel_rfl, ?m1h5⟩) hHeld ?m1r5
  case m1h5 => (intro w hSw; (try dsimp only at hSw); go_simp; try with_reducible rfl)
  try simp only [Act.put, List.getElem_toArray, List.getElem_cons_succ, List.getElem_cons_zero, List.setIfInBounds_toArray, List.set_cons_zero, List.set_cons_succ]
  refine wpAnyH_take (i := 6) (oi := _) (v := ?m1v6) rfl (by kernel_rfl) (by kernel_rfl) (by kernel_rfl) (fun _ _ _ h => h) (Or.inl ⟨by kernel_rfl, ?m1h6⟩) hHeld ?m1r6
  case m1h6 => (intro w hSw; (try dsimp only at hSw); go_simp; try with_reducible rfl)
  try simp only [Act.put, List.getElem_toArray, List.getElem_cons_succ, List.getElem_cons_zero, List.setIfInBounds_toArray, List.set_cons_zero, List.set_cons_succ]
  refine wpAnyH_take (i := 10) (oi := _) (v := ?m1v10) rfl (by kernel_rfl) (by kernel_rfl) (by kernel_rfl) (fun _ _ _ h => h) (Or.inl ⟨by kernel_rfl, ?m1h10⟩) hHeld ?m1r10
  case m1h10 => (intro w hSw; (try dsimp only at hSw); go_simp; try with_reducible rfl)
  try simp only [Act.put, List.getElem_toArray, List.getElem_cons_succ, List.getElem_cons_zero, List.setIfInBounds_toArray, List.set_cons_zero, List.set_cons_succ]
  refine wpAnyH_ready (rs := [7]) (by kernel_rfl) (by simp) ?_
  refine AllReadyH.cons (o := _) rfl (fun K hK => ?_) AllReadyH.nil
  go_simp
  refine (made5 _ ⟨gs, gu, go⟩).mono ?_; rintro e w' ⟨rfl, kn⟩; rw [TagV.cells_def]; have hKK := hKK.trans' kn
  refine hK.out _ _ (⟨cells_at H12.out.2 hKK, cells_at H0.out.2.1 ((H1.out.trans' H12.out.1.keeps).trans' hKK), put_at H0.out.2.2 ((H1.out.trans' H12.out.1.keeps).trans' hKK)⟩) (fun hHeld => ?_)
  clear hK K
  try simp only [Act.put, List.getElem_toArray, List.getElem_cons_succ, List.getElem_cons_zero, List.setIfInBounds_toArray, List.set_cons_zero, List.set_cons_succ]
  refine wpAnyH_take (i := 8) (oi := _) (v := ?m1v8) rfl (by kernel_rfl) (by kernel_rfl) (by kernel_rfl) (fun _ _ _ h => h) (Or.inl ⟨by kernel_rfl, ?m1h8⟩) hHeld ?m1r8
  case m1h8 => (intro w hSw; (try dsimp only at hSw); go_simp; try with_reducible rfl)
  try simp only [Act.put, List.getElem_toArray, List.getElem_cons_succ, List.getElem_cons_zero, List.setIfInBounds_toArray, List.set_cons_zero, List.set_cons_succ]
  refine wpAnyH_take (i := 9) (oi := _) (v := ?m1v9) rfl (by kernel_rfl) (by kernel_rfl) (by kernel_rfl) (fun _ _ _ h => h) (Or.inl ⟨by kernel_rfl, ?m1h9⟩) hHeld ?m1r9
  case m1h9 => (intro w hSw; (try dsimp only at hSw); go_simp; try with_reducible rfl)
  try simp only [Act.put, List.getElem_toArray, List.getElem_cons_succ, List.getElem_cons_zero, List.setIfInBounds_toArray, List.set_cons_zero, List.set_cons_succ]
  refine wpAnyH_take (i := 11) (oi := _) (v := ?m1v11) rfl (by kernel_rfl) (by kernel_rfl) (by kernel_rfl) (fun _ _ _ h => h) (Or.inl ⟨by kernel_rfl, ?m1h11⟩) hHeld ?m1r11
  case m1h11 => (intro w hSw; (try dsimp only at hSw); go_simp; try with_reducible rfl)
  try simp only [Act.put, List.getElem_toArray, List.getElem_cons_succ, List.getElem_cons_zero, List.setIfInBounds_toArray, List.set_cons_zero, List.set_cons_succ]
  refine wpAnyH_take (i := 12) (oi := _) (v := ?m1v12) rfl (by kernel_rfl) (by kernel_rfl) (by kernel_rfl) (fun _ _ _ h => h) (Or.inl ⟨by kernel_rfl, ?m1h12⟩) hHeld ?m1r12
  case m1h12 => (intro w hSw; (try dsimp only at hSw); go_simp; try with_reducible rfl)
  try simp only [Act.put, List.getElem_toArray, List.getElem_cons_succ, List.getElem_cons_zero, List.setIfInBounds_toArray, List.set_cons_zero, List.set_cons_succ]
  refine wpAnyH_take (i := 13) (oi := _) (v := ?m1v13) rfl (by kernel_rfl) (by kernel_rfl) (by kernel_rfl) (fun _ _ _ h => h) (Or.inl ⟨by kernel_rfl, ?m1h13⟩) hHeld ?m1r13
  case m1h13 => (intro w hSw; (try dsimp only at hSw); go_simp; try with_reducible rfl)
  try simp only [Act.put, List.getElem_toArray, List.getElem_cons_succ, List.getElem_cons_zero, List.setIfInBounds_toArray, List.set_cons_zero, List.set_cons_succ]
  refine wpAnyH_take (i := 14) (oi := _) (v := ?m1v14) rfl (by kernel_rfl) (by kernel_rfl) (by kernel_rfl) (fun _ _ _ h => h) (Or.inl ⟨by kernel_rfl, ?m1h14⟩) hHeld ?m1r14
  case m1h14 => (intro w hSw; (try dsimp only at hSw); go_simp; try with_reducible rfl)
  try simp only [Act.put, List.getElem_toArray, List.getElem_cons_succ, List.getElem_cons_zero, List.setIfInBounds_toArray, List.set_cons_zero, List.set_cons_succ]
  refine wpAnyH_take (i := 15) (oi := _) (v := ?m1v15) rfl (by kernel_rfl) (by kernel_rfl) (by kernel_rfl) (fun _ _ _ h => h) (Or.inl ⟨by kernel_rfl, ?m1h15⟩) hHeld ?m1r15
  case m1h15 => (intro w hSw; (try dsimp only at hSw); go_simp; try with_reducible rfl)
  try simp only [Act.put, List.getElem_toArray, List.getElem_cons_succ, List.getElem_cons_zero, List.setIfInBounds_toArray, List.set_cons_zero, List.set_cons_succ]
  refine wpAnyH_take (i := 16) (oi := _) (v := ?m1v16) rfl (by kernel_rfl) (by kernel_rfl) (by kernel_rfl) (fun _ _ _ h => h) (Or.inl ⟨by kernel_rfl, ?m1h16⟩) hHeld ?m1r16
  case m1h16 => (intro w hSw; (try dsimp only at hSw); go_simp; try with_reducible rfl)
  try simp only [Act.put, List.getElem_toArray, List.getElem_cons_succ, List.getElem_cons_zero, List.setIfInBounds_toArray, List.set_cons_zero, List.set_cons_succ]
  refine wpAnyH_take (i := 17) (oi := _) (v := ?m1v17) rfl (by kernel_rfl) (by kernel_rfl) (by kernel_rfl) (fun _ _ _ h => h) (Or.inl ⟨by kernel_rfl, ?m1h17⟩) hHeld ?m1r17
  case m1h17 => (intro w hSw; (try dsimp only at hSw); go_simp; try with_reducible rfl)
  try simp only [Act.put, List.getElem_toArray, List.getElem_cons_succ, List.getElem_cons_zero, List.setIfInBounds_toArray, List.set_cons_zero, List.set_cons_succ]
  refine wpAnyH_take (i := 18) (oi := _) (v := ?m1v18) rfl (by kernel_rfl) (by kernel_rfl) (by kernel_rfl) (fun _ _ _ h => h) (Or.inl ⟨by kernel_rfl, ?m1h18⟩) hHeld ?m1r18
  case m1h18 => (intro w hSw; (try dsimp only at hSw); go_simp; try with_reducible rfl)
  try simp only [Act.put, List.getElem_toArray, List.getElem_cons_succ, List.getElem_cons_zero, List.setIfInBounds_toArray, List.set_cons_zero, List.set_cons_succ]
  refine wpAnyH_take (i := 19) (oi := _) (v := ?m1v19) rfl (by kernel_rfl) (by kernel_rfl) (by kernel_rfl) (fun _ _ _ h => h) (Or.inl ⟨by kernel_rfl, ?m1h19⟩) hHeld ?m1r19
  case m1h19 => (intro w hSw; (try dsimp only at hSw); go_simp; try with_reducible rfl)
  try simp only [Act.put, List.getElem_toArray, List.getElem_cons_succ, List.getElem_cons_zero, List.setIfInBounds_toArray, List.set_cons_zero, List.set_cons_succ]
  refine wpAnyH_take (i := 20) (oi := _) (v := ?m1v20) rfl (by kernel_rfl) (by kernel_rfl) (by kernel_rfl) (fun _ _ _ h => h) (Or.inl ⟨by kernel_rfl, ?m1h20⟩) hHeld ?m1r20
  case m1h20 => (intro w hSw; (try dsimp only at hSw); go_simp; try with_reducible rfl)
  try simp only [Act.put, List.getElem_toArray, List.getElem_cons_succ, List.getElem_cons_zero, List.setIfInBounds_toArray, List.set_cons_zero, List.set_cons_succ]
  refine wpAnyH_take (i := 21) (oi := _) (v := ?m1v21) rfl (by kernel_rfl) (by kernel_rfl) (by kernel_rfl) (fun _ _ _ h => h) (Or.inl ⟨by kernel_rfl, ?m1h21⟩) hHeld ?m1r21
  case m1h21 => (intro w hSw; (try dsimp only at hSw); go_simp; try with_reducible rfl)
  try simp only [Act.put, List.getElem_toArray, List.getElem_cons_succ, List.getElem_cons_zero, List.setIfInBounds_toArray, List.set_cons_zero, List.set_cons_succ]
  refine wpAnyH_take (i := 22) (oi := _) (v := undef) rfl (by kernel_rfl) (by kernel_rfl) (by kernel_rfl) (fun _ _ _ h => h) (Or.inr ⟨by kernel_rfl, rfl⟩) hHeld ?_
  try simp only [Act.put, List.getElem_toArray, List.getElem_cons_succ, List.getElem_cons_zero, List.setIfInBounds_toArray, List.set_cons_zero, List.set_cons_succ]
  refine wpAnyH_take (i := 23) (oi := _) (v := undef) rfl (by kernel_rfl) (by kernel_rfl) (by kernel_rfl) (fun _ _ _ h => h) (Or.inr ⟨by kernel_rfl, rfl⟩) hHeld ?_
  try simp only [Act.put, List.getElem_toArray, List.getElem_cons_succ, List.getElem_cons_zero, List.setIfInBounds_toArray, List.set_cons_zero, List.set_cons_succ]
  refine wpAnyH_take (i := 24) (oi := _) (v := undef) rfl (by kernel_rfl) (by kernel_rfl) (by kernel_rfl) (fun _ _ _ h => h) (Or.inr ⟨by kernel_rfl, rfl⟩) hHeld ?_
  try simp only [Act.put, List.getElem_toArray, List.getElem_cons_succ, List.getElem_cons_zero, List.setIfInBounds_toArray, List.set_cons_zero, List.set_cons_succ]
  refine wpAnyH_take (i := 25) (oi := _) (v := undef) rfl (by kernel_rfl) (by kernel_rfl) (by kernel_rfl) (fun _ _ _ h => h) (Or.inr ⟨by kernel_rfl, rfl⟩) hHeld ?_
  try simp only [Act.put, List.getElem_toArray, List.getElem_cons_succ, List.getElem_cons_zero, List.setIfInBounds_toArray, List.set_cons_zero, List.set_cons_succ]
  refine wpAnyH_take (i := 26) (oi := _) (v := undef) rfl (by kernel_rfl) (by kernel_rfl) (by kernel_rfl) (fun _ _ _ h => h) (Or.inr ⟨by kernel_rfl, rfl⟩) hHeld ?_
  try simp only [Act.put, List.getElem_toArray, List.getElem_cons_succ, List.getElem_cons_zero, List.setIfInBounds_toArray, List.set_cons_zero, List.set_cons_succ]
  refine wpAnyH_take (i := 27) (oi := _) (v := undef) rfl (by kernel_rfl) (by kernel_rfl) (by kernel_rfl) (fun _ _ _ h => h) (Or.inr ⟨by kernel_rfl, rfl⟩) hHeld ?_
  try simp only [Act.put, List.getElem_toArray, List.getElem_cons_succ, List.getElem_cons_zero, List.setIfInBounds_toArray, List.set_cons_zero, List.set_cons_succ]
  refine wpAnyH_take (i := 28) (oi := _) (v := undef) rfl (by kernel_rfl) (by kernel_rfl) (by kernel_rfl) (fun _ _ _ h => h) (Or.inr ⟨by kernel_rfl, rfl⟩) hHeld ?_
  try simp only [Act.put, List.getElem_toArray, List.getElem_cons_succ, List.getElem_cons_zero, List.setIfInBounds_toArray, List.set_cons_zero, List.set_cons_succ]
  refine wpAnyH_take (i := 29) (oi := _) (v := ?m1v29) rfl (by kernel_rfl) (by kernel_rfl) (by kernel_rfl) (fun _ _ _ h => h) (Or.inl ⟨by kernel_rfl, ?m1h29⟩) hHeld ?m1r29
  case m1h29 => (intro w hSw; (try dsimp only at hSw); go_simp; try with_reducible rfl)
  try simp only [Act.put, List.getElem_toArray, List.getElem_cons_succ, List.getElem_cons_zero, List.setIfInBounds_toArray, List.set_cons_zero, List.set_cons_succ]
  refine wpAnyH_take (i := 30) (oi := _) (v := ?m1v30) rfl (by kernel_rfl) (by kernel_rfl) (by kernel_rfl) (fun _ _ _ h => h) (Or.inl ⟨by kernel_rfl, ?m1h30⟩) hHeld ?m1r30
  case m1h30 => (intro w hSw; (try dsimp only at hSw); go_simp; try with_reducible rfl)
  try simp only [Act.put, List.getElem_toArray, List.getElem_cons_succ, List.getElem_cons_zero, List.setIfInBounds_toArray, List.set_cons_zero, List.set_cons_succ]
  refine wpAnyH_take (i := 31) (oi := _) (v := ?m1v31) rfl (by kernel_rfl) (by kernel_rfl) (by kernel_rfl) (fun _ _ _ h => h) (Or.inl ⟨by kernel_rfl, ?m1h31⟩) hHeld ?m1r31
  case m1h31 => (intro w hSw; (try dsimp only at hSw); go_simp; try with_reducible rfl)
  try simp only [Act.put, List.getElem_toArray, List.getElem_cons_succ, List.getElem_cons_zero, List.setIfInBounds_toArray, List.set_cons_zero, List.set_cons_succ]
  refine wpAnyH_take (i := 32) (oi := _) (v := ?m1v32) rfl (by kernel_rfl) (by kernel_rfl) (by kernel_rfl) (fun _ _ _ h => h) (Or.inl ⟨by kernel_rfl, ?m1h32⟩) hHeld ?m1r32
  case m1h32 => (intro w hSw; (try dsimp only at hSw); go_simp; try with_reducible rfl)
  try simp only [Act.put, List.getElem_toArray, List.getElem_cons_succ, List.getElem_cons_zero, List.setIfInBounds_toArray, List.set_cons_zero, List.set_cons_succ]
  refine wpAnyH_take (i := 33) (oi := _) (v := ?m1v33) rfl (by kernel_rfl) (by kernel_rfl) (by kernel_rfl) (fun _ _ _ h => h) (Or.inl ⟨by kernel_rfl, ?m1h33⟩) hHeld ?m1r33
  case m1h33 => (intro w hSw; (try dsimp only at hSw); go_simp; try with_reducible rfl)
  try simp only [Act.put, List.getElem_toArray, List.getElem_cons_succ, List.getElem_cons_zero, List.setIfInBounds_toArray, List.set_cons_zero, List.set_cons_succ]
  refine wpAnyH_done (by kernel_rfl) ?_ _
  have HK := Lib.hid ((H0.out.1.trans' (H1.out.trans' H12.out.1.keeps)).trans' hKK)
  clear hKK
  go_wp2_with fail
  go_ret
  exact ⟨rfl, HK.out⟩
set_option maxRecDepth 100000 in
set_option maxHeartbeats 8000000 in
theorem stands_b1 {w : World} (off : UInt64) (g : TagV) (po pv : UInt64) (hB : writeB (txLoad ws44 []) off g = true) (hrd : readB (txLoad ws44 (txStore ws44 (writeP ws44 [] off g) po pv)) off = false) (h1 : po = off) (hv : pv ≠ txLoad ws44 (writeP ws44 [] off g) po) : Calls Try.prog 19 #[.int .u64 (off.toNat : Int), .agg g.cells, .agg #[.int .u64 (po.toNat : Int), .int .u64 (pv.toNat : Int)]] w fun e w' => e = .returned (.bool true) ∧ Keeps Nil w w' := by
  obtain ⟨gs, gu, go⟩ := g
  obtain ⟨bs, bu, bo, hbb⟩ : ∃ bs bu bo, readT (txLoad ws44 (txStore ws44 (writeP ws44 [] off ⟨gs, gu, go⟩) po pv)) off = ⟨bs, bu, bo⟩ := ⟨_, _, _, rfl⟩
  have HRD := Lib.hid (And.intro hrd hbb)
  obtain ⟨was, hwas⟩ : ∃ was, was = txLoad ws44 (writeP ws44 [] off ⟨gs, gu, go⟩) po := ⟨_, rfl⟩
  obtain ⟨y1, hy1⟩ : ∃ y, y = off + gs := ⟨_, rfl⟩
  obtain ⟨y2, hy2⟩ : ∃ y, y = off + gs - 8 := ⟨_, rfl⟩
  have q1 := add_eq off gs
  have q2 := sub8_eq (off + gs)
  rw [← hy1] at q1 q2
  rw [← hy1] at hy2
  rw [← hy2] at q2
  have t1 := (same_u64 h1).2
  have t3 : ((pv.toNat : Int) != (was.toNat : Int)) = true := (unlike_u64 (by rw [hwas]; exact hv)).1
  have HB := Lib.hid hB
  have HWAS := Lib.hid hwas
  clear hB hrd hwas hy1 hy2 h1 hbb hv
  rw [TagV.cells_def]
  have hgd := tag_gd
  obtain ⟨n, hn⟩ : ∃ n, n = w.heap.size := ⟨_, rfl⟩
  obtain ⟨w0, hw0⟩ : ∃ w0, w0 = (w.alloc (.cells #[.int .u64 (gs.toNat : Int), .bool gu, .int .i64 go] 69)).alloc (.cells #[.int .u64 (po.toNat : Int), .int .u64 (pv.toNat : Int)] 38) := ⟨_, rfl⟩
  have k0 : Keeps Nil w w0 := by rw [hw0]; exact ((Keeps.refl Nil _).alloc _).alloc _
  have b0 : w0.heap[n]? = some (.cells #[.int .u64 (gs.toNat : Int), .bool gu, .int .i64 go] 69 (0, 0)) := by rw [hw0, hn]; exact heap_old _ _ (heap_new _ _)
  have b1 : w0.heap[n + 1]? = some (.cells #[.int .u64 (po.toNat : Int), .int .u64 (pv.toNat : Int)] 38 (0, 0)) := by
    rw [hw0, hn]
    have := heap_new (w.alloc (.cells #[.int .u64 (gs.toNat : Int), .bool gu, .int .i64 go] 69)) (.cells #[.int .u64 (po.toNat : Int), .int .u64 (pv.toNat : Int)] 38)
    simpa using this
  have H0 := Lib.hid (And.intro k0 (And.intro b0 b1))
  have HW0 := Lib.hid hw0
  have HN := Lib.hid hn
  clear hn hw0 k0 b0 b1
  go_enter Try.func19, Try.ntmps19
  go_wp2_with fail
  rw [← HW0.out, ← HN.out]
  refine (awake5 _).mono ?_
  rintro e w1 ⟨rfl, k1⟩
  have H1 := Lib.hid k1
  clear k1
  go_wp2_with fail
  refine (formed05' (l := []) 4480 Look.nil _ (by rfl)).mono ?_
  rintro e w2 ⟨sg, t, ab, ao, ac, a2, n2, cc2, rfl, L⟩
  have L2 : Live w1 w2 sg t [] ws44 Top := L.reads (fun _ _ _ => trivial)
  obtain ⟨w3, hw3⟩ : ∃ w3, w3 = w2.alloc (.cells #[.slice (some ⟨ab, ao, none⟩) 600 ac, .slice a2 n2 cc2] 28) := ⟨_, rfl⟩
  have L3 := L2.quiet (w' := w3) Stable.top (by rw [hw3]; exact (Keeps.refl Nil _).alloc _)
  have C0 := cells_at H0.out.2.1 (H1.out.trans' L2.keeps)
  have D0 := cells_at H0.out.2.1 (H1.out.trans' L3.keeps)
  have hlt : n + 1 < w2.heap.size := getElem?_lt ((H1.out.trans' L2.keeps).at H0.out.2.2 (fun e => e))
  have hlt0 : n < w2.heap.size := getElem?_lt ((H1.out.trans' L2.keeps).at H0.out.2.1 (fun e => e))
  have H3 := Lib.hid L3
  have HW3 := Lib.hid hw3
  have c00 := C0.1
  have c01 := C0.2.1
  have c02 := C0.2.2
  have d00 := D0.1
  have d01 := D0.2.1
  have d02 := D0.2.2
  clear L L2 L3 C0 D0 hw3
  go_wp2_with fail
  rw [← HW3.out]
  refine (made5 _ ⟨gs, gu, go⟩).mono ?_
  rintro e w4 ⟨rfl, k4⟩
  rw [TagV.cells_def]
  have H4 := Lib.hid (H3.out.quiet Stable.top k4)
  clear k4 c00 c01 c02 d00 d01 d02 hlt hlt0
  go_wp2_with fail
  refine (H4.out.tagWrite Stable.top off ⟨gs, gu, go⟩ (by decide) _ rfl).mono ?_
  rintro e w5 ⟨rfl, L5⟩
  rw [HB.out]
  rw [codeOf_true]
  obtain ⟨l1, hl1⟩ : ∃ l1, l1 = writeP ws44 [] off ⟨gs, gu, go⟩ := ⟨_, rfl⟩
  rw [← hl1] at L5
  have hlen : l1.length ≤ 2 := by rw [hl1]; exact writeP_length _ _ _ _
  have HL1 := Lib.hid hl1
  have HLEN := Lib.hid hlen
  have H5 := Lib.hid L5
  clear L5 hl1 hlen
  go_wp2_with fail
  refine (Read_any H5.out.tells off _ rfl).mono ?_
  rintro e w6 ⟨rfl, k6⟩
  rw [HL1.out, (stands_read HB.out).1, (stands_read HB.out).2, codeOf_true, TagV.cells_def]
  obtain ⟨w7, hw7⟩ : ∃ w7, w7 = w6.alloc (.cells #[.int .u64 (gs.toNat : Int), .bool gu, .int .i64 go] 70) := ⟨_, rfl⟩
  have k67 : Keeps Nil w6 w7 := by rw [hw7]; exact (Keeps.refl Nil _).alloc _
  have b7 : w7.drew.heap[w6.heap.size]? = some (.cells #[.int .u64 (gs.toNat : Int), .bool gu, .int .i64 go] 70 (0, 0)) := by rw [hw7]; exact heap_new _ _
  have L7 := ((H5.out.quiet Stable.top k6).quiet Stable.top k67).quiet Stable.top (keeps_drew _)
  have H7 := Lib.hid (And.intro L7 b7)
  have HW7 := Lib.hid hw7
  have qn := tag_neq_self gs gu go
  have hKK : Keeps Nil w7.drew w7.drew := Keeps.refl _ _
  clear k6 k67 hw7 b7 L7
  go_wp2_with fail
  rw [← HW7.out]
  go_region_held3 (fun w' => (w'.cell? ⟨w6.heap.size, 0, none⟩ = some (.int .u64 (gs.toNat : Int)) ∧ w'.cell? ⟨w6.heap.size, 1, none⟩ = some (.bool gu) ∧ w'.cell? ⟨w6.heap.size, 2, none⟩ = some (.int .i64 go)) ∧
      (w'.cell? ⟨n, 0, none⟩ = some (.int .u64 (gs.toNat : Int)) ∧ w'.cell? ⟨n, 1, none⟩ = some (.bool gu) ∧ w'.cell? ⟨n, 2, none⟩ = some (.int .i64 go)))
    (exact ⟨cells_at H7.out.2 hKK, cells_at H0.out.2.1 ((H1.out.trans' H7.out.1.keeps).trans' hKK)⟩)
    (first
      | (go_at_call 64; refine (made5 _ ⟨_, _, _⟩).mono ?_; rintro e w' ⟨rfl, kn⟩; rw [TagV.cells_def]; have hKK := hKK.trans' kn))
  have H8 := Lib.hid (H7.out.1.quiet Stable.top hKK)
  have P0 := put_at H0.out.2.2 (H1.out.trans' H8.out.keeps)
  have p0 := P0.1
  have p1 := P0.2
  clear hKK P0 qn
  go_wp2_with fail
  refine (H8.out.tells.load _ (Keeps.refl _ _) po _ rfl).mono ?_
  rintro e w9 ⟨rfl, k9⟩
  rw [HL1.out, ← HWAS.out]
  have H9 := Lib.hid (H8.out.quiet Stable.top k9)
  clear k9 p0 p1
  have P0 := put_at H0.out.2.2 (H1.out.trans' H9.out.keeps)
  have p0 := P0.1
  have p1 := P0.2
  clear P0
  go_wp2_with fail
  refine (H9.out.store Stable.top po pv (by have := HLEN.out; omega) _ _ rfl rfl).mono ?_
  rintro e w10 ⟨rfl, L10⟩
  have H10 := Lib.hid L10
  clear L10 p0 p1
  go_wp2_with fail
  refine (Read_any H10.out.tells off _ rfl).mono ?_
  rintro e w11 ⟨rfl, k11⟩
  rw [HL1.out, HRD.out.1, HRD.out.2, TagV.cells_def, codeOf_no]
  obtain ⟨w12, hw12⟩ : ∃ w12, w12 = w11.alloc (.cells #[.int .u64 (bs.toNat : Int), .bool bu, .int .i64 bo] 70) := ⟨_, rfl⟩
  have k12 : Keeps Nil w11 w12 := by rw [hw12]; exact (Keeps.refl Nil _).alloc _
  have b12 : w12.drew.heap[w11.heap.size]? = some (.cells #[.int .u64 (bs.toNat : Int), .bool bu, .int .i64 bo] 70 (0, 0)) := by rw [hw12]; exact heap_new _ _
  have L12 := (H10.out.quiet Stable.top k11).quiet Stable.top k12
  have P0 := put_at H0.out.2.2 (H1.out.trans' L12.keeps)
  have P1 := put_at H0.out.2.2 (H1.out.trans' (H10.out.quiet Stable.top k11).keeps)
  have G0 := cells_at H0.out.2.1 (H1.out.trans' L12.keeps)
  have G1 := cells_at H0.out.2.1 (H1.out.trans' (H10.out.quiet Stable.top k11).keeps)
  have hlt : n + 1 < w11.heap.size := getElem?_lt ((H1.out.trans' (H10.out.quiet Stable.top k11).keeps).at H0.out.2.2 (fun e => e))
  have hlt0 : n < w11.heap.size := by omega
  have p0 := P0.1
  have p1 := P0.2
  have r0 := P1.1
  have r1 := P1.2
  have g00 := G0.1
  have g10 := G1.1
  have H12 := Lib.hid (And.intro (L12.quiet Stable.top (keeps_drew _)) b12)
  have HW12 := Lib.hid hw12
  have hKK : Keeps Nil w12.drew w12.drew := Keeps.refl _ _
  clear k11 hw12 k12 b12 L12 P0 P1 G0 G1
  go_wp2_with fail
  rw [← HW12.out]
  clear p0 p1 r0 r1 g00 g10 hlt hlt0
  refine wp_region_held_drew (S := fun w' => (w'.cell? ⟨w11.heap.size, 0, none⟩ = some (.int .u64 (bs.toNat : Int)) ∧ w'.cell? ⟨w11.heap.size, 1, none⟩ = some (.bool bu) ∧ w'.cell? ⟨w11.heap.size, 2, none⟩ = some (.int .i64 bo)) ∧ (w'.cell? ⟨n, 0, none⟩ = some (.int .u64 (gs.toNat : Int)) ∧ w'.cell? ⟨n, 1, none⟩ = some (.bool gu) ∧ w'.cell? ⟨n, 2, none⟩ = some (.int .i64 go)) ∧ (w'.cell? ⟨n + 1, 0, none⟩ = some (.int .u64 (po.toNat : Int)) ∧ w'.cell? ⟨n + 1, 1, none⟩ = some (.int .u64 (pv.toNat : Int)))) (by kernel_rfl) ⟨cells_at H12.out.2 hKK, cells_at H0.out.2.1 ((H1.out.trans' H12.out.1.keeps).trans' hKK), put_at H0.out.2.2 ((H1.out.trans' H12.out.1.keeps).trans' hKK)⟩ (fun hHeld => ?_)
  refine wpAnyH_take (i := 0) (oi := _) (v := ?m2v0) rfl (by kernel_rfl) (by kernel_rfl) (by kernel_rfl) (fun _ _ _ h => h) (Or.inl ⟨by kernel_rfl, ?m2h0⟩) hHeld ?m2r0
  case m2h0 => (intro w hSw; (try dsimp only at hSw); go_simp; try with_reducible rfl)
  try simp only [Act.put, List.getElem_toArray, List.getElem_cons_succ, List.getElem_cons_zero, List.setIfInBounds_toArray, List.set_cons_zero, List.set_cons_succ]
  refine wpAnyH_take (i := 1) (oi := _) (v := ?m2v1) rfl (by kernel_rfl) (by kernel_rfl) (by kernel_rfl) (fun _ _ _ h => h) (Or.inl ⟨by kernel_rfl, ?m2h1⟩) hHeld ?m2r1
  case m2h1 => (intro w hSw; (try dsimp only at hSw); go_simp; try with_reducible rfl)
  try simp only [Act.put, List.getElem_toArray, List.getElem_cons_succ, List.getElem_cons_zero, List.setIfInBounds_toArray, List.set_cons_zero, List.set_cons_succ]
  refine wpAnyH_take (i := 2) (oi := _) (v := ?m2v2) rfl (by kernel_rfl) (by kernel_rfl) (by kernel_rfl) (fun _ _ _ h => h) (Or.inl ⟨by kernel_rfl, ?m2h2⟩) hHeld ?m2r2
  case m2h2 => (intro w hSw; (try dsimp only at hSw); go_simp; try with_reducible rfl)
  try simp only [Act.put, List.getElem_toArray, List.getElem_cons_succ, List.getElem_cons_zero, List.setIfInBounds_toArray, List.set_cons_zero, List.set_cons_succ]
  refine wpAnyH_take (i := 3) (oi := _) (v := ?m2v3) rfl (by kernel_rfl) (by kernel_rfl) (by kernel_rfl) (fun _ _ _ h => h) (Or.inl ⟨by kernel_rfl, ?m2h3⟩) hHeld ?m2r3
  case m2h3 => (intro w hSw; (try dsimp only at hSw); go_simp; try with_reducible rfl)
  try simp only [Act.put, List.getElem_toArray, List.getElem_cons_succ, List.getElem_cons_zero, List.setIfInBounds_toArray, List.set_cons_zero, List.set_cons_succ]
  refine wpAnyH_take (i := 4) (oi := _) (v := ?m2v4) rfl (by kernel_rfl) (by kernel_rfl) (by kernel_rfl) (fun _ _ _ h => h) (Or.inl ⟨by kernel_rfl, ?m2h4⟩) hHeld ?m2r4
  case m2h4 => (intro w hSw; (try dsimp only at hSw); go_simp; try with_reducible rfl)
  try simp only [Act.put, List.getElem_toArray, List.getElem_cons_succ, List.getElem_cons_zero, List.setIfInBounds_toArray, List.set_cons_zero, List.set_cons_succ]
  refine wpAnyH_take (i := 5) (oi := _) (v := undef) rfl (by kernel_rfl) (by kernel_rfl) (by kernel_rfl) (fun _ _ _ h => h) (Or.inr ⟨by kernel_rfl, rfl⟩) hHeld ?_
  try simp only [Act.put, List.getElem_toArray, List.getElem_cons_succ, List.getElem_cons_zero, List.setIfInBounds_toArray, List.set_cons_zero, List.set_cons_succ]
  refine wpAnyH_take (i := 6) (oi := _) (v := undef) rfl (by kernel_rfl) (by kernel_rfl) (by kernel_rfl) (fun _ _ _ h => h) (Or.inr ⟨by kernel_rfl, rfl⟩) hHeld ?_
  try simp only [Act.put, List.getElem_toArray, List.getElem_cons_succ, List.getElem_cons_zero, List.setIfInBounds_toArray, List.set_cons_zero, List.set_cons_succ]
  refine wpAnyH_take (i := 7) (oi := _) (v := undef) rfl (by kernel_rfl) (by kernel_rfl) (by kernel_rfl) (fun _ _ _ h => h) (Or.inr ⟨by kernel_rfl, rfl⟩) hHeld ?_
  try simp only [Act.put, List.getElem_toArray, List.getElem_cons_succ, List.getElem_cons_zero, List.setIfInBounds_toArray, List.set_cons_zero, List.set_cons_succ]
  refine wpAnyH_take (i := 8) (oi := _) (v := undef) rfl (by kernel_rfl) (by kernel_rfl) (by kernel_rfl) (fun _ _ _ h => h) (Or.inr ⟨by kernel_rfl, rfl⟩) hHeld ?_
  try simp only [Act.put, List.getElem_toArray, List.getElem_cons_succ, List.getElem_cons_zero, List.setIfInBounds_toArray, List.set_cons_zero, List.set_cons_succ]
  refine wpAnyH_take (i := 9) (oi := _) (v := ?m2v9) rfl (by kernel_rfl) (by kernel_rfl) (by kernel_rfl) (fun _ _ _ h => h) (Or.inl ⟨by kernel_rfl, ?m2h9⟩) hHeld ?m2r9
  case m2h9 => (intro w hSw; (try dsimp only at hSw); go_simp; try with_reducible rfl)
  try simp only [Act.put, List.getElem_toArray, List.getElem_cons_succ, List.getElem_cons_zero, List.setIfInBounds_toArray, List.set_cons_zero, List.set_cons_succ]
  refine wpAnyH_take (i := 10) (oi := _) (v := ?m2v10) rfl (by kernel_rfl) (by kernel_rfl) (by kernel_rfl) (fun _ _ _ h => h) (Or.inl ⟨by kernel_rfl, ?m2h10⟩) hHeld ?m2r10
  case m2h10 => (intro w hSw; (try dsimp only at hSw); go_simp; try with_reducible rfl)
  try simp only [Act.put, List.getElem_toArray, List.getElem_cons_succ, List.getElem_cons_zero, List.setIfInBounds_toArray, List.set_cons_zero, List.set_cons_succ]
  refine wpAnyH_take (i := 11) (oi := _) (v := ?m2v11) rfl (by kernel_rfl) (by kernel_rfl) (by kernel_rfl) (fun _ _ _ h => h) (Or.inl ⟨by kernel_rfl, ?m2h11⟩) hHeld ?m2r11
  case m2h11 => (intro w hSw; (try dsimp only at hSw); go_simp; try with_reducible rfl)
  try simp only [Act.put, List.getElem_toArray, List.getElem_cons_succ, List.getElem_cons_zero, List.setIfInBounds_toArray, List.set_cons_zero, List.set_cons_succ]
  refine wpAnyH_take (i := 12) (oi := _) (v := ?m2v12) rfl (by kernel_rfl) (by kernel_rfl) (by kernel_rfl) (fun _ _ _ h => h) (Or.inl ⟨by kernel_rfl, ?m2h12⟩) hHeld ?m2r12
  case m2h12 => (intro w hSw; (try dsimp only at hSw); go_simp; try with_reducible rfl)
  try simp only [Act.put, List.getElem_toArray, List.getElem_cons_succ, List.getElem_cons_zero, List.setIfInBounds_toArray, List.set_cons_zero, List.set_cons_succ]
  refine wpAnyH_take (i := 13) (oi := _) (v := ?m2v13) rfl (by kernel_rfl) (by kernel_rfl) (by kernel_rfl) (fun _ _ _ h => h) (Or.inl ⟨by kernel_rfl, ?m2h13⟩) hHeld ?m2r13
  case m2h13 => (intro w hSw; (try dsimp only at hSw); go_simp; try with_reducible rfl)
  try simp only [Act.put, List.getElem_toArray, List.getElem_cons_succ, List.getElem_cons_zero, List.setIfInBounds_toArray, List.set_cons_zero, List.set_cons_succ]
  refine wpAnyH_take (i := 14) (oi := _) (v := ?m2v14) rfl (by kernel_rfl) (by kernel_rfl) (by kernel_rfl) (fun _ _ _ h => h) (Or.inl ⟨by kernel_rfl, ?m2h14⟩) hHeld ?m2r14
  case m2h14 => (intro w hSw; (try dsimp only at hSw); go_simp; try with_reducible rfl)
  try simp only [Act.put, List.getElem_toArray, List.getElem_cons_succ, List.getElem_cons_zero, List.setIfInBounds_toArray, List.set_cons_zero, List.set_cons_succ]
  refine wpAnyH_take (i := 15) (oi := _) (v := ?m2v15) rfl (by kernel_rfl) (by kernel_rfl) (by kernel_rfl) (fun _ _ _ h => h) (Or.inl ⟨by kernel_rfl, ?m2h15⟩) hHeld ?m2r15
  case m2h15 => (intro w hSw; (try dsimp only at hSw); go_simp; try with_reducible rfl)
  try simp only [Act.put, List.getElem_toArray, List.getElem_cons_succ, List.getElem_cons_zero, List.setIfInBounds_toArray, List.set_cons_zero, List.set_cons_succ]
  refine wpAnyH_take (i := 16) (oi := _) (v := ?m2v16) rfl (by kernel_rfl) (by kernel_rfl) (by kernel_rfl) (fun _ _ _ h => h) (Or.inl ⟨by kernel_rfl, ?m2h16⟩) hHeld ?m2r16
  case m2h16 => (intro w hSw; (try dsimp only at hSw); go_simp; try with_reducible rfl)
  try simp only [Act.put, List.getElem_toArray, List.getElem_cons_succ, List.getElem_cons_zero, List.setIfInBounds_toArray, List.set_cons_zero, List.set_cons_succ]
  refine wpAnyH_take (i := 17) (oi := _) (v := ?m2v17) rfl (by kernel_rfl) (by kernel_rfl) (by kernel_rfl) (fun _ _ _ h => h) (Or.inl ⟨by kernel_rfl, ?m2h17⟩) hHeld ?m2r17
  case m2h17 => (intro w hSw; (try dsimp only at hSw); go_simp; try with_reducible rfl)
  try simp only [Act.put, List.getElem_toArray, List.getElem_cons_succ, List.getElem_cons_zero, List.setIfInBounds_toArray, List.set_cons_zero, List.set_cons_succ]
  refine wpAnyH_take (i := 18) (oi := _) (v := undef) rfl (by kernel_rfl) (by kernel_rfl) (by kernel_rfl) (fun _ _ _ h => h) (Or.inr ⟨by kernel_rfl, rfl⟩) hHeld ?_
  try simp only [Act.put, List.getElem_toArray, List.getElem_cons_succ, List.getElem_cons_zero, List.setIfInBounds_toArray, List.set_cons_zero, List.set_cons_succ]
  refine wpAnyH_take (i := 19) (oi := _) (v := undef) rfl (by kernel_rfl) (by kernel_rfl) (by kernel_rfl) (fun _ _ _ h => h) (Or.inr ⟨by kernel_rfl, rfl⟩) hHeld ?_
  try simp only [Act.put, List.getElem_toArray, List.getElem_cons_succ, List.getElem_cons_zero, List.setIfInBounds_toArray, List.set_cons_zero, List.set_cons_succ]
  refine wpAnyH_take (i := 20) (oi := _) (v := undef) rfl (by kernel_rfl) (by kernel_rfl) (by kernel_rfl) (fun _ _ _ h => h) (Or.inr ⟨by kernel_rfl, rfl⟩) hHeld ?_
  try simp only [Act.put, List.getElem_toArray, List.getElem_cons_succ, List.getElem_cons_zero, List.setIfInBounds_toArray, List.set_cons_zero, List.set_cons_succ]
  refine wpAnyH_take (i := 21) (oi := _) (v := undef) rfl (by kernel_rfl) (by kernel_rfl) (by kernel_rfl) (fun _ _ _ h => h) (Or.inr ⟨by kernel_rfl, rfl⟩) hHeld ?_
  try simp only [Act.put, List.getElem_toArray, List.getElem_cons_succ, List.getElem_cons_zero, List.setIfInBounds_toArray, List.set_cons_zero, List.set_cons_succ]
  refine wpAnyH_take (i := 22) (oi := _) (v := undef) rfl (by kernel_rfl) (by kernel_rfl) (by kernel_rfl) (fun _ _ _ h => h) (Or.inr ⟨by kernel_rfl, rfl⟩) hHeld ?_
  try simp only [Act.put, List.getElem_toArray, List.getElem_cons_succ, List.getElem_cons_zero, List.setIfInBounds_toArray, List.set_cons_zero, List.set_cons_succ]
  refine wpAnyH_take (i := 23) (oi := _) (v := undef) rfl (by kernel_rfl) (by kernel_rfl) (by kernel_rfl) (fun _ _ _ h => h) (Or.inr ⟨by kernel_rfl, rfl⟩) hHeld ?_
  try simp only [Act.put, List.getElem_toArray, List.getElem_cons_succ, List.getElem_cons_zero, List.setIfInBounds_toArray, List.set_cons_zero, List.set_cons_succ]
  refine wpAnyH_take (i := 24) (oi := _) (v := undef) rfl (by kernel_rfl) (by kernel_rfl) (by kernel_rfl) (fun _ _ _ h => h) (Or.inr ⟨by kernel_rfl, rfl⟩) hHeld ?_
  try simp only [Act.put, List.getElem_toArray, List.getElem_cons_succ, List.getElem_cons_zero, List.setIfInBounds_toArray, List.set_cons_zero, List.set_cons_succ]
  refine wpAnyH_take (i := 25) (oi := _) (v := undef) rfl (by kernel_rfl) (by kernel_rfl) (by kernel_rfl) (fun _ _ _ h => h) (Or.inr ⟨by kernel_rfl, rfl⟩) hHeld ?_
  try simp only [Act.put, List.getElem_toArray, List.getElem_cons_succ, List.getElem_cons_zero, List.setIfInBounds_toArray, List.set_cons_zero, List.set_cons_succ]
  refine wpAnyH_take (i := 26) (oi := _) (v := undef) rfl (by kernel_rfl) (by kernel_rfl) (by kernel_rfl) (fun _ _ _ h => h) (Or.inr ⟨by kernel_rfl, rfl⟩) hHeld ?_
  try simp only [Act.put, List.getElem_toArray, List.getElem_cons_succ, List.getElem_cons_zero, List.setIfInBounds_toArray, List.set_cons_zero, List.set_cons_succ]
  refine wpAnyH_take (i := 27) (oi := _) (v := undef) rfl (by kernel_rfl) (by kernel_rfl) (by kernel_rfl) (fun _ _ _ h => h) (Or.inr ⟨by kernel_rfl, rfl⟩) hHeld ?_
  try simp only [Act.put, List.getElem_toArray, List.getElem_cons_succ, List.getElem_cons_zero, List.setIfInBounds_toArray, List.set_cons_zero, List.set_cons_succ]
  refine wpAnyH_take (i := 28) (oi := _) (v := undef) rfl (by kernel_rfl) (by kernel_rfl) (by kernel_rfl) (fun _ _ _ h => h) (Or.inr ⟨by kernel_rfl, rfl⟩) hHeld ?_
  try simp only [Act.put, List.getElem_toArray, List.getElem_cons_succ, List.getElem_cons_zero, List.setIfInBounds_toArray, List.set_cons_zero, List.set_cons_succ]
  refine wpAnyH_take (i := 29) (oi := _) (v := undef) rfl (by kernel_rfl) (by kernel_rfl) (by kernel_rfl) (fun _ _ _ h => h) (Or.inr ⟨by kernel_rfl, rfl⟩) hHeld ?_
  try simp only [Act.put, List.getElem_toArray, List.getElem_cons_succ, List.getElem_cons_zero, List.setIfInBounds_toArray, List.set_cons_zero, List.set_cons_succ]
  refine wpAnyH_take (i := 30) (oi := _) (v := ?m2v30) rfl (by kernel_rfl) (by kernel_rfl) (by kernel_rfl) (fun _ _ _ h => h) (Or.inl ⟨by kernel_rfl, ?m2h30⟩) hHeld ?m2r30
  case m2h30 => (intro w hSw; (try dsimp only at hSw); go_simp; try with_reducible rfl)
  try simp only [Act.put, List.getElem_toArray, List.getElem_cons_succ, List.getElem_cons_zero, List.setIfInBounds_toArray, List.set_cons_zero, List.set_cons_succ]
  refine wpAnyH_take (i := 31) (oi := _) (v := ?m2v31) rfl (by kernel_rfl) (by kernel_rfl) (by kernel_rfl) (fun _ _ _ h => h) (Or.inl ⟨by kernel_rfl, ?m2h31⟩) hHeld ?m2r31
  case m2h31 => (intro w hSw; (try dsimp only at hSw); go_simp; try with_reducible rfl)
  try simp only [Act.put, List.getElem_toArray, List.getElem_cons_succ, List.getElem_cons_zero, List.setIfInBounds_toArray, List.set_cons_zero, List.set_cons_succ]
  refine wpAnyH_take (i := 32) (oi := _) (v := ?m2v32) rfl (by kernel_rfl) (by kernel_rfl) (by kernel_rfl) (fun _ _ _ h => h) (Or.inl ⟨by kernel_rfl, ?m2h32⟩) hHeld ?m2r32
  case m2h32 => (intro w hSw; (try dsimp only at hSw); go_simp; try with_reducible rfl)
  try simp only [Act.put, List.getElem_toArray, List.getElem_cons_succ, List.getElem_cons_zero, List.setIfInBounds_toArray, List.set_cons_zero, List.set_cons_succ]
  refine wpAnyH_take (i := 33) (oi := _) (v := ?m2v33) rfl (by kernel_rfl) (by kernel_rfl) (by kernel_rfl) (fun _ _ _ h => h) (Or.inl ⟨by kernel_rfl, ?m2h33⟩) hHeld ?m2r33
  case m2h33 => (intro w hSw; (try dsimp only at hSw); go_simp; try with_reducible rfl)
  try simp only [Act.put, List.getElem_toArray, List.getElem_cons_succ, List.getElem_cons_zero, List.setIfInBounds_toArray, List.set_cons_zero, List.set_cons_succ]
  refine wpAnyH_done (by kernel_rfl) ?_ _
  have HK := Lib.hid ((H0.out.1.trans' (H1.out.trans' H12.out.1.keeps)).trans' hKK)
  clear hKK
  go_wp2_with fail
  go_ret
  exact ⟨rfl, HK.out⟩
set_option maxRecDepth 100000 in
set_option maxHeartbeats 8000000 in
theorem stands_c1 {w : World} (off : UInt64) (g : TagV) (po pv : UInt64) (hB : writeB (txLoad ws44 []) off g = true) (hrd : readB (txLoad ws44 (txStore ws44 (writeP ws44 [] off g) po pv)) off = true) (hgg : readT (txLoad ws44 (txStore ws44 (writeP ws44 [] off g) po pv)) off ≠ g) (h1 : po = off) (hv : pv ≠ txLoad ws44 (writeP ws44 [] off g) po) : Calls Try.prog 19 #[.int .u64 (off.toNat : Int), .agg g.cells, .agg #[.int .u64 (po.toNat : Int), .int .u64 (pv.toNat : Int)]] w fun e w' => e = .returned (.bool true) ∧ Keeps Nil w w' := by
  obtain ⟨gs, gu, go⟩ := g
  obtain ⟨bs, bu, bo, hbb⟩ : ∃ bs bu bo, readT (txLoad ws44 (txStore ws44 (writeP ws44 [] off ⟨gs, gu, go⟩) po pv)) off = ⟨bs, bu, bo⟩ := ⟨_, _, _, rfl⟩
  have HRD := Lib.hid (And.intro hrd hbb)
  have qb : ∀ w, (binOp .neq 70 (.agg #[.int .u64 (bs.toNat : Int), .bool bu, .int .i64 bo]) (.agg #[.int .u64 (gs.toNat : Int), .bool gu, .int .i64 go])).run Try.prog w = .ok (.bool true) w := fun w => by rw [tag_neq, tag_apart (by rw [← hbb]; exact hgg)]; rfl
  obtain ⟨was, hwas⟩ : ∃ was, was = txLoad ws44 (writeP ws44 [] off ⟨gs, gu, go⟩) po := ⟨_, rfl⟩
  obtain ⟨y1, hy1⟩ : ∃ y, y = off + gs := ⟨_, rfl⟩
  obtain ⟨y2, hy2⟩ : ∃ y, y = off + gs - 8 := ⟨_, rfl⟩
  have q1 := add_eq off gs
  have q2 := sub8_eq (off + gs)
  rw [← hy1] at q1 q2
  rw [← hy1] at hy2
  rw [← hy2] at q2
  have t1 := (same_u64 h1).2
  have t3 : ((pv.toNat : Int) != (was.toNat : Int)) = true := (unlike_u64 (by rw [hwas]; exact hv)).1
  have HB := Lib.hid hB
  have HWAS := Lib.hid hwas
  clear hB hrd hwas hy1 hy2 h1 hgg hbb hv
  rw [TagV.cells_def]
  have hgd := tag_gd
  obtain ⟨n, hn⟩ : ∃ n, n = w.heap.size := ⟨_, rfl⟩
  obtain ⟨w0, hw0⟩ : ∃ w0, w0 = (w.alloc (.cells #[.int .u64 (gs.toNat : Int), .bool gu, .int .i64 go] 69)).alloc (.cells #[.int .u64 (po.toNat : Int), .int .u64 (pv.toNat : Int)] 38) := ⟨_, rfl⟩
  have k0 : Keeps Nil w w0 := by rw [hw0]; exact ((Keeps.refl Nil _).alloc _).alloc _
  have b0 : w0.heap[n]? = some (.cells #[.int .u64 (gs.toNat : Int), .bool gu, .int .i64 go] 69 (0, 0)) := by rw [hw0, hn]; exact heap_old _ _ (heap_new _ _)
  have b1 : w0.heap[n + 1]? = some (.cells #[.int .u64 (po.toNat : Int), .int .u64 (pv.toNat : Int)] 38 (0, 0)) := by
    rw [hw0, hn]
    have := heap_new (w.alloc (.cells #[.int .u64 (gs.toNat : Int), .bool gu, .int .i64 go] 69)) (.cells #[.int .u64 (po.toNat : Int), .int .u64 (pv.toNat : Int)] 38)
    simpa using this
  have H0 := Lib.hid (And.intro k0 (And.intro b0 b1))
  have HW0 := Lib.hid hw0
  have HN := Lib.hid hn
  clear hn hw0 k0 b0 b1
  go_enter Try.func19, Try.ntmps19
  go_wp2_with fail
  rw [← HW0.out, ← HN.out]
  refine (awake5 _).mono ?_
  rintro e w1 ⟨rfl, k1⟩
  have H1 := Lib.hid k1
  clear k1
  go_wp2_with fail
  refine (formed05' (l := []) 4480 Look.nil _ (by rfl)).mono ?_
  rintro e w2 ⟨sg, t, ab, ao, ac, a2, n2, cc2, rfl, L⟩
  have L2 : Live w1 w2 sg t [] ws44 Top := L.reads (fun _ _ _ => trivial)
  obtain ⟨w3, hw3⟩ : ∃ w3, w3 = w2.alloc (.cells #[.slice (some ⟨ab, ao, none⟩) 600 ac, .slice a2 n2 cc2] 28) := ⟨_, rfl⟩
  have L3 := L2.quiet (w' := w3) Stable.top (by rw [hw3]; exact (Keeps.refl Nil _).alloc _)
  have C0 := cells_at H0.out.2.1 (H1.out.trans' L2.keeps)
  have D0 := cells_at H0.out.2.1 (H1.out.trans' L3.keeps)
  have hlt : n + 1 < w2.heap.size := getElem?_lt ((H1.out.trans' L2.keeps).at H0.out.2.2 (fun e => e))
  have hlt0 : n < w2.heap.size := getElem?_lt ((H1.out.trans' L2.keeps).at H0.out.2.1 (fun e => e))
  have H3 := Lib.hid L3
  have HW3 := Lib.hid hw3
  have c00 := C0.1
  have c01 := C0.2.1
  have c02 := C0.2.2
  have d00 := D0.1
  have d01 := D0.2.1
  have d02 := D0.2.2
  clear L L2 L3 C0 D0 hw3
  go_wp2_with fail
  rw [← HW3.out]
  refine (made5 _ ⟨gs, gu, go⟩).mono ?_
  rintro e w4 ⟨rfl, k4⟩
  rw [TagV.cells_def]
  have H4 := Lib.hid (H3.out.quiet Stable.top k4)
  clear k4 c00 c01 c02 d00 d01 d02 hlt hlt0
  go_wp2_with fail
  refine (H4.out.tagWrite Stable.top off ⟨gs, gu, go⟩ (by decide) _ rfl).mono ?_
  rintro e w5 ⟨rfl, L5⟩
  rw [HB.out]
  rw [codeOf_true]
  obtain ⟨l1, hl1⟩ : ∃ l1, l1 = writeP ws44 [] off ⟨gs, gu, go⟩ := ⟨_, rfl⟩
  rw [← hl1] at L5
  have hlen : l1.length ≤ 2 := by rw [hl1]; exact writeP_length _ _ _ _
  have HL1 := Lib.hid hl1
  have HLEN := Lib.hid hlen
  have H5 := Lib.hid L5
  clear L5 hl1 hlen
  go_wp2_with fail
  refine (Read_any H5.out.tells off _ rfl).mono ?_
  rintro e w6 ⟨rfl, k6⟩
  rw [HL1.out, (stands_read HB.out).1, (stands_read HB.out).2, codeOf_true, TagV.cells_def]
  obtain ⟨w7, hw7⟩ : ∃ w7, w7 = w6.alloc (.cells #[.int .u64 (gs.toNat : Int), .bool gu, .int .i64 go] 70) := ⟨_, rfl⟩
  have k67 : Keeps Nil w6 w7 := by rw [hw7]; exact (Keeps.refl Nil _).alloc _
  have b7 : w7.drew.heap[w6.heap.size]? = some (.cells #[.int .u64 (gs.toNat : Int), .bool gu, .int .i64 go] 70 (0, 0)) := by rw [hw7]; exact heap_new _ _
  have L7 := ((H5.out.quiet Stable.top k6).quiet Stable.top k67).quiet Stable.top (keeps_drew _)
  have H7 := Lib.hid (And.intro L7 b7)
  have HW7 := Lib.hid hw7
  have qn := tag_neq_self gs gu go
  have hKK : Keeps Nil w7.drew w7.drew := Keeps.refl _ _
  clear k6 k67 hw7 b7 L7
  go_wp2_with fail
  rw [← HW7.out]
  go_region_held3 (fun w' => (w'.cell? ⟨w6.heap.size, 0, none⟩ = some (.int .u64 (gs.toNat : Int)) ∧ w'.cell? ⟨w6.heap.size, 1, none⟩ = some (.bool gu) ∧ w'.cell? ⟨w6.heap.size, 2, none⟩ = some (.int .i64 go)) ∧
      (w'.cell? ⟨n, 0, none⟩ = some (.int .u64 (gs.toNat : Int)) ∧ w'.cell? ⟨n, 1, none⟩ = some (.bool gu) ∧ w'.cell? ⟨n, 2, none⟩ = some (.int .i64 go)))
    (exact ⟨cells_at H7.out.2 hKK, cells_at H0.out.2.1 ((H1.out.trans' H7.out.1.keeps).trans' hKK)⟩)
    (first
      | (go_at_call 64; refine (made5 _ ⟨_, _, _⟩).mono ?_; rintro e w' ⟨rfl, kn⟩; rw [TagV.cells_def]; have hKK := hKK.trans' kn))
  have H8 := Lib.hid (H7.out.1.quiet Stable.top hKK)
  have P0 := put_at H0.out.2.2 (H1.out.trans' H8.out.keeps)
  have p0 := P0.1
  have p1 := P0.2
  clear hKK P0 qn
  go_wp2_with fail
  refine (H8.out.tells.load _ (Keeps.refl _ _) po _ rfl).mono ?_
  rintro e w9 ⟨rfl, k9⟩
  rw [HL1.out, ← HWAS.out]
  have H9 := Lib.hid (H8.out.quiet Stable.top k9)
  clear k9 p0 p1
  have P0 := put_at H0.out.2.2 (H1.out.trans' H9.out.keeps)
  have p0 := P0.1
  have p1 := P0.2
  clear P0
  go_wp2_with fail
  refine (H9.out.store Stable.top po pv (by have := HLEN.out; omega) _ _ rfl rfl).mono ?_
  rintro e w10 ⟨rfl, L10⟩
  have H10 := Lib.hid L10
  clear L10 p0 p1
  go_wp2_with fail
  refine (Read_any H10.out.tells off _ rfl).mono ?_
  rintro e w11 ⟨rfl, k11⟩
  rw [HL1.out, HRD.out.1, HRD.out.2, TagV.cells_def, codeOf_true]
  obtain ⟨w12, hw12⟩ : ∃ w12, w12 = w11.alloc (.cells #[.int .u64 (bs.toNat : Int), .bool bu, .int .i64 bo] 70) := ⟨_, rfl⟩
  have k12 : Keeps Nil w11 w12 := by rw [hw12]; exact (Keeps.refl Nil _).alloc _
  have b12 : w12.drew.heap[w11.heap.size]? = some (.cells #[.int .u64 (bs.toNat : Int), .bool bu, .int .i64 bo] 70 (0, 0)) := by rw [hw12]; exact heap_new _ _
  have L12 := (H10.out.quiet Stable.top k11).quiet Stable.top k12
  have P0 := put_at H0.out.2.2 (H1.out.trans' L12.keeps)
  have P1 := put_at H0.out.2.2 (H1.out.trans' (H10.out.quiet Stable.top k11).keeps)
  have G0 := cells_at H0.out.2.1 (H1.out.trans' L12.keeps)
  have G1 := cells_at H0.out.2.1 (H1.out.trans' (H10.out.quiet Stable.top k11).keeps)
  have hlt : n + 1 < w11.heap.size := getElem?_lt ((H1.out.trans' (H10.out.quiet Stable.top k11).keeps).at H0.out.2.2 (fun e => e))
  have hlt0 : n < w11.heap.size := by omega
  have p0 := P0.1
  have p1 := P0.2
  have r0 := P1.1
  have r1 := P1.2
  have g00 := G0.1
  have g10 := G1.1
  have H12 := Lib.hid (And.intro (L12.quiet Stable.top (keeps_drew _)) b12)
  have HW12 := Lib.hid hw12
  have hKK : Keeps Nil w12.drew w12.drew := Keeps.refl _ _
  clear k11 hw12 k12 b12 L12 P0 P1 G0 G1
  go_wp2_with fail
  rw [← HW12.out]
  clear p0 p1 r0 r1 g00 g10 hlt hlt0
  refine wp_region_held_drew (S := fun w' => (w'.cell? ⟨w11.heap.size, 0, none⟩ = some (.int .u64 (bs.toNat : Int)) ∧ w'.cell? ⟨w11.heap.size, 1, none⟩ = some (.bool bu) ∧ w'.cell? ⟨w11.heap.size, 2, none⟩ = some (.int .i64 bo)) ∧ (w'.cell? ⟨n, 0, none⟩ = some (.int .u64 (gs.toNat : Int)) ∧ w'.cell? ⟨n, 1, none⟩ = some (.bool gu) ∧ w'.cell? ⟨n, 2, none⟩ = some (.int .i64 go)) ∧ (w'.cell? ⟨n + 1, 0, none⟩ = some (.int .u64 (po.toNat : Int)) ∧ w'.cell? ⟨n + 1, 1, none⟩ = some (.int .u64 (pv.toNat : Int)))) (by kernel_rfl) ⟨cells_at H12.out.2 hKK, cells_at H0.out.2.1 ((H1.out.trans' H12.out.1.keeps).trans' hKK), put_at H0.out.2.2 ((H1.out.trans' H12.out.1.keeps).trans' hKK)⟩ (fun hHeld => ?_)
  refine wpAnyH_take (i := 0) (oi := _) (v := ?m3v0) rfl (by kernel_rfl) (by kernel_rfl) (by kernel_rfl) (fun _ _ _ h => h) (Or.inl ⟨by kernel_rfl, ?m3h0⟩) hHeld ?m3r0
  case m3h0 => (intro w hSw; (try dsimp only at hSw); go_simp; try with_reducible rfl)
  try simp only [Act.put, List.getElem_toArray, List.getElem_cons_succ, List.getElem_cons_zero, List.setIfInBounds_toArray, List.set_cons_zero, List.set_cons_succ]
  refine wpAnyH_take (i := 1) (oi := _) (v := ?m3v1) rfl (by kernel_rfl) (by kernel_rfl) (by kernel_rfl) (fun _ _ _ h => h) (Or.inl ⟨by kernel_rfl, ?m3h1⟩) hHeld ?m3r1
  case m3h1 => (intro w hSw; (try dsimp only at hSw); go_simp; try with_reducible rfl)
  try simp only [Act.put, List.getElem_toArray, List.getElem_cons_succ, List.getElem_cons_zero, List.setIfInBounds_toArray, List.set_cons_zero, List.set_cons_succ]
  refine wpAnyH_take (i := 2) (oi := _) (v := ?m3v2) rfl (by kernel_rfl) (by kernel_rfl) (by kernel_rfl) (fun _ _ _ h => h) (Or.inl ⟨by kernel_rfl, ?m3h2⟩) hHeld ?m3r2
  case m3h2 => (intro w hSw; (try dsimp only at hSw); go_simp; try with_reducible rfl)
  try simp only [Act.put, List.getElem_toArray, List.getElem_cons_succ, List.getElem_cons_zero, List.setIfInBounds_toArray, List.set_cons_zero, List.set_cons_succ]
  refine wpAnyH_take (i := 3) (oi := _) (v := ?m3v3) rfl (by kernel_rfl) (by kernel_rfl) (by kernel_rfl) (fun _ _ _ h => h) (Or.inl ⟨by kernel_rfl, ?m3h3⟩) hHeld ?m3r3
  case m3h3 => (intro w hSw; (try dsimp only at hSw); go_simp; try with_reducible rfl)
  try simp only [Act.put, List.getElem_toArray, List.getElem_cons_succ, List.getElem_cons_zero, List.setIfInBounds_toArray, List.set_cons_zero, List.set_cons_succ]
  refine wpAnyH_take (i := 4) (oi := _) (v := ?m3v4) rfl (by kernel_rfl) (by kernel_rfl) (by kernel_rfl) (fun _ _ _ h => h) (Or.inl ⟨by kernel_rfl, ?m3h4⟩) hHeld ?m3r4
  case m3h4 => (intro w hSw; (try dsimp only at hSw); go_simp; try with_reducible rfl)
  try simp only [Act.put, List.getElem_toArray, List.getElem_cons_succ, List.getElem_cons_zero, List.setIfInBounds_toArray, List.set_cons_zero, List.set_cons_succ]
  refine wpAnyH_take (i := 5) (oi := _) (v := ?m3v5) rfl (by kernel_rfl) (by kernel_rfl) (by kernel_rfl) (fun _ _ _ h => h) (Or.inl ⟨by kernel_rfl, ?m3h5⟩) hHeld ?m3r5
  case m3h5 => (intro w hSw; (try dsimp only at hSw); go_simp; try with_reducible rfl)
  try simp only [Act.put, List.getElem_toArray, List.getElem_cons_succ, List.getElem_cons_zero, List.setIfInBounds_toArray, List.set_cons_zero, List.set_cons_succ]
  refine wpAnyH_take (i := 6) (oi := _) (v := ?m3v6) rfl (by kernel_rfl) (by kernel_rfl) (by kernel_rfl) (fun _ _ _ h => h) (Or.inl ⟨by kernel_rfl, ?m3h6⟩) hHeld ?m3r6
  case m3h6 => (intro w hSw; (try dsimp only at hSw); go_simp; try with_reducible rfl)
  try simp only [Act.put, List.getElem_toArray, List.getElem_cons_succ, List.getElem_cons_zero, List.setIfInBounds_toArray, List.set_cons_zero, List.set_cons_succ]
  refine wpAnyH_take (i := 10) (oi := _) (v := ?m3v10) rfl (by kernel_rfl) (by kernel_rfl) (by kernel_rfl) (fun _ _ _ h => h) (Or.inl ⟨by kernel_rfl, ?m3h10⟩) hHeld ?m3r10
  case m3h10 => (intro w hSw; (try dsimp only at hSw); go_simp; try with_reducible rfl)
  try simp only [Act.put, List.getElem_toArray, List.getElem_cons_succ, List.getElem_cons_zero, List.setIfInBounds_toArray, List.set_cons_zero, List.set_cons_succ]
  refine wpAnyH_ready (rs := [7]) (by kernel_rfl) (by simp) ?_
  refine AllReadyH.cons (o := _) rfl (fun K hK => ?_) AllReadyH.nil
  go_simp
  refine (made5 _ ⟨gs, gu, go⟩).mono ?_; rintro e w' ⟨rfl, kn⟩; rw [TagV.cells_def]; have hKK := hKK.trans' kn
  refine hK.out _ _ (⟨cells_at H12.out.2 hKK, cells_at H0.out.2.1 ((H1.out.trans' H12.out.1.keeps).trans' hKK), put_at H0.out.2.2 ((H1.out.trans' H12.out.1.keeps).trans' hKK)⟩) (fun hHeld => ?_)
  clear hK K
  try simp only [Act.put, List.getElem_toArray, List.getElem_cons_succ, List.getElem_cons_zero, List.setIfInBounds_toArray, List.set_cons_zero, List.set_cons_succ]
  refine wpAnyH_take (i := 8) (oi := _) (v := ?m3v8) rfl (by kernel_rfl) (by kernel_rfl) (by kernel_rfl) (fun _ _ _ h => h) (Or.inl ⟨by kernel_rfl, ?m3h8⟩) hHeld ?m3r8
  case m3h8 => (intro w hSw; (try dsimp only at hSw); go_simp; try with_reducible rfl)
  try simp only [Act.put, List.getElem_toArray, List.getElem_cons_succ, List.getElem_cons_zero, List.setIfInBounds_toArray, List.set_cons_zero, List.set_cons_succ]
  refine wpAnyH_take (i := 9) (oi := _) (v := ?m3v9) rfl (by kernel_rfl) (by kernel_rfl) (by kernel_rfl) (fun _ _ _ h => h) (Or.inl ⟨by kernel_rfl, ?m3h9⟩) hHeld ?m3r9
  case m3h9 => (intro w hSw; (try dsimp only at hSw); go_simp; try with_reducible rfl)
  try simp only [Act.put, List.getElem_toArray, List.getElem_cons_succ, List.getElem_cons_zero, List.setIfInBounds_toArray, List.set_cons_zero, List.set_cons_succ]
  refine wpAnyH_take (i := 11) (oi := _) (v := ?m3v11) rfl (by kernel_rfl) (by kernel_rfl) (by kernel_rfl) (fun _ _ _ h => h) (Or.inl ⟨by kernel_rfl, ?m3h11⟩) hHeld ?m3r11
  case m3h11 => (intro w hSw; (try dsimp only at hSw); go_simp; try with_reducible rfl)
  try simp only [Act.put, List.getElem_toArray, List.getElem_cons_succ, List.getElem_cons_zero, List.setIfInBounds_toArray, List.set_cons_zero, List.set_cons_succ]
  refine wpAnyH_take (i := 12) (oi := _) (v := ?m3v12) rfl (by kernel_rfl) (by kernel_rfl) (by kernel_rfl) (fun _ _ _ h => h) (Or.inl ⟨by kernel_rfl, ?m3h12⟩) hHeld ?m3r12
  case m3h12 => (intro w hSw; (try dsimp only at hSw); go_simp; try with_reducible rfl)
  try simp only [Act.put, List.getElem_toArray, List.getElem_cons_succ, List.getElem_cons_zero, List.setIfInBounds_toArray, List.set_cons_zero, List.set_cons_succ]
  refine wpAnyH_take (i := 13) (oi := _) (v := ?m3v13) rfl (by kernel_rfl) (by kernel_rfl) (by kernel_rfl) (fun _ _ _ h => h) (Or.inl ⟨by kernel_rfl, ?m3h13⟩) hHeld ?m3r13
  case m3h13 => (intro w hSw; (try dsimp only at hSw); go_simp; try with_reducible rfl)
  try simp only [Act.put, List.getElem_toArray, List.getElem_cons_succ, List.getElem_cons_zero, List.setIfInBounds_toArray, List.set_cons_zero, List.set_cons_succ]
  refine wpAnyH_take (i := 14) (oi := _) (v := ?m3v14) rfl (by kernel_rfl) (by kernel_rfl) (by kernel_rfl) (fun _ _ _ h => h) (Or.inl ⟨by kernel_rfl, ?m3h14⟩) hHeld ?m3r14
  case m3h14 => (intro w hSw; (try dsimp only at hSw); go_simp; try with_reducible rfl)
  try simp only [Act.put, List.getElem_toArray, List.getElem_cons_succ, List.getElem_cons_zero, List.setIfInBounds_toArray, List.set_cons_zero, List.set_cons_succ]
  refine wpAnyH_take (i := 15) (oi := _) (v := ?m3v15) rfl (by kernel_rfl) (by kernel_rfl) (by kernel_rfl) (fun _ _ _ h => h) (Or.inl ⟨by kernel_rfl, ?m3h15⟩) hHeld ?m3r15
  case m3h15 => (intro w hSw; (try dsimp only at hSw); go_simp; try with_reducible rfl)
  try simp only [Act.put, List.getElem_toArray, List.getElem_cons_succ, List.getElem_cons_zero, List.setIfInBounds_toArray, List.set_cons_zero, List.set_cons_succ]
  refine wpAnyH_take (i := 16) (oi := _) (v := ?m3v16) rfl (by kernel_rfl) (by kernel_rfl) (by kernel_rfl) (fun _ _ _ h => h) (Or.inl ⟨by kernel_rfl, ?m3h16⟩) hHeld ?m3r16
  case m3h16 => (intro w hSw; (try dsimp only at hSw); go_simp; try with_reducible rfl)
  try simp only [Act.put, List.getElem_toArray, List.getElem_cons_succ, List.getElem_cons_zero, List.setIfInBounds_toArray, List.set_cons_zero, List.set_cons_succ]
  refine wpAnyH_take (i := 17) (oi := _) (v := ?m3v17) rfl (by kernel_rfl) (by kernel_rfl) (by kernel_rfl) (fun _ _ _ h => h) (Or.inl ⟨by kernel_rfl, ?m3h17⟩) hHeld ?m3r17
  case m3h17 => (intro w hSw; (try dsimp only at hSw); go_simp; try with_reducible rfl)
  try simp only [Act.put, List.getElem_toArray, List.getElem_cons_succ, List.getElem_cons_zero, List.setIfInBounds_toArray, List.set_cons_zero, List.set_cons_succ]
  refine wpAnyH_take (i := 18) (oi := _) (v := undef) rfl (by kernel_rfl) (by kernel_rfl) (by kernel_rfl) (fun _ _ _ h => h) (Or.inr ⟨by kernel_rfl, rfl⟩) hHeld ?_
  try simp only [Act.put, List.getElem_toArray, List.getElem_cons_succ, List.getElem_cons_zero, List.setIfInBounds_toArray, List.set_cons_zero, List.set_cons_succ]
  refine wpAnyH_take (i := 19) (oi := _) (v := undef) rfl (by kernel_rfl) (by kernel_rfl) (by kernel_rfl) (fun _ _ _ h => h) (Or.inr ⟨by kernel_rfl, rfl⟩) hHeld ?_
  try simp only [Act.put, List.getElem_toArray, List.getElem_cons_succ, List.getElem_cons_zero, List.setIfInBounds_toArray, List.set_cons_zero, List.set_cons_succ]
  refine wpAnyH_take (i := 20) (oi := _) (v := undef) rfl (by kernel_rfl) (by kernel_rfl) (by kernel_rfl) (fun _ _ _ h => h) (Or.inr ⟨by kernel_rfl, rfl⟩) hHeld ?_
  try simp only [Act.put, List.getElem_toArray, List.getElem_cons_succ, List.getElem_cons_zero, List.setIfInBounds_toArray, List.set_cons_zero, List.set_cons_succ]
  refine wpAnyH_take (i := 21) (oi := _) (v := undef) rfl (by kernel_rfl) (by kernel_rfl) (by kernel_rfl) (fun _ _ _ h => h) (Or.inr ⟨by kernel_rfl, rfl⟩) hHeld ?_
  try simp only [Act.put, List.getElem_toArray, List.getElem_cons_succ, List.getElem_cons_zero, List.setIfInBounds_toArray, List.set_cons_zero, List.set_cons_succ]
  refine wpAnyH_take (i := 22) (oi := _) (v := undef) rfl (by kernel_rfl) (by kernel_rfl) (by kernel_rfl) (fun _ _ _ h => h) (Or.inr ⟨by kernel_rfl, rfl⟩) hHeld ?_
  try simp only [Act.put, List.getElem_toArray, List.getElem_cons_succ, List.getElem_cons_zero, List.setIfInBounds_toArray, List.set_cons_zero, List.set_cons_succ]
  refine wpAnyH_take (i := 23) (oi := _) (v := undef) rfl (by kernel_rfl) (by kernel_rfl) (by kernel_rfl) (fun _ _ _ h => h) (Or.inr ⟨by kernel_rfl, rfl⟩) hHeld ?_
  try simp only [Act.put, List.getElem_toArray, List.getElem_cons_succ, List.getElem_cons_zero, List.setIfInBounds_toArray, List.set_cons_zero, List.set_cons_succ]
  refine wpAnyH_take (i := 24) (oi := _) (v := undef) rfl (by kernel_rfl) (by kernel_rfl) (by kernel_rfl) (fun _ _ _ h => h) (Or.inr ⟨by kernel_rfl, rfl⟩) hHeld ?_
  try simp only [Act.put, List.getElem_toArray, List.getElem_cons_succ, List.getElem_cons_zero, List.setIfInBounds_toArray, List.set_cons_zero, List.set_cons_succ]
  refine wpAnyH_take (i := 25) (oi := _) (v := undef) rfl (by kernel_rfl) (by kernel_rfl) (by kernel_rfl) (fun _ _ _ h => h) (Or.inr ⟨by kernel_rfl, rfl⟩) hHeld ?_
  try simp only [Act.put, List.getElem_toArray, List.getElem_cons_succ, List.getElem_cons_zero, List.setIfInBounds_toArray, List.set_cons_zero, List.set_cons_succ]
  refine wpAnyH_take (i := 26) (oi := _) (v := undef) rfl (by kernel_rfl) (by kernel_rfl) (by kernel_rfl) (fun _ _ _ h => h) (Or.inr ⟨by kernel_rfl, rfl⟩) hHeld ?_
  try simp only [Act.put, List.getElem_toArray, List.getElem_cons_succ, List.getElem_cons_zero, List.setIfInBounds_toArray, List.set_cons_zero, List.set_cons_succ]
  refine wpAnyH_take (i := 27) (oi := _) (v := undef) rfl (by kernel_rfl) (by kernel_rfl) (by kernel_rfl) (fun _ _ _ h => h) (Or.inr ⟨by kernel_rfl, rfl⟩) hHeld ?_
  try simp only [Act.put, List.getElem_toArray, List.getElem_cons_succ, List.getElem_cons_zero, List.setIfInBounds_toArray, List.set_cons_zero, List.set_cons_succ]
  refine wpAnyH_take (i := 28) (oi := _) (v := undef) rfl (by kernel_rfl) (by kernel_rfl) (by kernel_rfl) (fun _ _ _ h => h) (Or.inr ⟨by kernel_rfl, rfl⟩) hHeld ?_
  try simp only [Act.put, List.getElem_toArray, List.getElem_cons_succ, List.getElem_cons_zero, List.setIfInBounds_toArray, List.set_cons_zero, List.set_cons_succ]
  refine wpAnyH_take (i := 29) (oi := _) (v := undef) rfl (by kernel_rfl) (by kernel_rfl) (by kernel_rfl) (fun _ _ _ h => h) (Or.inr ⟨by kernel_rfl, rfl⟩) hHeld ?_
  try simp only [Act.put, List.getElem_toArray, List.getElem_cons_succ, List.getElem_cons_zero, List.setIfInBounds_toArray, List.set_cons_zero, List.set_cons_succ]
  refine wpAnyH_take (i := 30) (oi := _) (v := ?m3v30) rfl (by kernel_rfl) (by kernel_rfl) (by kernel_rfl) (fun _ _ _ h => h) (Or.inl ⟨by kernel_rfl, ?m3h30⟩) hHeld ?m3r30
  case m3h30 => (intro w hSw; (try dsimp only at hSw); go_simp; try with_reducible rfl)
  try simp only [Act.put, List.getElem_toArray, List.getElem_cons_succ, List.getElem_cons_zero, List.setIfInBounds_toArray, List.set_cons_zero, List.set_cons_succ]
  refine wpAnyH_take (i := 31) (oi := _) (v := ?m3v31) rfl (by kernel_rfl) (by kernel_rfl) (by kernel_rfl) (fun _ _ _ h => h) (Or.inl ⟨by kernel_rfl, ?m3h31⟩) hHeld ?m3r31
  case m3h31 => (intro w hSw; (try dsimp only at hSw); go_simp; try with_reducible rfl)
  try simp only [Act.put, List.getElem_toArray, List.getElem_cons_succ, List.getElem_cons_zero, List.setIfInBounds_toArray, List.set_cons_zero, List.set_cons_succ]
  refine wpAnyH_take (i := 32) (oi := _) (v := ?m3v32) rfl (by kernel_rfl) (by kernel_rfl) (by kernel_rfl) (fun _ _ _ h => h) (Or.inl ⟨by kernel_rfl, ?m3h32⟩) hHeld ?m3r32
  case m3h32 => (intro w hSw; (try dsimp only at hSw); go_simp; try with_reducible rfl)
  try simp only [Act.put, List.getElem_toArray, List.getElem_cons_succ, List.getElem_cons_zero, List.setIfInBounds_toArray, List.set_cons_zero, List.set_cons_succ]
  refine wpAnyH_take (i := 33) (oi := _) (v := ?m3v33) rfl (by kernel_rfl) (by kernel_rfl) (by kernel_rfl) (fun _ _ _ h => h) (Or.inl ⟨by kernel_rfl, ?m3h33⟩) hHeld ?m3r33
  case m3h33 => (intro w hSw; (try dsimp only at hSw); go_simp; try with_reducible rfl)
  try simp only [Act.put, List.getElem_toArray, List.getElem_cons_succ, List.getElem_cons_zero, List.setIfInBounds_toArray, List.set_cons_zero, List.set_cons_succ]
  refine wpAnyH_done (by kernel_rfl) ?_ _
  have HK := Lib.hid ((H0.out.1.trans' (H1.out.trans' H12.out.1.keeps)).trans' hKK)
  clear hKK
  go_wp2_with fail
  go_ret
  exact ⟨rfl, HK.out⟩
end Go.Proofs.Ytccllkgaakmdhaa
