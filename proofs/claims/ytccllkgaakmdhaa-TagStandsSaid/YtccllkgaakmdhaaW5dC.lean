/- carracklaw05.TagStands: cases d0, e0, f0. -/
import Derived.Test.YtccllkgaakmdhaaW5dN
import Derived.Test.YtccllkgaakmdhaaW5c
namespace Go.Proofs.Ytccllkgaakmdhaa
open Go.RowKit

set_option maxRecDepth 100000 in
set_option maxHeartbeats 8000000 in
theorem stands_d0 {w : World} (off : UInt64) (g : TagV) (po pv : UInt64) (hB : writeB (txLoad ws44 []) off g = true) (hrd : readB (txLoad ws44 (txStore ws44 (writeP ws44 [] off g) po pv)) off = true) (hgg : readT (txLoad ws44 (txStore ws44 (writeP ws44 [] off g) po pv)) off = g) (h1 : po ≠ off) (h2 : po ≠ off + g.size - 8) (h16 : po ≠ 16) : Calls Try.prog 19 #[.int .u64 (off.toNat : Int), .agg g.cells, .agg #[.int .u64 (po.toNat : Int), .int .u64 (pv.toNat : Int)]] w fun e w' => e = .returned (.bool true) ∧ Keeps Nil w w' := by
  obtain ⟨gs, gu, go⟩ := g
  obtain ⟨bs, bu, bo, hbb⟩ : ∃ bs bu bo, readT (txLoad ws44 (txStore ws44 (writeP ws44 [] off ⟨gs, gu, go⟩) po pv)) off = ⟨bs, bu, bo⟩ := ⟨_, _, _, rfl⟩
  have HRD := Lib.hid (And.intro hrd hbb)
  rw [hgg] at hbb
  obtain ⟨rfl, rfl, rfl⟩ := TagV.mk.inj hbb
  have qb := tag_neq_self gs gu go
  obtain ⟨was, hwas⟩ : ∃ was, was = txLoad ws44 (writeP ws44 [] off ⟨gs, gu, go⟩) po := ⟨_, rfl⟩
  obtain ⟨y1, hy1⟩ : ∃ y, y = off + gs := ⟨_, rfl⟩
  obtain ⟨y2, hy2⟩ : ∃ y, y = off + gs - 8 := ⟨_, rfl⟩
  have q1 := add_eq off gs
  have q2 := sub8_eq (off + gs)
  rw [← hy1] at q1 q2
  rw [← hy1] at hy2
  rw [← hy2] at q2
  have t1 := (unlike_u64 h1).2
  have t2 : ((po.toNat : Int) == (y2.toNat : Int)) = false := (unlike_u64 (by rw [hy2, hy1]; exact h2)).2
  have t4 : ((po.toNat : Int) == 16) = false := (unlike_u64 (b := 16) h16).2
  have HB := Lib.hid hB
  have HWAS := Lib.hid hwas
  clear hB hrd hwas hy1 hy2 h1 h2 hgg hbb h16
  rw [TagV.cells_def]
  have hgd := tag_gd
  obtain ⟨n, hn⟩ : ∃ n, n = w.heap.size := ⟨_, rfl⟩
  obtain ⟨w0, hw0⟩ : ∃ w0, w0 = (w.alloc (.cells #[.int .u64 (gs.toNat : Int), .bool gu, .int .i64 go] 69)).alloc (.cells #[.int .u64 (po.toNat : Int), .int .u64 (pv.toNat : Int)] 38) := ⟨_, rfl⟩
  have k0 : Keeps Nil w w0 := by rw [hw0]; exact ((Keeps.refl Nil _).alloc _).alloc _
  have b0 : w0.heap[n]? = some (.cells #[.int .u64 (gs.toNat : Int), .bool gu, .int .i64 go] 69 (0, 0)) := by rw [hw0, hn]; exact heap_old _ _ (heap_new _ _)
  have b1 : w0.heap[n + 1]? = some (.cells #[.int .u64 (po.toNat : Int), .int .u64 (pv.toNat : Int)] 38 (0, 0)) := by
    rw [hw0, hn]
    have := heap_new (w.alloc (.cells #[.int .u64 (gs.toNat : Int), .bool gu, .int .i64 go] 69)) (.cells #[.int .u64 (po.toNat : Int), .int .u64 (pv.toNat : Int)] 38)
    simpa using this
  have H0 := Lib.hid (And.intro k0 (And.intro b0 b1))
  have HW0 := Lib.hid hw0
  have HN := Lib.hid hn
  clear hn hw0 k0 b0 b1
  go_enter Try.func19, Try.ntmps19
  go_wp2_with fail
  rw [← HW0.out, ← HN.out]
  refine (awake5 _).mono ?_
  rintro e w1 ⟨rfl, k1⟩
  have H1 := Lib.hid k1
  clear k1
  go_wp2_with fail
  refine (formed05' (l := []) 4480 Look.nil _ (by rfl)).mono ?_
  rintro e w2 ⟨sg, t, ab, ao, ac, a2, n2, cc2, rfl, L⟩
  have L2 : Live w1 w2 sg t [] ws44 Top := L.reads (fun _ _ _ => trivial)
  obtain ⟨w3, hw3⟩ : ∃ w3, w3 = w2.alloc (.cells #[.slice (some ⟨ab, ao, none⟩) 600 ac, .slice a2 n2 cc2] 28) := ⟨_, rfl⟩
  have L3 := L2.quiet (w' := w3) Stable.top (by rw [hw3]; exact (Keeps.refl Nil _).alloc _)
  have C0 := cells_at H0.out.2.1 (H1.out.trans' L2.keeps)
  have D0 := cells_at H0.out.2.1 (H1.out.trans' L3.keeps)
  have hlt : n + 1 < w2.heap.size := getElem?_lt ((H1.out.trans' L2.keeps).at H0.out.2.2 (fun e => e))
  have hlt0 : n < w2.heap.size := getElem?_lt ((H1.out.trans' L2.keeps).at H0.out.2.1 (fun e => e))
  have H3 := Lib.hid L3
  have HW3 := Lib.hid hw3
  have c00 := C0.1
  have c01 := C0.2.1
  have c02 := C0.2.2
  have d00 := D0.1
  have d01 := D0.2.1
  have d02 := D0.2.2
  clear L L2 L3 C0 D0 hw3
  go_wp2_with fail
  rw [← HW3.out]
  refine (made5 _ ⟨gs, gu, go⟩).mono ?_
  rintro e w4 ⟨rfl, k4⟩
  rw [TagV.cells_def]
  have H4 := Lib.hid (H3.out.quiet Stable.top k4)
  clear k4 c00 c01 c02 d00 d01 d02 hlt hlt0
  go_wp2_with fail
  refine (H4.out.tagWrite Stable.top off ⟨gs, gu, go⟩ (by decide) _ rfl).mono ?_
  rintro e w5 ⟨rfl, L5⟩
  rw [HB.out]
  rw [codeOf_true]
  obtain ⟨l1, hl1⟩ : ∃ l1, l1 = writeP ws44 [] off ⟨gs, gu, go⟩ := ⟨_, rfl⟩
  rw [← hl1] at L5
  have hlen : l1.length ≤ 2 := by rw [hl1]; exact writeP_length _ _ _ _
  have HL1 := Lib.hid hl1
  have HLEN := Lib.hid hlen
  have H5 := Lib.hid L5
  clear L5 hl1 hlen
  go_wp2_with fail
  refine (Read_any H5.out.tells off _ rfl).mono ?_
  rintro e w6 ⟨rfl, k6⟩
  rw [HL1.out, (stands_read HB.out).1, (stands_read HB.out).2, codeOf_true, TagV.cells_def]
  obtain ⟨w7, hw7⟩ : ∃ w7, w7 = w6.alloc (.cells #[.int .u64 (gs.toNat : Int), .bool gu, .int .i64 go] 70) := ⟨_, rfl⟩
  have k67 : Keeps Nil w6 w7 := by rw [hw7]; exact (Keeps.refl Nil _).alloc _
  have b7 : w7.drew.heap[w6.heap.size]? = some (.cells #[.int .u64 (gs.toNat : Int), .bool gu, .int .i64 go] 70 (0, 0)) := by rw [hw7]; exact heap_new _ _
  have L7 := ((H5.out.quiet Stable.top k6).quiet Stable.top k67).quiet Stable.top (keeps_drew _)
  have H7 := Lib.hid (And.intro L7 b7)
  have HW7 := Lib.hid hw7
  have qn := tag_neq_self gs gu go
  have hKK : Keeps Nil w7.drew w7.drew := Keeps.refl _ _
  clear k6 k67 hw7 b7 L7
  go_wp2_with fail
  rw [← HW7.out]
  go_region_held3 (fun w' => (w'.cell? ⟨w6.heap.size, 0, none⟩ = some (.int .u64 (gs.toNat : Int)) ∧ w'.cell? ⟨w6.heap.size, 1, none⟩ = some (.bool gu) ∧ w'.cell? ⟨w6.heap.size, 2, none⟩ = some (.int .i64 go)) ∧
      (w'.cell? ⟨n, 0, none⟩ = some (.int .u64 (gs.toNat : Int)) ∧ w'.cell? ⟨n, 1, none⟩ = some (.bool gu) ∧ w'.cell? ⟨n, 2, none⟩ = some (.int .i64 go)))
    (exact ⟨cells_at H7.out.2 hKK, cells_at H0.out.2.1 ((H1.out.trans' H7.out.1.keeps).trans' hKK)⟩)
    (first
      | (go_at_call 64; refine (made5 _ ⟨_, _, _⟩).mono ?_; rintro e w' ⟨rfl, kn⟩; rw [TagV.cells_def]; have hKK := hKK.trans' kn))
  have H8 := Lib.hid (H7.out.1.quiet Stable.top hKK)
  have P0 := put_at H0.out.2.2 (H1.out.trans' H8.out.keeps)
  have p0 := P0.1
  have p1 := P0.2
  clear hKK P0 qn
  go_wp2_with fail
  refine (H8.out.tells.load _ (Keeps.refl _ _) po _ rfl).mono ?_
  rintro e w9 ⟨rfl, k9⟩
  rw [HL1.out, ← HWAS.out]
  have H9 := Lib.hid (H8.out.quiet Stable.top k9)
  clear k9 p0 p1
  have P0 := put_at H0.out.2.2 (H1.out.trans' H9.out.keeps)
  have p0 := P0.1
  have p1 := P0.2
  clear P0
  go_wp2_with fail
  refine (H9.out.store Stable.top po pv (by have := HLEN.out; omega) _ _ rfl rfl).mono ?_
  rintro e w10 ⟨rfl, L10⟩
  have H10 := Lib.hid L10
  clear L10 p0 p1
  go_wp2_with fail
  refine (Read_any H10.out.tells off _ rfl).mono ?_
  rintro e w11 ⟨rfl, k11⟩
  rw [HL1.out, HRD.out.1, HRD.out.2, TagV.cells_def, codeOf_true]
  obtain ⟨w12, hw12⟩ : ∃ w12, w12 = w11.alloc (.cells #[.int .u64 (gs.toNat : Int), .bool gu, .int .i64 go] 70) := ⟨_, rfl⟩
  have k12 : Keeps Nil w11 w12 := by rw [hw12]; exact (Keeps.refl Nil _).alloc _
  have b12 : w12.drew.heap[w11.heap.size]? = some (.cells #[.int .u64 (gs.toNat : Int), .bool gu, .int .i64 go] 70 (0, 0)) := by rw [hw12]; exact heap_new _ _
  have L12 := (H10.out.quiet Stable.top k11).quiet Stable.top k12
  have P0 := put_at H0.out.2.2 (H1.out.trans' L12.keeps)
  have P1 := put_at H0.out.2.2 (H1.out.trans' (H10.out.quiet Stable.top k11).keeps)
  have G0 := cells_at H0.out.2.1 (H1.out.trans' L12.keeps)
  have G1 := cells_at H0.out.2.1 (H1.out.trans' (H10.out.quiet Stable.top k11).keeps)
  have hlt : n + 1 < w11.heap.size := getElem?_lt ((H1.out.trans' (H10.out.quiet Stable.top k11).keeps).at H0.out.2.2 (fun e => e))
  have hlt0 : n < w11.heap.size := by omega
  have p0 := P0.1
  have p1 := P0.2
  have r0 := P1.1
  have r1 := P1.2
  have g00 := G0.1
  have g10 := G1.1
  have H12 := Lib.hid (And.intro (L12.quiet Stable.top (keeps_drew _)) b12)
  have HW12 := Lib.hid hw12
  have hKK : Keeps Nil w12.drew w12.drew := Keeps.refl _ _
  clear k11 hw12 k12 b12 L12 P0 P1 G0 G1
  go_wp2_with fail
  rw [← HW12.out]
  clear p0 p1 r0 r1 g00 g10 hlt hlt0
  refine wp_region_held_drew (S := fun w' => (w'.cell? ⟨w11.heap.size, 0, none⟩ = some (.int .u64 (gs.toNat : Int)) ∧ w'.cell? ⟨w11.heap.size, 1, none⟩ = some (.bool gu) ∧ w'.cell? ⟨w11.heap.size, 2, none⟩ = some (.int .i64 go)) ∧ (w'.cell? ⟨n, 0, none⟩ = some (.int .u64 (gs.toNat : Int)) ∧ w'.cell? ⟨n, 1, none⟩ = some (.bool gu) ∧ w'.cell? ⟨n, 2, none⟩ = some (.int .i64 go)) ∧ (w'.cell? ⟨n + 1, 0, none⟩ = some (.int .u64 (po.toNat : Int)) ∧ w'.cell? ⟨n + 1, 1, none⟩ = some (.int .u64 (pv.toNat : Int)))) (by kernel_rfl) ⟨cells_at H12.out.2 hKK, cells_at H0.out.2.1 ((H1.out.trans' H12.out.1.keeps).trans' hKK), put_at H0.out.2.2 ((H1.out.trans' H12.out.1.keeps).trans' hKK)⟩ (fun hHeld => ?_)
  refine wpAnyH_take (i := 0) (oi := _) (v := ?m7v0) rfl (by kernel_rfl) (by kernel_rfl) (by kernel_rfl) (fun _ _ _ h => h) (Or.inl ⟨by kernel_rfl, ?m7h0⟩) hHeld ?m7r0
  case m7h0 => (intro w hSw; (try dsimp only at hSw); go_simp; try with_reducible rfl)
  try simp only [Act.put, List.getElem_toArray, List.getElem_cons_succ, List.getElem_cons_zero, List.setIfInBounds_toArray, List.set_cons_zero, List.set_cons_succ]
  refine wpAnyH_take (i := 1) (oi := _) (v := ?m7v1) rfl (by kernel_rfl) (by kernel_rfl) (by kernel_rfl) (fun _ _ _ h => h) (Or.inl ⟨by kernel_rfl, ?m7h1⟩) hHeld ?m7r1
  case m7h1 => (intro w hSw; (try dsimp only at hSw); go_simp; try with_reducible rfl)
  try simp only [Act.put, List.getElem_toArray, List.getElem_cons_succ, List.getElem_cons_zero, List.setIfInBounds_toArray, List.set_cons_zero, List.set_cons_succ]
  refine wpAnyH_take (i := 2) (oi := _) (v := ?m7v2) rfl (by kernel_rfl) (by kernel_rfl) (by kernel_rfl) (fun _ _ _ h => h) (Or.inl ⟨by kernel_rfl, ?m7h2⟩) hHeld ?m7r2
  case m7h2 => (intro w hSw; (try dsimp only at hSw); go_simp; try with_reducible rfl)
  try simp only [Act.put, List.getElem_toArray, List.getElem_cons_succ, List.getElem_cons_zero, List.setIfInBounds_toArray, List.set_cons_zero, List.set_cons_succ]
  refine wpAnyH_take (i := 3) (oi := _) (v := ?m7v3) rfl (by kernel_rfl) (by kernel_rfl) (by kernel_rfl) (fun _ _ _ h => h) (Or.inl ⟨by kernel_rfl, ?m7h3⟩) hHeld ?m7r3
  case m7h3 => (intro w hSw; (try dsimp only at hSw); go_simp; try with_reducible rfl)
  try simp only [Act.put, List.getElem_toArray, List.getElem_cons_succ, List.getElem_cons_zero, List.setIfInBounds_toArray, List.set_cons_zero, List.set_cons_succ]
  refine wpAnyH_take (i := 4) (oi := _) (v := ?m7v4) rfl (by kernel_rfl) (by kernel_rfl) (by kernel_rfl) (fun _ _ _ h => h) (Or.inl ⟨by kernel_rfl, ?m7h4⟩) hHeld ?m7r4
  case m7h4 => (intro w hSw; (try dsimp only at hSw); go_simp; try with_reducible rfl)
  try simp only [Act.put, List.getElem_toArray, List.getElem_cons_succ, List.getElem_cons_zero, List.setIfInBounds_toArray, List.set_cons_zero, List.set_cons_succ]
  refine wpAnyH_take (i := 5) (oi := _) (v := ?m7v5) rfl (by kernel_rfl) (by kernel_rfl) (by kernel_rfl) (fun _ _ _ h => h) (Or.inl ⟨by kernel_rfl, ?m7h5⟩) hHeld ?m7r5
  case m7h5 => (intro w hSw; (try dsimp only at hSw); go_simp; try with_reducible rfl)
  try simp only [Act.put, List.getElem_toArray, List.getElem_cons_succ, List.getElem_cons_zero, List.setIfInBounds_toArray, List.set_cons_zero, List.set_cons_succ]
  refine wpAnyH_take (i := 6) (oi := _) (v := ?m7v6) rfl (by kernel_rfl) (by kernel_rfl) (by kernel_rfl) (fun _ _ _ h => h) (Or.inl ⟨by kernel_rfl, ?m7h6⟩) hHeld ?m7r6
  case m7h6 => (intro w hSw; (try dsimp only at hSw); go_simp; try with_reducible rfl)
  try simp only [Act.put, List.getElem_toArray, List.getElem_cons_succ, List.getElem_cons_zero, List.setIfInBounds_toArray, List.set_cons_zero, List.set_cons_succ]
  refine wpAnyH_take (i := 10) (oi := _) (v := ?m7v10) rfl (by kernel_rfl) (by kernel_rfl) (by kernel_rfl) (fun _ _ _ h => h) (Or.inl ⟨by kernel_rfl, ?m7h10⟩) hHeld ?m7r10
  case m7h10 => (intro w hSw; (try dsimp only at hSw); go_simp; try with_reducible rfl)
  try simp only [Act.put, List.getElem_toArray, List.getElem_cons_succ, List.getElem_cons_zero, List.setIfInBounds_toArray, List.set_cons_zero, List.set_cons_succ]
  refine wpAnyH_ready (rs := [7]) (by kernel_rfl) (by simp) ?_
  refine AllReadyH.cons (o := _) rfl (fun K hK => ?_) AllReadyH.nil
  go_simp
  refine (made5 _ ⟨gs, gu, go⟩).mono ?_; rintro e w' ⟨rfl, kn⟩; rw [TagV.cells_def]; have hKK := hKK.trans' kn
  refine hK.out _ _ (⟨cells_at H12.out.2 hKK, cells_at H0.out.2.1 ((H1.out.trans' H12.out.1.keeps).trans' hKK), put_at H0.out.2.2 ((H1.out.trans' H12.out.1.keeps).trans' hKK)⟩) (fun hHeld => ?_)
  clear hK K
  try simp only [Act.put, List.getElem_toArray, List.getElem_cons_succ, List.getElem_cons_zero, List.setIfInBounds_toArray, List.set_cons_zero, List.set_cons_succ]
  refine wpAnyH_take (i := 8) (oi := _) (v := ?m7v8) rfl (by kernel_rfl) (by kernel_rfl) (by kernel_rfl) (fun _ _ _ h => h) (Or.inl ⟨by kernel_rfl, ?m7h8⟩) hHeld ?m7r8
  case m7h8 => (intro w hSw; (try dsimp only at hSw); go_simp; try with_reducible rfl)
  try simp only [Act.put, List.getElem_toArray, List.getElem_cons_succ, List.getElem_cons_zero, List.setIfInBounds_toArray, List.set_cons_zero, List.set_cons_succ]
  refine wpAnyH_take (i := 9) (oi := _) (v := ?m7v9) rfl (by kernel_rfl) (by kernel_rfl) (by kernel_rfl) (fun _ _ _ h => h) (Or.inl ⟨by kernel_rfl, ?m7h9⟩) hHeld ?m7r9
  case m7h9 => (intro w hSw; (try dsimp only at hSw); go_simp; try with_reducible rfl)
  try simp only [Act.put, List.getElem_toArray, List.getElem_cons_succ, List.getElem_cons_zero, List.setIfInBounds_toArray, List.set_cons_zero, List.set_cons_succ]
  refine wpAnyH_take (i := 11) (oi := _) (v := ?m7v11) rfl (by kernel_rfl) (by kernel_rfl) (by kernel_rfl) (fun _ _ _ h => h) (Or.inl ⟨by kernel_rfl, ?m7h11⟩) hHeld ?m7r11
  case m7h11 => (intro w hSw; (try dsimp only at hSw); go_simp; try with_reducible rfl)
  try simp only [Act.put, List.getElem_toArray, List.getElem_cons_succ, List.getElem_cons_zero, List.setIfInBounds_toArray, List.set_cons_zero, List.set_cons_succ]
  refine wpAnyH_take (i := 12) (oi := _) (v := undef) rfl (by kernel_rfl) (by kernel_rfl) (by kernel_rfl) (fun _ _ _ h => h) (Or.inr ⟨by kernel_rfl, rfl⟩) hHeld ?_
  try simp only [Act.put, List.getElem_toArray, List.getElem_cons_succ, List.getElem_cons_zero, List.setIfInBounds_toArray, List.set_cons_zero, List.set_cons_succ]
  refine wpAnyH_take (i := 13) (oi := _) (v := undef) rfl (by kernel_rfl) (by kernel_rfl) (by kernel_rfl) (fun _ _ _ h => h) (Or.inr ⟨by kernel_rfl, rfl⟩) hHeld ?_
  try simp only [Act.put, List.getElem_toArray, List.getElem_cons_succ, List.getElem_cons_zero, List.setIfInBounds_toArray, List.set_cons_zero, List.set_cons_succ]
  refine wpAnyH_take (i := 14) (oi := _) (v := undef) rfl (by kernel_rfl) (by kernel_rfl) (by kernel_rfl) (fun _ _ _ h => h) (Or.inr ⟨by kernel_rfl, rfl⟩) hHeld ?_
  try simp only [Act.put, List.getElem_toArray, List.getElem_cons_succ, List.getElem_cons_zero, List.setIfInBounds_toArray, List.set_cons_zero, List.set_cons_succ]
  refine wpAnyH_take (i := 15) (oi := _) (v := undef) rfl (by kernel_rfl) (by kernel_rfl) (by kernel_rfl) (fun _ _ _ h => h) (Or.inr ⟨by kernel_rfl, rfl⟩) hHeld ?_
  try simp only [Act.put, List.getElem_toArray, List.getElem_cons_succ, List.getElem_cons_zero, List.setIfInBounds_toArray, List.set_cons_zero, List.set_cons_succ]
  refine wpAnyH_take (i := 16) (oi := _) (v := ?m7v16) rfl (by kernel_rfl) (by kernel_rfl) (by kernel_rfl) (fun _ _ _ h => h) (Or.inl ⟨by kernel_rfl, ?m7h16⟩) hHeld ?m7r16
  case m7h16 => (intro w hSw; (try dsimp only at hSw); go_simp; try with_reducible rfl)
  try simp only [Act.put, List.getElem_toArray, List.getElem_cons_succ, List.getElem_cons_zero, List.setIfInBounds_toArray, List.set_cons_zero, List.set_cons_succ]
  refine wpAnyH_take (i := 17) (oi := _) (v := ?m7v17) rfl (by kernel_rfl) (by kernel_rfl) (by kernel_rfl) (fun _ _ _ h => h) (Or.inl ⟨by kernel_rfl, ?m7h17⟩) hHeld ?m7r17
  case m7h17 => (intro w hSw; (try dsimp only at hSw); go_simp; try with_reducible rfl)
  try simp only [Act.put, List.getElem_toArray, List.getElem_cons_succ, List.getElem_cons_zero, List.setIfInBounds_toArray, List.set_cons_zero, List.set_cons_succ]
  refine wpAnyH_take (i := 18) (oi := _) (v := ?m7v18) rfl (by kernel_rfl) (by kernel_rfl) (by kernel_rfl) (fun _ _ _ h => h) (Or.inl ⟨by kernel_rfl, ?m7h18⟩) hHeld ?m7r18
  case m7h18 => (intro w hSw; (try dsimp only at hSw); go_simp; try with_reducible rfl)
  try simp only [Act.put, List.getElem_toArray, List.getElem_cons_succ, List.getElem_cons_zero, List.setIfInBounds_toArray, List.set_cons_zero, List.set_cons_succ]
  refine wpAnyH_take (i := 19) (oi := _) (v := ?m7v19) rfl (by kernel_rfl) (by kernel_rfl) (by kernel_rfl) (fun _ _ _ h => h) (Or.inl ⟨by kernel_rfl, ?m7h19⟩) hHeld ?m7r19
  case m7h19 => (intro w hSw; (try dsimp only at hSw); go_simp; try with_reducible rfl)
  try simp only [Act.put, List.getElem_toArray, List.getElem_cons_succ, List.getElem_cons_zero, List.setIfInBounds_toArray, List.set_cons_zero, List.set_cons_succ]
  refine wpAnyH_take (i := 20) (oi := _) (v := ?m7v20) rfl (by kernel_rfl) (by kernel_rfl) (by kernel_rfl) (fun _ _ _ h => h) (Or.inl ⟨by kernel_rfl, ?m7h20⟩) hHeld ?m7r20
  case m7h20 => (intro w hSw; (try dsimp only at hSw); go_simp; try with_reducible rfl)
  try simp only [Act.put, List.getElem_toArray, List.getElem_cons_succ, List.getElem_cons_zero, List.setIfInBounds_toArray, List.set_cons_zero, List.set_cons_succ]
  refine wpAnyH_take (i := 21) (oi := _) (v := ?m7v21) rfl (by kernel_rfl) (by kernel_rfl) (by kernel_rfl) (fun _ _ _ h => h) (Or.inl ⟨by kernel_rfl, ?m7h21⟩) hHeld ?m7r21
  case m7h21 => (intro w hSw; (try dsimp only at hSw); go_simp; try with_reducible rfl)
  try simp only [Act.put, List.getElem_toArray, List.getElem_cons_succ, List.getElem_cons_zero, List.setIfInBounds_toArray, List.set_cons_zero, List.set_cons_succ]
  refine wpAnyH_take (i := 22) (oi := _) (v := undef) rfl (by kernel_rfl) (by kernel_rfl) (by kernel_rfl) (fun _ _ _ h => h) (Or.inr ⟨by kernel_rfl, rfl⟩) hHeld ?_
  try simp only [Act.put, List.getElem_toArray, List.getElem_cons_succ, List.getElem_cons_zero, List.setIfInBounds_toArray, List.set_cons_zero, List.set_cons_succ]
  refine wpAnyH_take (i := 23) (oi := _) (v := undef) rfl (by kernel_rfl) (by kernel_rfl) (by kernel_rfl) (fun _ _ _ h => h) (Or.inr ⟨by kernel_rfl, rfl⟩) hHeld ?_
  try simp only [Act.put, List.getElem_toArray, List.getElem_cons_succ, List.getElem_cons_zero, List.setIfInBounds_toArray, List.set_cons_zero, List.set_cons_succ]
  refine wpAnyH_take (i := 24) (oi := _) (v := undef) rfl (by kernel_rfl) (by kernel_rfl) (by kernel_rfl) (fun _ _ _ h => h) (Or.inr ⟨by kernel_rfl, rfl⟩) hHeld ?_
  try simp only [Act.put, List.getElem_toArray, List.getElem_cons_succ, List.getElem_cons_zero, List.setIfInBounds_toArray, List.set_cons_zero, List.set_cons_succ]
  refine wpAnyH_take (i := 25) (oi := _) (v := undef) rfl (by kernel_rfl) (by kernel_rfl) (by kernel_rfl) (fun _ _ _ h => h) (Or.inr ⟨by kernel_rfl, rfl⟩) hHeld ?_
  try simp only [Act.put, List.getElem_toArray, List.getElem_cons_succ, List.getElem_cons_zero, List.setIfInBounds_toArray, List.set_cons_zero, List.set_cons_succ]
  refine wpAnyH_take (i := 26) (oi := _) (v := undef) rfl (by kernel_rfl) (by kernel_rfl) (by kernel_rfl) (fun _ _ _ h => h) (Or.inr ⟨by kernel_rfl, rfl⟩) hHeld ?_
  try simp only [Act.put, List.getElem_toArray, List.getElem_cons_succ, List.getElem_cons_zero, List.setIfInBounds_toArray, List.set_cons_zero, List.set_cons_succ]
  refine wpAnyH_take (i := 27) (oi := _) (v := undef) rfl (by kernel_rfl) (by kernel_rfl) (by kernel_rfl) (fun _ _ _ h => h) (Or.inr ⟨by kernel_rfl, rfl⟩) hHeld ?_
  try simp only [Act.put, List.getElem_toArray, List.getElem_cons_succ, List.getElem_cons_zero, List.setIfInBounds_toArray, List.set_cons_zero, List.set_cons_succ]
  refine wpAnyH_take (i := 28) (oi := _) (v := undef) rfl (by kernel_rfl) (by kernel_rfl) (by kernel_rfl) (fun _ _ _ h => h) (Or.inr ⟨by kernel_rfl, rfl⟩) hHeld ?_
  try simp only [Act.put, List.getElem_toArray, List.getElem_cons_succ, List.getElem_cons_zero, List.setIfInBounds_toArray, List.set_cons_zero, List.set_cons_succ]
  refine wpAnyH_take (i := 29) (oi := _) (v := ?m7v29) rfl (by kernel_rfl) (by kernel_rfl) (by kernel_rfl) (fun _ _ _ h => h) (Or.inl ⟨by kernel_rfl, ?m7h29⟩) hHeld ?m7r29
  case m7h29 => (intro w hSw; (try dsimp only at hSw); go_simp; try with_reducible rfl)
  try simp only [Act.put, List.getElem_toArray, List.getElem_cons_succ, List.getElem_cons_zero, List.setIfInBounds_toArray, List.set_cons_zero, List.set_cons_succ]
  refine wpAnyH_take (i := 30) (oi := _) (v := ?m7v30) rfl (by kernel_rfl) (by kernel_rfl) (by kernel_rfl) (fun _ _ _ h => h) (Or.inl ⟨by kernel_rfl, ?m7h30⟩) hHeld ?m7r30
  case m7h30 => (intro w hSw; (try dsimp only at hSw); go_simp; try with_reducible rfl)
  try simp only [Act.put, List.getElem_toArray, List.getElem_cons_succ, List.getElem_cons_zero, List.setIfInBounds_toArray, List.set_cons_zero, List.set_cons_succ]
  refine wpAnyH_take (i := 31) (oi := _) (v := ?m7v31) rfl (by kernel_rfl) (by kernel_rfl) (by kernel_rfl) (fun _ _ _ h => h) (Or.inl ⟨by kernel_rfl, ?m7h31⟩) hHeld ?m7r31
  case m7h31 => (intro w hSw; (try dsimp only at hSw); go_simp; try with_reducible rfl)
  try simp only [Act.put, List.getElem_toArray, List.getElem_cons_succ, List.getElem_cons_zero, List.setIfInBounds_toArray, List.set_cons_zero, List.set_cons_succ]
  refine wpAnyH_take (i := 32) (oi := _) (v := ?m7v32) rfl (by kernel_rfl) (by kernel_rfl) (by kernel_rfl) (fun _ _ _ h => h) (Or.inl ⟨by kernel_rfl, ?m7h32⟩) hHeld ?m7r32
  case m7h32 => (intro w hSw; (try dsimp only at hSw); go_simp; try with_reducible rfl)
  try simp only [Act.put, List.getElem_toArray, List.getElem_cons_succ, List.getElem_cons_zero, List.setIfInBounds_toArray, List.set_cons_zero, List.set_cons_succ]
  refine wpAnyH_take (i := 33) (oi := _) (v := ?m7v33) rfl (by kernel_rfl) (by kernel_rfl) (by kernel_rfl) (fun _ _ _ h => h) (Or.inl ⟨by kernel_rfl, ?m7h33⟩) hHeld ?m7r33
  case m7h33 => (intro w hSw; (try dsimp only at hSw); go_simp; try with_reducible rfl)
  try simp only [Act.put, List.getElem_toArray, List.getElem_cons_succ, List.getElem_cons_zero, List.setIfInBounds_toArray, List.set_cons_zero, List.set_cons_succ]
  refine wpAnyH_done (by kernel_rfl) ?_ _
  have HK := Lib.hid ((H0.out.1.trans' (H1.out.trans' H12.out.1.keeps)).trans' hKK)
  clear hKK
  go_wp2_with fail
  go_ret
  exact ⟨rfl, HK.out⟩
set_option maxRecDepth 100000 in
set_option maxHeartbeats 8000000 in
theorem stands_e0 {w : World} (off : UInt64) (g : TagV) (po pv : UInt64) (hB : writeB (txLoad ws44 []) off g = true) (hrd : readB (txLoad ws44 (txStore ws44 (writeP ws44 [] off g) po pv)) off = true) (hgg : readT (txLoad ws44 (txStore ws44 (writeP ws44 [] off g) po pv)) off = g) (h1 : po ≠ off) (h2 : po ≠ off + g.size - 8) (h16 : po = 16) (hlow : ¬ pv.toNat < (off + g.size).toNat) : Calls Try.prog 19 #[.int .u64 (off.toNat : Int), .agg g.cells, .agg #[.int .u64 (po.toNat : Int), .int .u64 (pv.toNat : Int)]] w fun e w' => e = .returned (.bool true) ∧ Keeps Nil w w' := by
  obtain ⟨gs, gu, go⟩ := g
  obtain ⟨bs, bu, bo, hbb⟩ : ∃ bs bu bo, readT (txLoad ws44 (txStore ws44 (writeP ws44 [] off ⟨gs, gu, go⟩) po pv)) off = ⟨bs, bu, bo⟩ := ⟨_, _, _, rfl⟩
  have HRD := Lib.hid (And.intro hrd hbb)
  rw [hgg] at hbb
  obtain ⟨rfl, rfl, rfl⟩ := TagV.mk.inj hbb
  have qb := tag_neq_self gs gu go
  obtain ⟨was, hwas⟩ : ∃ was, was = txLoad ws44 (writeP ws44 [] off ⟨gs, gu, go⟩) po := ⟨_, rfl⟩
  obtain ⟨y1, hy1⟩ : ∃ y, y = off + gs := ⟨_, rfl⟩
  obtain ⟨y2, hy2⟩ : ∃ y, y = off + gs - 8 := ⟨_, rfl⟩
  have q1 := add_eq off gs
  have q2 := sub8_eq (off + gs)
  rw [← hy1] at q1 q2
  rw [← hy1] at hy2
  rw [← hy2] at q2
  have t1 := (unlike_u64 h1).2
  have t2 : ((po.toNat : Int) == (y2.toNat : Int)) = false := (unlike_u64 (by rw [hy2, hy1]; exact h2)).2
  have t4 : ((po.toNat : Int) == 16) = true := (same_u64 (b := 16) h16).2
  have t5 : decide (pv.toNat < y1.toNat) = false := by rw [hy1]; exact decide_eq_false hlow
  have HEND := Lib.hid (show txLoad ws44 (txStore ws44 (writeP ws44 [] off ⟨gs, gu, go⟩) po pv) 16 = pv by rw [h16]; exact (stands_end hB pv).1)
  have HB := Lib.hid hB
  have HWAS := Lib.hid hwas
  clear hB hrd hwas hy1 hy2 h1 h2 hgg hbb h16 hlow
  rw [TagV.cells_def]
  have hgd := tag_gd
  obtain ⟨n, hn⟩ : ∃ n, n = w.heap.size := ⟨_, rfl⟩
  obtain ⟨w0, hw0⟩ : ∃ w0, w0 = (w.alloc (.cells #[.int .u64 (gs.toNat : Int), .bool gu, .int .i64 go] 69)).alloc (.cells #[.int .u64 (po.toNat : Int), .int .u64 (pv.toNat : Int)] 38) := ⟨_, rfl⟩
  have k0 : Keeps Nil w w0 := by rw [hw0]; exact ((Keeps.refl Nil _).alloc _).alloc _
  have b0 : w0.heap[n]? = some (.cells #[.int .u64 (gs.toNat : Int), .bool gu, .int .i64 go] 69 (0, 0)) := by rw [hw0, hn]; exact heap_old _ _ (heap_new _ _)
  have b1 : w0.heap[n + 1]? = some (.cells #[.int .u64 (po.toNat : Int), .int .u64 (pv.toNat : Int)] 38 (0, 0)) := by
    rw [hw0, hn]
    have := heap_new (w.alloc (.cells #[.int .u64 (gs.toNat : Int), .bool gu, .int .i64 go] 69)) (.cells #[.int .u64 (po.toNat : Int), .int .u64 (pv.toNat : Int)] 38)
    simpa using this
  have H0 := Lib.hid (And.intro k0 (And.intro b0 b1))
  have HW0 := Lib.hid hw0
  have HN := Lib.hid hn
  clear hn hw0 k0 b0 b1
  go_enter Try.func19, Try.ntmps19
  go_wp2_with fail
  rw [← HW0.out, ← HN.out]
  refine (awake5 _).mono ?_
  rintro e w1 ⟨rfl, k1⟩
  have H1 := Lib.hid k1
  clear k1
  go_wp2_with fail
  refine (formed05' (l := []) 4480 Look.nil _ (by rfl)).mono ?_
  rintro e w2 ⟨sg, t, ab, ao, ac, a2, n2, cc2, rfl, L⟩
  have L2 : Live w1 w2 sg t [] ws44 Top := L.reads (fun _ _ _ => trivial)
  obtain ⟨w3, hw3⟩ : ∃ w3, w3 = w2.alloc (.cells #[.slice (some ⟨ab, ao, none⟩) 600 ac, .slice a2 n2 cc2] 28) := ⟨_, rfl⟩
  have L3 := L2.quiet (w' := w3) Stable.top (by rw [hw3]; exact (Keeps.refl Nil _).alloc _)
  have C0 := cells_at H0.out.2.1 (H1.out.trans' L2.keeps)
  have D0 := cells_at H0.out.2.1 (H1.out.trans' L3.keeps)
  have hlt : n + 1 < w2.heap.size := getElem?_lt ((H1.out.trans' L2.keeps).at H0.out.2.2 (fun e => e))
  have hlt0 : n < w2.heap.size := getElem?_lt ((H1.out.trans' L2.keeps).at H0.out.2.1 (fun e => e))
  have H3 := Lib.hid L3
  have HW3 := Lib.hid hw3
  have c00 := C0.1
  have c01 := C0.2.1
  have c02 := C0.2.2
  have d00 := D0.1
  have d01 := D0.2.1
  have d02 := D0.2.2
  clear L L2 L3 C0 D0 hw3
  go_wp2_with fail
  rw [← HW3.out]
  refine (made5 _ ⟨gs, gu, go⟩).mono ?_
  rintro e w4 ⟨rfl, k4⟩
  rw [TagV.cells_def]
  have H4 := Lib.hid (H3.out.quiet Stable.top k4)
  clear k4 c00 c01 c02 d00 d01 d02 hlt hlt0
  go_wp2_with fail
  refine (H4.out.tagWrite Stable.top off ⟨gs, gu, go⟩ (by decide) _ rfl).mono ?_
  rintro e w5 ⟨rfl, L5⟩
  rw [HB.out]
  rw [codeOf_true]
  obtain ⟨l1, hl1⟩ : ∃ l1, l1 = writeP ws44 [] off ⟨gs, gu, go⟩ := ⟨_, rfl⟩
  rw [← hl1] at L5
  have hlen : l1.length ≤ 2 := by rw [hl1]; exact writeP_length _ _ _ _
  have HL1 := Lib.hid hl1
  have HLEN := Lib.hid hlen
  have H5 := Lib.hid L5
  clear L5 hl1 hlen
  go_wp2_with fail
  refine (Read_any H5.out.tells off _ rfl).mono ?_
  rintro e w6 ⟨rfl, k6⟩
  rw [HL1.out, (stands_read HB.out).1, (stands_read HB.out).2, codeOf_true, TagV.cells_def]
  obtain ⟨w7, hw7⟩ : ∃ w7, w7 = w6.alloc (.cells #[.int .u64 (gs.toNat : Int), .bool gu, .int .i64 go] 70) := ⟨_, rfl⟩
  have k67 : Keeps Nil w6 w7 := by rw [hw7]; exact (Keeps.refl Nil _).alloc _
  have b7 : w7.drew.heap[w6.heap.size]? = some (.cells #[.int .u64 (gs.toNat : Int), .bool gu, .int .i64 go] 70 (0, 0)) := by rw [hw7]; exact heap_new _ _
  have L7 := ((H5.out.quiet Stable.top k6).quiet Stable.top k67).quiet Stable.top (keeps_drew _)
  have H7 := Lib.hid (And.intro L7 b7)
  have HW7 := Lib.hid hw7
  have qn := tag_neq_self gs gu go
  have hKK : Keeps Nil w7.drew w7.drew := Keeps.refl _ _
  clear k6 k67 hw7 b7 L7
  go_wp2_with fail
  rw [← HW7.out]
  go_region_held3 (fun w' => (w'.cell? ⟨w6.heap.size, 0, none⟩ = some (.int .u64 (gs.toNat : Int)) ∧ w'.cell? ⟨w6.heap.size, 1, none⟩ = some (.bool gu) ∧ w'.cell? ⟨w6.heap.size, 2, none⟩ = some (.int .i64 go)) ∧
      (w'.cell? ⟨n, 0, none⟩ = some (.int .u64 (gs.toNat : Int)) ∧ w'.cell? ⟨n, 1, none⟩ = some (.bool gu) ∧ w'.cell? ⟨n, 2, none⟩ = some (.int .i64 go)))
    (exact ⟨cells_at H7.out.2 hKK, cells_at H0.out.2.1 ((H1.out.trans' H7.out.1.keeps).trans' hKK)⟩)
    (first
      | (go_at_call 64; refine (made5 _ ⟨_, _, _⟩).mono ?_; rintro e w' ⟨rfl, kn⟩; rw [TagV.cells_def]; have hKK := hKK.trans' kn))
  have H8 := Lib.hid (H7.out.1.quiet Stable.top hKK)
  have P0 := put_at H0.out.2.2 (H1.out.trans' H8.out.keeps)
  have p0 := P0.1
  have p1 := P0.2
  clear hKK P0 qn
  go_wp2_with fail
  refine (H8.out.tells.load _ (Keeps.refl _ _) po _ rfl).mono ?_
  rintro e w9 ⟨rfl, k9⟩
  rw [HL1.out, ← HWAS.out]
  have H9 := Lib.hid (H8.out.quiet Stable.top k9)
  clear k9 p0 p1
  have P0 := put_at H0.out.2.2 (H1.out.trans' H9.out.keeps)
  have p0 := P0.1
  have p1 := P0.2
  clear P0
  go_wp2_with fail
  refine (H9.out.store Stable.top po pv (by have := HLEN.out; omega) _ _ rfl rfl).mono ?_
  rintro e w10 ⟨rfl, L10⟩
  have H10 := Lib.hid L10
  clear L10 p0 p1
  go_wp2_with fail
  refine (Read_any H10.out.tells off _ rfl).mono ?_
  rintro e w11 ⟨rfl, k11⟩
  rw [HL1.out, HRD.out.1, HRD.out.2, TagV.cells_def, codeOf_true]
  obtain ⟨w12, hw12⟩ : ∃ w12, w12 = w11.alloc (.cells #[.int .u64 (gs.toNat : Int), .bool gu, .int .i64 go] 70) := ⟨_, rfl⟩
  have k12 : Keeps Nil w11 w12 := by rw [hw12]; exact (Keeps.refl Nil _).alloc _
  have b12 : w12.drew.heap[w11.heap.size]? = some (.cells #[.int .u64 (gs.toNat : Int), .bool gu, .int .i64 go] 70 (0, 0)) := by rw [hw12]; exact heap_new _ _
  have L12 := (H10.out.quiet Stable.top k11).quiet Stable.top k12
  have P0 := put_at H0.out.2.2 (H1.out.trans' L12.keeps)
  have P1 := put_at H0.out.2.2 (H1.out.trans' (H10.out.quiet Stable.top k11).keeps)
  have G0 := cells_at H0.out.2.1 (H1.out.trans' L12.keeps)
  have G1 := cells_at H0.out.2.1 (H1.out.trans' (H10.out.quiet Stable.top k11).keeps)
  have hlt : n + 1 < w11.heap.size := getElem?_lt ((H1.out.trans' (H10.out.quiet Stable.top k11).keeps).at H0.out.2.2 (fun e => e))
  have hlt0 : n < w11.heap.size := by omega
  have p0 := P0.1
  have p1 := P0.2
  have r0 := P1.1
  have r1 := P1.2
  have g00 := G0.1
  have g10 := G1.1
  have H12 := Lib.hid (And.intro (L12.quiet Stable.top (keeps_drew _)) b12)
  have HW12 := Lib.hid hw12
  have hKK : Keeps Nil w12.drew w12.drew := Keeps.refl _ _
  clear k11 hw12 k12 b12 L12 P0 P1 G0 G1
  go_wp2_with fail
  rw [← HW12.out]
  clear p0 p1 r0 r1 g00 g10 hlt hlt0
  refine wp_region_held_drew (S := fun w' => (w'.cell? ⟨w11.heap.size, 0, none⟩ = some (.int .u64 (gs.toNat : Int)) ∧ w'.cell? ⟨w11.heap.size, 1, none⟩ = some (.bool gu) ∧ w'.cell? ⟨w11.heap.size, 2, none⟩ = some (.int .i64 go)) ∧ (w'.cell? ⟨n, 0, none⟩ = some (.int .u64 (gs.toNat : Int)) ∧ w'.cell? ⟨n, 1, none⟩ = some (.bool gu) ∧ w'.cell? ⟨n, 2, none⟩ = some (.int .i64 go)) ∧ (w'.cell? ⟨n + 1, 0, none⟩ = some (.int .u64 (po.toNat : Int)) ∧ w'.cell? ⟨n + 1, 1, none⟩ = some (.int .u64 (pv.toNat : Int)))) (by kernel_rfl) ⟨cells_at H12.out.2 hKK, cells_at H0.out.2.1 ((H1.out.trans' H12.out.1.keeps).trans' hKK), put_at H0.out.2.2 ((H1.out.trans' H12.out.1.keeps).trans' hKK)⟩ (fun hHeld => ?_)
  refine wpAnyH_take (i := 0) (oi := _) (v := ?m8v0) rfl (by kernel_rfl) (by kernel_rfl) (by kernel_rfl) (fun _ _ _ h => h) (Or.inl ⟨by kernel_rfl, ?m8h0⟩) hHeld ?m8r0
  case m8h0 => (intro w hSw; (try dsimp only at hSw); go_simp; try with_reducible rfl)
  try simp only [Act.put, List.getElem_toArray, List.getElem_cons_succ, List.getElem_cons_zero, List.setIfInBounds_toArray, List.set_cons_zero, List.set_cons_succ]
  refine wpAnyH_take (i := 1) (oi := _) (v := ?m8v1) rfl (by kernel_rfl) (by kernel_rfl) (by kernel_rfl) (fun _ _ _ h => h) (Or.inl ⟨by kernel_rfl, ?m8h1⟩) hHeld ?m8r1
  case m8h1 => (intro w hSw; (try dsimp only at hSw); go_simp; try with_reducible rfl)
  try simp only [Act.put, List.getElem_toArray, List.getElem_cons_succ, List.getElem_cons_zero, List.setIfInBounds_toArray, List.set_cons_zero, List.set_cons_succ]
  refine wpAnyH_take (i := 2) (oi := _) (v := ?m8v2) rfl (by kernel_rfl) (by kernel_rfl) (by kernel_rfl) (fun _ _ _ h => h) (Or.inl ⟨by kernel_rfl, ?m8h2⟩) hHeld ?m8r2
  case m8h2 => (intro w hSw; (try dsimp only at hSw); go_simp; try with_reducible rfl)
  try simp only [Act.put, List.getElem_toArray, List.getElem_cons_succ, List.getElem_cons_zero, List.setIfInBounds_toArray, List.set_cons_zero, List.set_cons_succ]
  refine wpAnyH_take (i := 3) (oi := _) (v := ?m8v3) rfl (by kernel_rfl) (by kernel_rfl) (by kernel_rfl) (fun _ _ _ h => h) (Or.inl ⟨by kernel_rfl, ?m8h3⟩) hHeld ?m8r3
  case m8h3 => (intro w hSw; (try dsimp only at hSw); go_simp; try with_reducible rfl)
  try simp only [Act.put, List.getElem_toArray, List.getElem_cons_succ, List.getElem_cons_zero, List.setIfInBounds_toArray, List.set_cons_zero, List.set_cons_succ]
  refine wpAnyH_take (i := 4) (oi := _) (v := ?m8v4) rfl (by kernel_rfl) (by kernel_rfl) (by kernel_rfl) (fun _ _ _ h => h) (Or.inl ⟨by kernel_rfl, ?m8h4⟩) hHeld ?m8r4
  case m8h4 => (intro w hSw; (try dsimp only at hSw); go_simp; try with_reducible rfl)
  try simp only [Act.put, List.getElem_toArray, List.getElem_cons_succ, List.getElem_cons_zero, List.setIfInBounds_toArray, List.set_cons_zero, List.set_cons_succ]
  refine wpAnyH_take (i := 5) (oi := _) (v := ?m8v5) rfl (by kernel_rfl) (by kernel_rfl) (by kernel_rfl) (fun _ _ _ h => h) (Or.inl ⟨by kernel_rfl, ?m8h5⟩) hHeld ?m8r5
  case m8h5 => (intro w hSw; (try dsimp only at hSw); go_simp; try with_reducible rfl)
  try simp only [Act.put, List.getElem_toArray, List.getElem_cons_succ, List.getElem_cons_zero, List.setIfInBounds_toArray, List.set_cons_zero, List.set_cons_succ]
  refine wpAnyH_take (i := 6) (oi := _) (v := ?m8v6) rfl (by kernel_rfl) (by kernel_rfl) (by kernel_rfl) (fun _ _ _ h => h) (Or.inl ⟨by kernel_rfl, ?m8h6⟩) hHeld ?m8r6
  case m8h6 => (intro w hSw; (try dsimp only at hSw); go_simp; try with_reducible rfl)
  try simp only [Act.put, List.getElem_toArray, List.getElem_cons_succ, List.getElem_cons_zero, List.setIfInBounds_toArray, List.set_cons_zero, List.set_cons_succ]
  refine wpAnyH_take (i := 10) (oi := _) (v := ?m8v10) rfl (by kernel_rfl) (by kernel_rfl) (by kernel_rfl) (fun _ _ _ h => h) (Or.inl ⟨by kernel_rfl, ?m8h10⟩) hHeld ?m8r10
  case m8h10 => (intro w hSw; (try dsimp only at hSw); go_simp; try with_reducible rfl)
  try simp only [Act.put, List.getElem_toArray, List.getElem_cons_succ, List.getElem_cons_zero, List.setIfInBounds_toArray, List.set_cons_zero, List.set_cons_succ]
  refine wpAnyH_ready (rs := [7]) (by kernel_rfl) (by simp) ?_
  refine AllReadyH.cons (o := _) rfl (fun K hK => ?_) AllReadyH.nil
  go_simp
  refine (made5 _ ⟨gs, gu, go⟩).mono ?_; rintro e w' ⟨rfl, kn⟩; rw [TagV.cells_def]; have hKK := hKK.trans' kn
  refine hK.out _ _ (⟨cells_at H12.out.2 hKK, cells_at H0.out.2.1 ((H1.out.trans' H12.out.1.keeps).trans' hKK), put_at H0.out.2.2 ((H1.out.trans' H12.out.1.keeps).trans' hKK)⟩) (fun hHeld => ?_)
  clear hK K
  try simp only [Act.put, List.getElem_toArray, List.getElem_cons_succ, List.getElem_cons_zero, List.setIfInBounds_toArray, List.set_cons_zero, List.set_cons_succ]
  refine wpAnyH_take (i := 8) (oi := _) (v := ?m8v8) rfl (by kernel_rfl) (by kernel_rfl) (by kernel_rfl) (fun _ _ _ h => h) (Or.inl ⟨by kernel_rfl, ?m8h8⟩) hHeld ?m8r8
  case m8h8 => (intro w hSw; (try dsimp only at hSw); go_simp; try with_reducible rfl)
  try simp only [Act.put, List.getElem_toArray, List.getElem_cons_succ, List.getElem_cons_zero, List.setIfInBounds_toArray, List.set_cons_zero, List.set_cons_succ]
  refine wpAnyH_take (i := 9) (oi := _) (v := ?m8v9) rfl (by kernel_rfl) (by kernel_rfl) (by kernel_rfl) (fun _ _ _ h => h) (Or.inl ⟨by kernel_rfl, ?m8h9⟩) hHeld ?m8r9
  case m8h9 => (intro w hSw; (try dsimp only at hSw); go_simp; try with_reducible rfl)
  try simp only [Act.put, List.getElem_toArray, List.getElem_cons_succ, List.getElem_cons_zero, List.setIfInBounds_toArray, List.set_cons_zero, List.set_cons_succ]
  refine wpAnyH_take (i := 11) (oi := _) (v := ?m8v11) rfl (by kernel_rfl) (by kernel_rfl) (by kernel_rfl) (fun _ _ _ h => h) (Or.inl ⟨by kernel_rfl, ?m8h11⟩) hHeld ?m8r11
  case m8h11 => (intro w hSw; (try dsimp only at hSw); go_simp; try with_reducible rfl)
  try simp only [Act.put, List.getElem_toArray, List.getElem_cons_succ, List.getElem_cons_zero, List.setIfInBounds_toArray, List.set_cons_zero, List.set_cons_succ]
  refine wpAnyH_take (i := 12) (oi := _) (v := undef) rfl (by kernel_rfl) (by kernel_rfl) (by kernel_rfl) (fun _ _ _ h => h) (Or.inr ⟨by kernel_rfl, rfl⟩) hHeld ?_
  try simp only [Act.put, List.getElem_toArray, List.getElem_cons_succ, List.getElem_cons_zero, List.setIfInBounds_toArray, List.set_cons_zero, List.set_cons_succ]
  refine wpAnyH_take (i := 13) (oi := _) (v := undef) rfl (by kernel_rfl) (by kernel_rfl) (by kernel_rfl) (fun _ _ _ h => h) (Or.inr ⟨by kernel_rfl, rfl⟩) hHeld ?_
  try simp only [Act.put, List.getElem_toArray, List.getElem_cons_succ, List.getElem_cons_zero, List.setIfInBounds_toArray, List.set_cons_zero, List.set_cons_succ]
  refine wpAnyH_take (i := 14) (oi := _) (v := undef) rfl (by kernel_rfl) (by kernel_rfl) (by kernel_rfl) (fun _ _ _ h => h) (Or.inr ⟨by kernel_rfl, rfl⟩) hHeld ?_
  try simp only [Act.put, List.getElem_toArray, List.getElem_cons_succ, List.getElem_cons_zero, List.setIfInBounds_toArray, List.set_cons_zero, List.set_cons_succ]
  refine wpAnyH_take (i := 15) (oi := _) (v := undef) rfl (by kernel_rfl) (by kernel_rfl) (by kernel_rfl) (fun _ _ _ h => h) (Or.inr ⟨by kernel_rfl, rfl⟩) hHeld ?_
  try simp only [Act.put, List.getElem_toArray, List.getElem_cons_succ, List.getElem_cons_zero, List.setIfInBounds_toArray, List.set_cons_zero, List.set_cons_succ]
  refine wpAnyH_take (i := 16) (oi := _) (v := ?m8v16) rfl (by kernel_rfl) (by kernel_rfl) (by kernel_rfl) (fun _ _ _ h => h) (Or.inl ⟨by kernel_rfl, ?m8h16⟩) hHeld ?m8r16
  case m8h16 => (intro w hSw; (try dsimp only at hSw); go_simp; try with_reducible rfl)
  try simp only [Act.put, List.getElem_toArray, List.getElem_cons_succ, List.getElem_cons_zero, List.setIfInBounds_toArray, List.set_cons_zero, List.set_cons_succ]
  refine wpAnyH_take (i := 17) (oi := _) (v := ?m8v17) rfl (by kernel_rfl) (by kernel_rfl) (by kernel_rfl) (fun _ _ _ h => h) (Or.inl ⟨by kernel_rfl, ?m8h17⟩) hHeld ?m8r17
  case m8h17 => (intro w hSw; (try dsimp only at hSw); go_simp; try with_reducible rfl)
  try simp only [Act.put, List.getElem_toArray, List.getElem_cons_succ, List.getElem_cons_zero, List.setIfInBounds_toArray, List.set_cons_zero, List.set_cons_succ]
  refine wpAnyH_take (i := 18) (oi := _) (v := ?m8v18) rfl (by kernel_rfl) (by kernel_rfl) (by kernel_rfl) (fun _ _ _ h => h) (Or.inl ⟨by kernel_rfl, ?m8h18⟩) hHeld ?m8r18
  case m8h18 => (intro w hSw; (try dsimp only at hSw); go_simp; try with_reducible rfl)
  try simp only [Act.put, List.getElem_toArray, List.getElem_cons_succ, List.getElem_cons_zero, List.setIfInBounds_toArray, List.set_cons_zero, List.set_cons_succ]
  refine wpAnyH_take (i := 19) (oi := _) (v := ?m8v19) rfl (by kernel_rfl) (by kernel_rfl) (by kernel_rfl) (fun _ _ _ h => h) (Or.inl ⟨by kernel_rfl, ?m8h19⟩) hHeld ?m8r19
  case m8h19 => (intro w hSw; (try dsimp only at hSw); go_simp; try with_reducible rfl)
  try simp only [Act.put, List.getElem_toArray, List.getElem_cons_succ, List.getElem_cons_zero, List.setIfInBounds_toArray, List.set_cons_zero, List.set_cons_succ]
  refine wpAnyH_take (i := 20) (oi := _) (v := ?m8v20) rfl (by kernel_rfl) (by kernel_rfl) (by kernel_rfl) (fun _ _ _ h => h) (Or.inl ⟨by kernel_rfl, ?m8h20⟩) hHeld ?m8r20
  case m8h20 => (intro w hSw; (try dsimp only at hSw); go_simp; try with_reducible rfl)
  try simp only [Act.put, List.getElem_toArray, List.getElem_cons_succ, List.getElem_cons_zero, List.setIfInBounds_toArray, List.set_cons_zero, List.set_cons_succ]
  refine wpAnyH_take (i := 21) (oi := _) (v := ?m8v21) rfl (by kernel_rfl) (by kernel_rfl) (by kernel_rfl) (fun _ _ _ h => h) (Or.inl ⟨by kernel_rfl, ?m8h21⟩) hHeld ?m8r21
  case m8h21 => (intro w hSw; (try dsimp only at hSw); go_simp; try with_reducible rfl)
  try simp only [Act.put, List.getElem_toArray, List.getElem_cons_succ, List.getElem_cons_zero, List.setIfInBounds_toArray, List.set_cons_zero, List.set_cons_succ]
  refine wpAnyH_take (i := 22) (oi := _) (v := ?m8v22) rfl (by kernel_rfl) (by kernel_rfl) (by kernel_rfl) (fun _ _ _ h => h) (Or.inl ⟨by kernel_rfl, ?m8h22⟩) hHeld ?m8r22
  case m8h22 => (intro w hSw; (try dsimp only at hSw); go_simp; try with_reducible rfl)
  try simp only [Act.put, List.getElem_toArray, List.getElem_cons_succ, List.getElem_cons_zero, List.setIfInBounds_toArray, List.set_cons_zero, List.set_cons_succ]
  refine wpAnyH_take (i := 24) (oi := _) (v := ?m8v24) rfl (by kernel_rfl) (by kernel_rfl) (by kernel_rfl) (fun _ _ _ h => h) (Or.inl ⟨by kernel_rfl, ?m8h24⟩) hHeld ?m8r24
  case m8h24 => (intro w hSw; (try dsimp only at hSw); go_simp; try with_reducible rfl)
  try simp only [Act.put, List.getElem_toArray, List.getElem_cons_succ, List.getElem_cons_zero, List.setIfInBounds_toArray, List.set_cons_zero, List.set_cons_succ]
  refine wpAnyH_take (i := 25) (oi := _) (v := ?m8v25) rfl (by kernel_rfl) (by kernel_rfl) (by kernel_rfl) (fun _ _ _ h => h) (Or.inl ⟨by kernel_rfl, ?m8h25⟩) hHeld ?m8r25
  case m8h25 => (intro w hSw; (try dsimp only at hSw); go_simp; try with_reducible rfl)
  try simp only [Act.put, List.getElem_toArray, List.getElem_cons_succ, List.getElem_cons_zero, List.setIfInBounds_toArray, List.set_cons_zero, List.set_cons_succ]
  refine wpAnyH_take (i := 26) (oi := _) (v := ?m8v26) rfl (by kernel_rfl) (by kernel_rfl) (by kernel_rfl) (fun _ _ _ h => h) (Or.inl ⟨by kernel_rfl, ?m8h26⟩) hHeld ?m8r26
  case m8h26 => (intro w hSw; (try dsimp only at hSw); go_simp; try with_reducible rfl)
  try simp only [Act.put, List.getElem_toArray, List.getElem_cons_succ, List.getElem_cons_zero, List.setIfInBounds_toArray, List.set_cons_zero, List.set_cons_succ]
  refine wpAnyH_take (i := 27) (oi := _) (v := ?m8v27) rfl (by kernel_rfl) (by kernel_rfl) (by kernel_rfl) (fun _ _ _ h => h) (Or.inl ⟨by kernel_rfl, ?m8h27⟩) hHeld ?m8r27
  case m8h27 => (intro w hSw; (try dsimp only at hSw); go_simp; try with_reducible rfl)
  try simp only [Act.put, List.getElem_toArray, List.getElem_cons_succ, List.getElem_cons_zero, List.setIfInBounds_toArray, List.set_cons_zero, List.set_cons_succ]
  refine wpAnyH_ready (rs := [23]) (by kernel_rfl) (by simp) ?_
  refine AllReadyH.cons (o := _) rfl (fun K hK => ?_) AllReadyH.nil
  go_simp
  refine ((H12.out.1.quiet Stable.top hKK).tells.load _ (Keeps.refl _ _) 16 _ (by rfl)).mono ?_; rintro e w' ⟨rfl, kn⟩; rw [HL1.out, HEND.out]; have hKK := hKK.trans' kn
  refine hK.out _ _ (⟨cells_at H12.out.2 hKK, cells_at H0.out.2.1 ((H1.out.trans' H12.out.1.keeps).trans' hKK), put_at H0.out.2.2 ((H1.out.trans' H12.out.1.keeps).trans' hKK)⟩) (fun hHeld => ?_)
  clear hK K
  try simp only [Act.put, List.getElem_toArray, List.getElem_cons_succ, List.getElem_cons_zero, List.setIfInBounds_toArray, List.set_cons_zero, List.set_cons_succ]
  refine wpAnyH_take (i := 28) (oi := _) (v := ?m8v28) rfl (by kernel_rfl) (by kernel_rfl) (by kernel_rfl) (fun _ _ _ h => h) (Or.inl ⟨by kernel_rfl, ?m8h28⟩) hHeld ?m8r28
  case m8h28 => (intro w hSw; (try dsimp only at hSw); go_simp; try with_reducible rfl)
  try simp only [Act.put, List.getElem_toArray, List.getElem_cons_succ, List.getElem_cons_zero, List.setIfInBounds_toArray, List.set_cons_zero, List.set_cons_succ]
  refine wpAnyH_take (i := 29) (oi := _) (v := ?m8v29) rfl (by kernel_rfl) (by kernel_rfl) (by kernel_rfl) (fun _ _ _ h => h) (Or.inl ⟨by kernel_rfl, ?m8h29⟩) hHeld ?m8r29
  case m8h29 => (intro w hSw; (try dsimp only at hSw); go_simp; try with_reducible rfl)
  try simp only [Act.put, List.getElem_toArray, List.getElem_cons_succ, List.getElem_cons_zero, List.setIfInBounds_toArray, List.set_cons_zero, List.set_cons_succ]
  refine wpAnyH_take (i := 30) (oi := _) (v := ?m8v30) rfl (by kernel_rfl) (by kernel_rfl) (by kernel_rfl) (fun _ _ _ h => h) (Or.inl ⟨by kernel_rfl, ?m8h30⟩) hHeld ?m8r30
  case m8h30 => (intro w hSw; (try dsimp only at hSw); go_simp; try with_reducible rfl)
  try simp only [Act.put, List.getElem_toArray, List.getElem_cons_succ, List.getElem_cons_zero, List.setIfInBounds_toArray, List.set_cons_zero, List.set_cons_succ]
  refine wpAnyH_take (i := 31) (oi := _) (v := ?m8v31) rfl (by kernel_rfl) (by kernel_rfl) (by kernel_rfl) (fun _ _ _ h => h) (Or.inl ⟨by kernel_rfl, ?m8h31⟩) hHeld ?m8r31
  case m8h31 => (intro w hSw; (try dsimp only at hSw); go_simp; try with_reducible rfl)
  try simp only [Act.put, List.getElem_toArray, List.getElem_cons_succ, List.getElem_cons_zero, List.setIfInBounds_toArray, List.set_cons_zero, List.set_cons_succ]
  refine wpAnyH_take (i := 32) (oi := _) (v := ?m8v32) rfl (by kernel_rfl) (by kernel_rfl) (by kernel_rfl) (fun _ _ _ h => h) (Or.inl ⟨by kernel_rfl, ?m8h32⟩) hHeld ?m8r32
  case m8h32 => (intro w hSw; (try dsimp only at hSw); go_simp; try with_reducible rfl)
  try simp only [Act.put, List.getElem_toArray, List.getElem_cons_succ, List.getElem_cons_zero, List.setIfInBounds_toArray, List.set_cons_zero, List.set_cons_succ]
  refine wpAnyH_take (i := 33) (oi := _) (v := ?m8v33) rfl (by kernel_rfl) (by kernel_rfl) (by kernel_rfl) (fun _ _ _ h => h) (Or.inl ⟨by kernel_rfl, ?m8h33⟩) hHeld ?m8r33
  case m8h33 => (intro w hSw; (try dsimp only at hSw); go_simp; try with_reducible rfl)
  try simp only [Act.put, List.getElem_toArray, List.getElem_cons_succ, List.getElem_cons_zero, List.setIfInBounds_toArray, List.set_cons_zero, List.set_cons_succ]
  refine wpAnyH_done (by kernel_rfl) ?_ _
  have HK := Lib.hid ((H0.out.1.trans' (H1.out.trans' H12.out.1.keeps)).trans' hKK)
  clear hKK
  go_wp2_with fail
  go_ret
  exact ⟨rfl, HK.out⟩
set_option maxRecDepth 100000 in
set_option maxHeartbeats 8000000 in
theorem stands_f0 {w : World} (off : UInt64) (g : TagV) (po pv : UInt64) (hB : writeB (txLoad ws44 []) off g = true) (hrd : readB (txLoad ws44 (txStore ws44 (writeP ws44 [] off g) po pv)) off = false) (h1 : po ≠ off) (h2 : po ≠ off + g.size - 8) (h16 : po = 16) (hlow : pv.toNat < (off + g.size).toNat) : Calls Try.prog 19 #[.int .u64 (off.toNat : Int), .agg g.cells, .agg #[.int .u64 (po.toNat : Int), .int .u64 (pv.toNat : Int)]] w fun e w' => e = .returned (.bool true) ∧ Keeps Nil w w' := by
  obtain ⟨gs, gu, go⟩ := g
  obtain ⟨bs, bu, bo, hbb⟩ : ∃ bs bu bo, readT (txLoad ws44 (txStore ws44 (writeP ws44 [] off ⟨gs, gu, go⟩) po pv)) off = ⟨bs, bu, bo⟩ := ⟨_, _, _, rfl⟩
  have HRD := Lib.hid (And.intro hrd hbb)
  obtain ⟨was, hwas⟩ : ∃ was, was = txLoad ws44 (writeP ws44 [] off ⟨gs, gu, go⟩) po := ⟨_, rfl⟩
  obtain ⟨y1, hy1⟩ : ∃ y, y = off + gs := ⟨_, rfl⟩
  obtain ⟨y2, hy2⟩ : ∃ y, y = off + gs - 8 := ⟨_, rfl⟩
  have q1 := add_eq off gs
  have q2 := sub8_eq (off + gs)
  rw [← hy1] at q1 q2
  rw [← hy1] at hy2
  rw [← hy2] at q2
  have t1 := (unlike_u64 h1).2
  have t2 : ((po.toNat : Int) == (y2.toNat : Int)) = false := (unlike_u64 (by rw [hy2, hy1]; exact h2)).2
  have t4 : ((po.toNat : Int) == 16) = true := (same_u64 (b := 16) h16).2
  have t5 : decide (pv.toNat < y1.toNat) = true := by rw [hy1]; exact decide_eq_true hlow
  have HEND := Lib.hid (show txLoad ws44 (txStore ws44 (writeP ws44 [] off ⟨gs, gu, go⟩) po pv) 16 = pv by rw [h16]; exact (stands_end hB pv).1)
  have HB := Lib.hid hB
  have HWAS := Lib.hid hwas
  clear hB hrd hwas hy1 hy2 h1 h2 hbb h16 hlow
  rw [TagV.cells_def]
  have hgd := tag_gd
  obtain ⟨n, hn⟩ : ∃ n, n = w.heap.size := ⟨_, rfl⟩
  obtain ⟨w0, hw0⟩ : ∃ w0, w0 = (w.alloc (.cells #[.int .u64 (gs.toNat : Int), .bool gu, .int .i64 go] 69)).alloc (.cells #[.int .u64 (po.toNat : Int), .int .u64 (pv.toNat : Int)] 38) := ⟨_, rfl⟩
  have k0 : Keeps Nil w w0 := by rw [hw0]; exact ((Keeps.refl Nil _).alloc _).alloc _
  have b0 : w0.heap[n]? = some (.cells #[.int .u64 (gs.toNat : Int), .bool gu, .int .i64 go] 69 (0, 0)) := by rw [hw0, hn]; exact heap_old _ _ (heap_new _ _)
  have b1 : w0.heap[n + 1]? = some (.cells #[.int .u64 (po.toNat : Int), .int .u64 (pv.toNat : Int)] 38 (0, 0)) := by
    rw [hw0, hn]
    have := heap_new (w.alloc (.cells #[.int .u64 (gs.toNat : Int), .bool gu, .int .i64 go] 69)) (.cells #[.int .u64 (po.toNat : Int), .int .u64 (pv.toNat : Int)] 38)
    simpa using this
  have H0 := Lib.hid (And.intro k0 (And.intro b0 b1))
  have HW0 := Lib.hid hw0
  have HN := Lib.hid hn
  clear hn hw0 k0 b0 b1
  go_enter Try.func19, Try.ntmps19
  go_wp2_with fail
  rw [← HW0.out, ← HN.out]
  refine (awake5 _).mono ?_
  rintro e w1 ⟨rfl, k1⟩
  have H1 := Lib.hid k1
  clear k1
  go_wp2_with fail
  refine (formed05' (l := []) 4480 Look.nil _ (by rfl)).mono ?_
  rintro e w2 ⟨sg, t, ab, ao, ac, a2, n2, cc2, rfl, L⟩
  have L2 : Live w1 w2 sg t [] ws44 Top := L.reads (fun _ _ _ => trivial)
  obtain ⟨w3, hw3⟩ : ∃ w3, w3 = w2.alloc (.cells #[.slice (some ⟨ab, ao, none⟩) 600 ac, .slice a2 n2 cc2] 28) := ⟨_, rfl⟩
  have L3 := L2.quiet (w' := w3) Stable.top (by rw [hw3]; exact (Keeps.refl Nil _).alloc _)
  have C0 := cells_at H0.out.2.1 (H1.out.trans' L2.keeps)
  have D0 := cells_at H0.out.2.1 (H1.out.trans' L3.keeps)
  have hlt : n + 1 < w2.heap.size := getElem?_lt ((H1.out.trans' L2.keeps).at H0.out.2.2 (fun e => e))
  have hlt0 : n < w2.heap.size := getElem?_lt ((H1.out.trans' L2.keeps).at H0.out.2.1 (fun e => e))
  have H3 := Lib.hid L3
  have HW3 := Lib.hid hw3
  have c00 := C0.1
  have c01 := C0.2.1
  have c02 := C0.2.2
  have d00 := D0.1
  have d01 := D0.2.1
  have d02 := D0.2.2
  clear L L2 L3 C0 D0 hw3
  go_wp2_with fail
  rw [← HW3.out]
  refine (made5 _ ⟨gs, gu, go⟩).mono ?_
  rintro e w4 ⟨rfl, k4⟩
  rw [TagV.cells_def]
  have H4 := Lib.hid (H3.out.quiet Stable.top k4)
  clear k4 c00 c01 c02 d00 d01 d02 hlt hlt0
  go_wp2_with fail
  refine (H4.out.tagWrite Stable.top off ⟨gs, gu, go⟩ (by decide) _ rfl).mono ?_
  rintro e w5 ⟨rfl, L5⟩
  rw [HB.out]
  rw [codeOf_true]
  obtain ⟨l1, hl1⟩ : ∃ l1, l1 = writeP ws44 [] off ⟨gs, gu, go⟩ := ⟨_, rfl⟩
  rw [← hl1] at L5
  have hlen : l1.length ≤ 2 := by rw [hl1]; exact writeP_length _ _ _ _
  have HL1 := Lib.hid hl1
  have HLEN := Lib.hid hlen
  have H5 := Lib.hid L5
  clear L5 hl1 hlen
  go_wp2_with fail
  refine (Read_any H5.out.tells off _ rfl).mono ?_
  rintro e w6 ⟨rfl, k6⟩
  rw [HL1.out, (stands_read HB.out).1, (stands_read HB.out).2, codeOf_true, TagV.cells_def]
  obtain ⟨w7, hw7⟩ : ∃ w7, w7 = w6.alloc (.cells #[.int .u64 (gs.toNat : Int), .bool gu, .int .i64 go] 70) := ⟨_, rfl⟩
  have k67 : Keeps Nil w6 w7 := by rw [hw7]; exact (Keeps.refl Nil _).alloc _
  have b7 : w7.drew.heap[w6.heap.size]? = some (.cells #[.int .u64 (gs.toNat : Int), .bool gu, .int .i64 go] 70 (0, 0)) := by rw [hw7]; exact heap_new _ _
  have L7 := ((H5.out.quiet Stable.top k6).quiet Stable.top k67).quiet Stable.top (keeps_drew _)
  have H7 := Lib.hid (And.intro L7 b7)
  have HW7 := Lib.hid hw7
  have qn := tag_neq_self gs gu go
  have hKK : Keeps Nil w7.drew w7.drew := Keeps.refl _ _
  clear k6 k67 hw7 b7 L7
  go_wp2_with fail
  rw [← HW7.out]
  go_region_held3 (fun w' => (w'.cell? ⟨w6.heap.size, 0, none⟩ = some (.int .u64 (gs.toNat : Int)) ∧ w'.cell? ⟨w6.heap.size, 1, none⟩ = some (.bool gu) ∧ w'.cell? ⟨w6.heap.size, 2, none⟩ = some (.int .i64 go)) ∧
      (w'.cell? ⟨n, 0, none⟩ = some (.int .u64 (gs.toNat : Int)) ∧ w'.cell? ⟨n, 1, none⟩ = some (.bool gu) ∧ w'.cell? ⟨n, 2, none⟩ = some (.int .i64 go)))
    (exact ⟨cells_at H7.out.2 hKK, cells_at H0.out.2.1 ((H1.out.trans' H7.out.1.keeps).trans' hKK)⟩)
    (first
      | (go_at_call 64; refine (made5 _ ⟨_, _, _⟩).mono ?_; rintro e w' ⟨rfl, kn⟩; rw [TagV.cells_def]; have hKK := hKK.trans' kn))
  have H8 := Lib.hid (H7.out.1.quiet Stable.top hKK)
  have P0 := put_at H0.out.2.2 (H1.out.trans' H8.out.keeps)
  have p0 := P0.1
  have p1 := P0.2
  clear hKK P0 qn
  go_wp2_with fail
  refine (H8.out.tells.load _ (Keeps.refl _ _) po _ rfl).mono ?_
  rintro e w9 ⟨rfl, k9⟩
  rw [HL1.out, ← HWAS.out]
  have H9 := Lib.hid (H8.out.quiet Stable.top k9)
  clear k9 p0 p1
  have P0 := put_at H0.out.2.2 (H1.out.trans' H9.out.keeps)
  have p0 := P0.1
  have p1 := P0.2
  clear P0
  go_wp2_with fail
  refine (H9.out.store Stable.top po pv (by have := HLEN.out; omega) _ _ rfl rfl).mono ?_
  rintro e w10 ⟨rfl, L10⟩
  have H10 := Lib.hid L10
  clear L10 p0 p1
  go_wp2_with fail
  refine (Read_any H10.out.tells off _ rfl).mono ?_
  rintro e w11 ⟨rfl, k11⟩
  rw [HL1.out, HRD.out.1, HRD.out.2, TagV.cells_def, codeOf_no]
  obtain ⟨w12, hw12⟩ : ∃ w12, w12 = w11.alloc (.cells #[.int .u64 (bs.toNat : Int), .bool bu, .int .i64 bo] 70) := ⟨_, rfl⟩
  have k12 : Keeps Nil w11 w12 := by rw [hw12]; exact (Keeps.refl Nil _).alloc _
  have b12 : w12.drew.heap[w11.heap.size]? = some (.cells #[.int .u64 (bs.toNat : Int), .bool bu, .int .i64 bo] 70 (0, 0)) := by rw [hw12]; exact heap_new _ _
  have L12 := (H10.out.quiet Stable.top k11).quiet Stable.top k12
  have P0 := put_at H0.out.2.2 (H1.out.trans' L12.keeps)
  have P1 := put_at H0.out.2.2 (H1.out.trans' (H10.out.quiet Stable.top k11).keeps)
  have G0 := cells_at H0.out.2.1 (H1.out.trans' L12.keeps)
  have G1 := cells_at H0.out.2.1 (H1.out.trans' (H10.out.quiet Stable.top k11).keeps)
  have hlt : n + 1 < w11.heap.size := getElem?_lt ((H1.out.trans' (H10.out.quiet Stable.top k11).keeps).at H0.out.2.2 (fun e => e))
  have hlt0 : n < w11.heap.size := by omega
  have p0 := P0.1
  have p1 := P0.2
  have r0 := P1.1
  have r1 := P1.2
  have g00 := G0.1
  have g10 := G1.1
  have H12 := Lib.hid (And.intro (L12.quiet Stable.top (keeps_drew _)) b12)
  have HW12 := Lib.hid hw12
  have hKK : Keeps Nil w12.drew w12.drew := Keeps.refl _ _
  clear k11 hw12 k12 b12 L12 P0 P1 G0 G1
  go_wp2_with fail
  rw [← HW12.out]
  clear p0 p1 r0 r1 g00 g10 hlt hlt0
  refine wp_region_held_drew (S := fun w' => (w'.cell? ⟨w11.heap.size, 0, none⟩ = some (.int .u64 (bs.toNat : Int)) ∧ w'.cell? ⟨w11.heap.size, 1, none⟩ = some (.bool bu) ∧ w'.cell? ⟨w11.heap.size, 2, none⟩ = some (.int .i64 bo)) ∧ (w'.cell? ⟨n, 0, none⟩ = some (.int .u64 (gs.toNat : Int)) ∧ w'.cell? ⟨n, 1, none⟩ = some (.bool gu) ∧ w'.cell? ⟨n, 2, none⟩ = some (.int .i64 go)) ∧ (w'.cell? ⟨n + 1, 0, none⟩ = some (.int .u64 (po.toNat : Int)) ∧ w'.cell? ⟨n + 1, 1, none⟩ = some (.int .u64 (pv.toNat : Int)))) (by kernel_rfl) ⟨cells_at H12.out.2 hKK, cells_at H0.out.2.1 ((H1.out.trans' H12.out.1.keeps).trans' hKK), put_at H0.out.2.2 ((H1.out.trans' H12.out.1.keeps).trans' hKK)⟩ (fun hHeld => ?_)
  refine wpAnyH_take (i := 0) (oi := _) (v := ?m9v0) rfl (by kernel_rfl) (by kernel_rfl) (by kernel_rfl) (fun _ _ _ h => h) (Or.inl ⟨by kernel_rfl, ?m9h0⟩) hHeld ?m9r0
  case m9h0 => (intro w hSw; (try dsimp only at hSw); go_simp; try with_reducible rfl)
  try simp only [Act.put, List.getElem_toArray, List.getElem_cons_succ, List.getElem_cons_zero, List.setIfInBounds_toArray, List.set_cons_zero, List.set_cons_succ]
  refine wpAnyH_take (i := 1) (oi := _) (v := ?m9v1) rfl (by kernel_rfl) (by kernel_rfl) (by kernel_rfl) (fun _ _ _ h => h) (Or.inl ⟨by kernel_rfl, ?m9h1⟩) hHeld ?m9r1
  case m9h1 => (intro w hSw; (try dsimp only at hSw); go_simp; try with_reducible rfl)
  try simp only [Act.put, List.getElem_toArray, List.getElem_cons_succ, List.getElem_cons_zero, List.setIfInBounds_toArray, List.set_cons_zero, List.set_cons_succ]
  refine wpAnyH_take (i := 2) (oi := _) (v := ?m9v2) rfl (by kernel_rfl) (by kernel_rfl) (by kernel_rfl) (fun _ _ _ h => h) (Or.inl ⟨by kernel_rfl, ?m9h2⟩) hHeld ?m9r2
  case m9h2 => (intro w hSw; (try dsimp only at hSw); go_simp; try with_reducible rfl)
  try simp only [Act.put, List.getElem_toArray, List.getElem_cons_succ, List.getElem_cons_zero, List.setIfInBounds_toArray, List.set_cons_zero, List.set_cons_succ]
  refine wpAnyH_take (i := 3) (oi := _) (v := ?m9v3) rfl (by kernel_rfl) (by kernel_rfl) (by kernel_rfl) (fun _ _ _ h => h) (Or.inl ⟨by kernel_rfl, ?m9h3⟩) hHeld ?m9r3
  case m9h3 => (intro w hSw; (try dsimp only at hSw); go_simp; try with_reducible rfl)
  try simp only [Act.put, List.getElem_toArray, List.getElem_cons_succ, List.getElem_cons_zero, List.setIfInBounds_toArray, List.set_cons_zero, List.set_cons_succ]
  refine wpAnyH_take (i := 4) (oi := _) (v := ?m9v4) rfl (by kernel_rfl) (by kernel_rfl) (by kernel_rfl) (fun _ _ _ h => h) (Or.inl ⟨by kernel_rfl, ?m9h4⟩) hHeld ?m9r4
  case m9h4 => (intro w hSw; (try dsimp only at hSw); go_simp; try with_reducible rfl)
  try simp only [Act.put, List.getElem_toArray, List.getElem_cons_succ, List.getElem_cons_zero, List.setIfInBounds_toArray, List.set_cons_zero, List.set_cons_succ]
  refine wpAnyH_take (i := 5) (oi := _) (v := undef) rfl (by kernel_rfl) (by kernel_rfl) (by kernel_rfl) (fun _ _ _ h => h) (Or.inr ⟨by kernel_rfl, rfl⟩) hHeld ?_
  try simp only [Act.put, List.getElem_toArray, List.getElem_cons_succ, List.getElem_cons_zero, List.setIfInBounds_toArray, List.set_cons_zero, List.set_cons_succ]
  refine wpAnyH_take (i := 6) (oi := _) (v := undef) rfl (by kernel_rfl) (by kernel_rfl) (by kernel_rfl) (fun _ _ _ h => h) (Or.inr ⟨by kernel_rfl, rfl⟩) hHeld ?_
  try simp only [Act.put, List.getElem_toArray, List.getElem_cons_succ, List.getElem_cons_zero, List.setIfInBounds_toArray, List.set_cons_zero, List.set_cons_succ]
  refine wpAnyH_take (i := 7) (oi := _) (v := undef) rfl (by kernel_rfl) (by kernel_rfl) (by kernel_rfl) (fun _ _ _ h => h) (Or.inr ⟨by kernel_rfl, rfl⟩) hHeld ?_
  try simp only [Act.put, List.getElem_toArray, List.getElem_cons_succ, List.getElem_cons_zero, List.setIfInBounds_toArray, List.set_cons_zero, List.set_cons_succ]
  refine wpAnyH_take (i := 8) (oi := _) (v := undef) rfl (by kernel_rfl) (by kernel_rfl) (by kernel_rfl) (fun _ _ _ h => h) (Or.inr ⟨by kernel_rfl, rfl⟩) hHeld ?_
  try simp only [Act.put, List.getElem_toArray, List.getElem_cons_succ, List.getElem_cons_zero, List.setIfInBounds_toArray, List.set_cons_zero, List.set_cons_succ]
  refine wpAnyH_take (i := 9) (oi := _) (v := ?m9v9) rfl (by kernel_rfl) (by kernel_rfl) (by kernel_rfl) (fun _ _ _ h => h) (Or.inl ⟨by kernel_rfl, ?m9h9⟩) hHeld ?m9r9
  case m9h9 => (intro w hSw; (try dsimp only at hSw); go_simp; try with_reducible rfl)
  try simp only [Act.put, List.getElem_toArray, List.getElem_cons_succ, List.getElem_cons_zero, List.setIfInBounds_toArray, List.set_cons_zero, List.set_cons_succ]
  refine wpAnyH_take (i := 10) (oi := _) (v := ?m9v10) rfl (by kernel_rfl) (by kernel_rfl) (by kernel_rfl) (fun _ _ _ h => h) (Or.inl ⟨by kernel_rfl, ?m9h10⟩) hHeld ?m9r10
  case m9h10 => (intro w hSw; (try dsimp only at hSw); go_simp; try with_reducible rfl)
  try simp only [Act.put, List.getElem_toArray, List.getElem_cons_succ, List.getElem_cons_zero, List.setIfInBounds_toArray, List.set_cons_zero, List.set_cons_succ]
  refine wpAnyH_take (i := 11) (oi := _) (v := ?m9v11) rfl (by kernel_rfl) (by kernel_rfl) (by kernel_rfl) (fun _ _ _ h => h) (Or.inl ⟨by kernel_rfl, ?m9h11⟩) hHeld ?m9r11
  case m9h11 => (intro w hSw; (try dsimp only at hSw); go_simp; try with_reducible rfl)
  try simp only [Act.put, List.getElem_toArray, List.getElem_cons_succ, List.getElem_cons_zero, List.setIfInBounds_toArray, List.set_cons_zero, List.set_cons_succ]
  refine wpAnyH_take (i := 12) (oi := _) (v := undef) rfl (by kernel_rfl) (by kernel_rfl) (by kernel_rfl) (fun _ _ _ h => h) (Or.inr ⟨by kernel_rfl, rfl⟩) hHeld ?_
  try simp only [Act.put, List.getElem_toArray, List.getElem_cons_succ, List.getElem_cons_zero, List.setIfInBounds_toArray, List.set_cons_zero, List.set_cons_succ]
  refine wpAnyH_take (i := 13) (oi := _) (v := undef) rfl (by kernel_rfl) (by kernel_rfl) (by kernel_rfl) (fun _ _ _ h => h) (Or.inr ⟨by kernel_rfl, rfl⟩) hHeld ?_
  try simp only [Act.put, List.getElem_toArray, List.getElem_cons_succ, List.getElem_cons_zero, List.setIfInBounds_toArray, List.set_cons_zero, List.set_cons_succ]
  refine wpAnyH_take (i := 14) (oi := _) (v := undef) rfl (by kernel_rfl) (by kernel_rfl) (by kernel_rfl) (fun _ _ _ h => h) (Or.inr ⟨by kernel_rfl, rfl⟩) hHeld ?_
  try simp only [Act.put, List.getElem_toArray, List.getElem_cons_succ, List.getElem_cons_zero, List.setIfInBounds_toArray, List.set_cons_zero, List.set_cons_succ]
  refine wpAnyH_take (i := 15) (oi := _) (v := undef) rfl (by kernel_rfl) (by kernel_rfl) (by kernel_rfl) (fun _ _ _ h => h) (Or.inr ⟨by kernel_rfl, rfl⟩) hHeld ?_
  try simp only [Act.put, List.getElem_toArray, List.getElem_cons_succ, List.getElem_cons_zero, List.setIfInBounds_toArray, List.set_cons_zero, List.set_cons_succ]
  refine wpAnyH_take (i := 16) (oi := _) (v := ?m9v16) rfl (by kernel_rfl) (by kernel_rfl) (by kernel_rfl) (fun _ _ _ h => h) (Or.inl ⟨by kernel_rfl, ?m9h16⟩) hHeld ?m9r16
  case m9h16 => (intro w hSw; (try dsimp only at hSw); go_simp; try with_reducible rfl)
  try simp only [Act.put, List.getElem_toArray, List.getElem_cons_succ, List.getElem_cons_zero, List.setIfInBounds_toArray, List.set_cons_zero, List.set_cons_succ]
  refine wpAnyH_take (i := 17) (oi := _) (v := ?m9v17) rfl (by kernel_rfl) (by kernel_rfl) (by kernel_rfl) (fun _ _ _ h => h) (Or.inl ⟨by kernel_rfl, ?m9h17⟩) hHeld ?m9r17
  case m9h17 => (intro w hSw; (try dsimp only at hSw); go_simp; try with_reducible rfl)
  try simp only [Act.put, List.getElem_toArray, List.getElem_cons_succ, List.getElem_cons_zero, List.setIfInBounds_toArray, List.set_cons_zero, List.set_cons_succ]
  refine wpAnyH_take (i := 18) (oi := _) (v := ?m9v18) rfl (by kernel_rfl) (by kernel_rfl) (by kernel_rfl) (fun _ _ _ h => h) (Or.inl ⟨by kernel_rfl, ?m9h18⟩) hHeld ?m9r18
  case m9h18 => (intro w hSw; (try dsimp only at hSw); go_simp; try with_reducible rfl)
  try simp only [Act.put, List.getElem_toArray, List.getElem_cons_succ, List.getElem_cons_zero, List.setIfInBounds_toArray, List.set_cons_zero, List.set_cons_succ]
  refine wpAnyH_take (i := 19) (oi := _) (v := ?m9v19) rfl (by kernel_rfl) (by kernel_rfl) (by kernel_rfl) (fun _ _ _ h => h) (Or.inl ⟨by kernel_rfl, ?m9h19⟩) hHeld ?m9r19
  case m9h19 => (intro w hSw; (try dsimp only at hSw); go_simp; try with_reducible rfl)
  try simp only [Act.put, List.getElem_toArray, List.getElem_cons_succ, List.getElem_cons_zero, List.setIfInBounds_toArray, List.set_cons_zero, List.set_cons_succ]
  refine wpAnyH_take (i := 20) (oi := _) (v := ?m9v20) rfl (by kernel_rfl) (by kernel_rfl) (by kernel_rfl) (fun _ _ _ h => h) (Or.inl ⟨by kernel_rfl, ?m9h20⟩) hHeld ?m9r20
  case m9h20 => (intro w hSw; (try dsimp only at hSw); go_simp; try with_reducible rfl)
  try simp only [Act.put, List.getElem_toArray, List.getElem_cons_succ, List.getElem_cons_zero, List.setIfInBounds_toArray, List.set_cons_zero, List.set_cons_succ]
  refine wpAnyH_take (i := 21) (oi := _) (v := ?m9v21) rfl (by kernel_rfl) (by kernel_rfl) (by kernel_rfl) (fun _ _ _ h => h) (Or.inl ⟨by kernel_rfl, ?m9h21⟩) hHeld ?m9r21
  case m9h21 => (intro w hSw; (try dsimp only at hSw); go_simp; try with_reducible rfl)
  try simp only [Act.put, List.getElem_toArray, List.getElem_cons_succ, List.getElem_cons_zero, List.setIfInBounds_toArray, List.set_cons_zero, List.set_cons_succ]
  refine wpAnyH_take (i := 22) (oi := _) (v := ?m9v22) rfl (by kernel_rfl) (by kernel_rfl) (by kernel_rfl) (fun _ _ _ h => h) (Or.inl ⟨by kernel_rfl, ?m9h22⟩) hHeld ?m9r22
  case m9h22 => (intro w hSw; (try dsimp only at hSw); go_simp; try with_reducible rfl)
  try simp only [Act.put, List.getElem_toArray, List.getElem_cons_succ, List.getElem_cons_zero, List.setIfInBounds_toArray, List.set_cons_zero, List.set_cons_succ]
  refine wpAnyH_take (i := 24) (oi := _) (v := ?m9v24) rfl (by kernel_rfl) (by kernel_rfl) (by kernel_rfl) (fun _ _ _ h => h) (Or.inl ⟨by kernel_rfl, ?m9h24⟩) hHeld ?m9r24
  case m9h24 => (intro w hSw; (try dsimp only at hSw); go_simp; try with_reducible rfl)
  try simp only [Act.put, List.getElem_toArray, List.getElem_cons_succ, List.getElem_cons_zero, List.setIfInBounds_toArray, List.set_cons_zero, List.set_cons_succ]
  refine wpAnyH_take (i := 25) (oi := _) (v := ?m9v25) rfl (by kernel_rfl) (by kernel_rfl) (by kernel_rfl) (fun _ _ _ h => h) (Or.inl ⟨by kernel_rfl, ?m9h25⟩) hHeld ?m9r25
  case m9h25 => (intro w hSw; (try dsimp only at hSw); go_simp; try with_reducible rfl)
  try simp only [Act.put, List.getElem_toArray, List.getElem_cons_succ, List.getElem_cons_zero, List.setIfInBounds_toArray, List.set_cons_zero, List.set_cons_succ]
  refine wpAnyH_take (i := 26) (oi := _) (v := ?m9v26) rfl (by kernel_rfl) (by kernel_rfl) (by kernel_rfl) (fun _ _ _ h => h) (Or.inl ⟨by kernel_rfl, ?m9h26⟩) hHeld ?m9r26
  case m9h26 => (intro w hSw; (try dsimp only at hSw); go_simp; try with_reducible rfl)
  try simp only [Act.put, List.getElem_toArray, List.getElem_cons_succ, List.getElem_cons_zero, List.setIfInBounds_toArray, List.set_cons_zero, List.set_cons_succ]
  refine wpAnyH_take (i := 27) (oi := _) (v := ?m9v27) rfl (by kernel_rfl) (by kernel_rfl) (by kernel_rfl) (fun _ _ _ h => h) (Or.inl ⟨by kernel_rfl, ?m9h27⟩) hHeld ?m9r27
  case m9h27 => (intro w hSw; (try dsimp only at hSw); go_simp; try with_reducible rfl)
  try simp only [Act.put, List.getElem_toArray, List.getElem_cons_succ, List.getElem_cons_zero, List.setIfInBounds_toArray, List.set_cons_zero, List.set_cons_succ]
  refine wpAnyH_ready (rs := [23]) (by kernel_rfl) (by simp) ?_
  refine AllReadyH.cons (o := _) rfl (fun K hK => ?_) AllReadyH.nil
  go_simp
  refine ((H12.out.1.quiet Stable.top hKK).tells.load _ (Keeps.refl _ _) 16 _ (by rfl)).mono ?_; rintro e w' ⟨rfl, kn⟩; rw [HL1.out, HEND.out]; have hKK := hKK.trans' kn
  refine hK.out _ _ (⟨cells_at H12.out.2 hKK, cells_at H0.out.2.1 ((H1.out.trans' H12.out.1.keeps).trans' hKK), put_at H0.out.2.2 ((H1.out.trans' H12.out.1.keeps).trans' hKK)⟩) (fun hHeld => ?_)
  clear hK K
  try simp only [Act.put, List.getElem_toArray, List.getElem_cons_succ, List.getElem_cons_zero, List.setIfInBounds_toArray, List.set_cons_zero, List.set_cons_succ]
  refine wpAnyH_take (i := 28) (oi := _) (v := ?m9v28) rfl (by kernel_rfl) (by kernel_rfl) (by kernel_rfl) (fun _ _ _ h => h) (Or.inl ⟨by kernel_rfl, ?m9h28⟩) hHeld ?m9r28
  case m9h28 => (intro w hSw; (try dsimp only at hSw); go_simp; try with_reducible rfl)
  try simp only [Act.put, List.getElem_toArray, List.getElem_cons_succ, List.getElem_cons_zero, List.setIfInBounds_toArray, List.set_cons_zero, List.set_cons_succ]
  refine wpAnyH_take (i := 29) (oi := _) (v := ?m9v29) rfl (by kernel_rfl) (by kernel_rfl) (by kernel_rfl) (fun _ _ _ h => h) (Or.inl ⟨by kernel_rfl, ?m9h29⟩) hHeld ?m9r29
  case m9h29 => (intro w hSw; (try dsimp only at hSw); go_simp; try with_reducible rfl)
  try simp only [Act.put, List.getElem_toArray, List.getElem_cons_succ, List.getElem_cons_zero, List.setIfInBounds_toArray, List.set_cons_zero, List.set_cons_succ]
  refine wpAnyH_take (i := 30) (oi := _) (v := ?m9v30) rfl (by kernel_rfl) (by kernel_rfl) (by kernel_rfl) (fun _ _ _ h => h) (Or.inl ⟨by kernel_rfl, ?m9h30⟩) hHeld ?m9r30
  case m9h30 => (intro w hSw; (try dsimp only at hSw); go_simp; try with_reducible rfl)
  try simp only [Act.put, List.getElem_toArray, List.getElem_cons_succ, List.getElem_cons_zero, List.setIfInBounds_toArray, List.set_cons_zero, List.set_cons_succ]
  refine wpAnyH_take (i := 31) (oi := _) (v := ?m9v31) rfl (by kernel_rfl) (by kernel_rfl) (by kernel_rfl) (fun _ _ _ h => h) (Or.inl ⟨by kernel_rfl, ?m9h31⟩) hHeld ?m9r31
  case m9h31 => (intro w hSw; (try dsimp only at hSw); go_simp; try with_reducible rfl)
  try simp only [Act.put, List.getElem_toArray, List.getElem_cons_succ, List.getElem_cons_zero, List.setIfInBounds_toArray, List.set_cons_zero, List.set_cons_succ]
  refine wpAnyH_take (i := 32) (oi := _) (v := ?m9v32) rfl (by kernel_rfl) (by kernel_rfl) (by kernel_rfl) (fun _ _ _ h => h) (Or.inl ⟨by kernel_rfl, ?m9h32⟩) hHeld ?m9r32
  case m9h32 => (intro w hSw; (try dsimp only at hSw); go_simp; try with_reducible rfl)
  try simp only [Act.put, List.getElem_toArray, List.getElem_cons_succ, List.getElem_cons_zero, List.setIfInBounds_toArray, List.set_cons_zero, List.set_cons_succ]
  refine wpAnyH_take (i := 33) (oi := _) (v := ?m9v33) rfl (by kernel_rfl) (by kernel_rfl) (by kernel_rfl) (fun _ _ _ h => h) (Or.inl ⟨by kernel_rfl, ?m9h33⟩) hHeld ?m9r33
  case m9h33 => (intro w hSw; (try dsimp only at hSw); go_simp; try with_reducible rfl)
  try simp only [Act.put, List.getElem_toArray, List.getElem_cons_succ, List.getElem_cons_zero, List.setIfInBounds_toArray, List.set_cons_zero, List.set_cons_succ]
  refine wpAnyH_done (by kernel_rfl) ?_ _
  have HK := Lib.hid ((H0.out.1.trans' (H1.out.trans' H12.out.1.keeps)).trans' hKK)
  clear hKK
  go_wp2_with fail
  go_ret
  exact ⟨rfl, HK.out⟩
end Go.Proofs.Ytccllkgaakmdhaa
