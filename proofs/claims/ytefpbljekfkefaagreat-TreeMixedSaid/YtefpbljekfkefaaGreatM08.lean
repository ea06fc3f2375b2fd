/- TagRR, TagW, Formed: merged. -/
import Derived.Test.YtefpbljekfkefaaGreatM07
import Derived.Test.YtefpbljekfkefaaGreatM06
/- carrackref05.Read. -/
namespace Go.Proofs.YtefpbljekfkefaaGreat
open Go.RowKit

theorem in_zero {st off size : UInt64} (h : inT st off 0 = false) : inT st off size = false := by
  cases e : inT st off size with
  | false => rfl
  | true =>
    obtain ⟨h1, h2, h3, h4⟩ := inT_spec e
    have : inT st off 0 = true := decide_eq_true ⟨h1, h2, h3, by simp⟩
    rw [this] at h; cases h

set_option maxRecDepth 100000 in
set_option maxHeartbeats 4000000 in
theorem rRead_any {A B : Value} {f : UInt64 → UInt64} {w : World} (h : RReads (.agg #[A, B]) f w) (off : UInt64) (x : Int) (hx : x = (off.toNat : Int)) :
    Calls Tryz.prog 152 #[.agg #[A, B], .int .u64 x] w fun e w' => e = .returned (.tuple #[.agg (readT f off).cells, .int .i64 (codeOf (readB f off))]) ∧ Keeps Nil w w' := by
  subst hx
  have H := Lib.hid h
  obtain ⟨n, hn⟩ : ∃ n, n = w.heap.size := ⟨_, rfl⟩
  obtain ⟨w0, hw0⟩ : ∃ w0, w0 = (w.alloc (.cells #[A, B] 71)).alloc (.cells #[.int .u64 0, .bool false, .int .i64 0] 61) := ⟨_, rfl⟩
  have hk0 : Keeps Nil w w0 := by rw [hw0]; exact ((Keeps.refl Nil w).alloc _).alloc _
  have hx0 : w0.heap[n]? = some (.cells #[A, B] 71 (0, 0)) := by rw [hw0, hn]; exact heap_old _ _ (heap_new w _)
  have hr0 : w0.heap[n + 1]? = some (.cells #[.int .u64 0, .bool false, .int .i64 0] 61 (0, 0)) := by
    rw [hw0, hn]
    have := heap_new (w.alloc (.cells #[A, B] 71)) (.cells #[.int .u64 0, .bool false, .int .i64 0] 61)
    simpa using this
  obtain ⟨s, u, o, hu⟩ : ∃ s u o, unpackT (f off) = ⟨s, u, o⟩ := ⟨_, _, _, rfl⟩
  obtain ⟨b, hb⟩ : ∃ b, b = readB f off := ⟨_, rfl⟩
  obtain ⟨g, hg⟩ : ∃ g, g = readT f off := ⟨_, rfl⟩
  have hrb : b = (isTag (f off) && inT (f 16) off s && f (off + s - 8) == f off) := by rw [hb]; unfold readB; rw [hu]
  have hgy : b = true → g = ⟨s, u, o⟩ := fun h => by rw [hg, readT_yes (by rw [← hb]; exact h)]; exact hu
  have hgn : b = false → g = TagV.zero := fun h => by rw [hg, readT_no (by rw [← hb]; exact h)]
  rw [← hb, ← hg]
  obtain ⟨y1, hy1⟩ : ∃ y, y = off + s := ⟨_, rfl⟩
  obtain ⟨y2, hy2⟩ : ∃ y, y = off + s - 8 := ⟨_, rfl⟩
  have q1 := add_eq off s
  have q2 := sub8_eq (off + s)
  rw [← hy1] at q1 q2
  rw [← hy1] at hy2
  rw [← hy2] at q2
  rw [← hy1, ← hy2] at hrb
  have HG := Lib.hid (And.intro hrb (And.intro hgy hgn))
  have HUU := Lib.hid hu
  have HW0 := Lib.hid hw0
  have HN := Lib.hid hn
  have K0 := Lib.hid (And.intro hk0 (And.intro hx0 hr0))
  have HF := Lib.hid (And.intro q1 q2)
  clear h hu hw0 hk0 hx0 hr0 hb hg hrb hgy hgn q1 q2 hn hy1 hy2
  cases hi0 : inT (f 16) off 0 with
  | false =>
    have HI0 := Lib.hid hi0
    clear hi0
    go_enter Tryz.func152, Tryz.ntmps152
    go_wp2_with fail
    rw [← HW0.out, ← HN.out]
    refine (rIn_any (H.out.keeps K0.out.1) off 0 _ _ rfl (by rfl)).mono ?_
    rintro e w1 ⟨rfl, k1⟩
    rw [HI0.out]
    have hx1 := k1.at K0.out.2.1 (fun e => e)
    have hr1 := k1.at K0.out.2.2 (fun e => e)
    obtain ⟨x0, x1⟩ := row2 hx1
    obtain ⟨c0, c1, c2⟩ := row3 hr1
    have f0 := frz hr1 0
    have f1 := frz hr1 1
    have f2 := frz hr1 2
    have K1 := Lib.hid (And.intro (K0.out.1.trans' k1) (And.intro hx1 hr1))
    clear k1 hx1 hr1
    go_wp2_with fail
    refine bodyPost_ret (results_row_tmp rfl rfl (setRow3 K1.out.2.2) Tryz.underlying61 rfl (by kernel_rfl)) rfl ?_
    have hbf : b = false := by rw [HG.out.1]; simp [in_zero HI0.out]
    refine ⟨by rw [hbf, HG.out.2.2 hbf]; rfl, keepsRow3 K1.out.1 (by rw [HN.out]; exact Nat.le_succ _) _ _ _⟩
  | true =>
    have HI0 := Lib.hid hi0
    clear hi0
    cases hi : isTag (f off) with
    | false =>
      have HI := Lib.hid hi
      clear hi
      go_enter Tryz.func152, Tryz.ntmps152
      go_wp2_with fail
      rw [← HW0.out, ← HN.out]
      refine (rIn_any (H.out.keeps K0.out.1) off 0 _ _ rfl (by rfl)).mono ?_
      rintro e w1 ⟨rfl, k1⟩
      rw [HI0.out]
      have hx1 := k1.at K0.out.2.1 (fun e => e)
      have hr1 := k1.at K0.out.2.2 (fun e => e)
      obtain ⟨x0, x1⟩ := row2 hx1
      obtain ⟨c0, c1, c2⟩ := row3 hr1
      have f0 := frz hr1 0
      have f1 := frz hr1 1
      have f2 := frz hr1 2
      have K1 := Lib.hid (And.intro (K0.out.1.trans' k1) (And.intro hx1 hr1))
      clear k1 hx1 hr1
      go_wp2_with fail
      refine (H.out.load w1 K1.out.1 off _ rfl).mono ?_
      rintro e w2 ⟨rfl, k2⟩
      have K2 := Lib.hid k2
      clear k2
      go_wp2_with fail
      refine (rUnpack_any w2 (f off)).mono ?_
      rintro e w3 ⟨rfl, k3⟩
      rw [HUU.out, TagV.cells_def, HI.out]
      obtain ⟨w4, hw4⟩ : ∃ w4, w4 = w3.alloc (.cells #[.int .u64 (s.toNat : Int), .bool u, .int .i64 o] 61) := ⟨_, rfl⟩
      have hk4 : Keeps Nil w1 w4 := by rw [hw4]; exact (K2.out.trans' k3).alloc _
      have hs4 : w4.heap[w3.heap.size]? = some (.cells #[.int .u64 (s.toNat : Int), .bool u, .int .i64 o] 61 (0, 0)) := by rw [hw4]; exact heap_new w3 _
      have hx4 := hk4.at K1.out.2.1 (fun e => e)
      have hr4 := hk4.at K1.out.2.2 (fun e => e)
      clear x0 x1 c0 c1 c2 f0 f1 f2
      have x0 : w4.drew.cell? ⟨n, 0, none⟩ = some A := (row2 hx4).1
      have x1 : w4.drew.cell? ⟨n, 1, none⟩ = some B := (row2 hx4).2
      have d0 : w4.drew.cell? ⟨w3.heap.size, 0, none⟩ = some (.int .u64 (s.toNat : Int)) := (row3 hs4).1
      have K4 := Lib.hid (And.intro (K1.out.1.trans' hk4) (And.intro hx4 (And.intro hs4 hr4)))
      have hl1 : n < w4.drew.heap.size := getElem?_lt hx4
      have hl2 : w3.heap.size < w4.drew.heap.size := getElem?_lt hs4
      have HW4 := Lib.hid hw4
      clear k3 hw4 hk4 hs4 hx4 hr4
      have hKK : Keeps Nil w4.drew w4.drew := Keeps.refl _ _
      go_wp2_with fail
      rw [← HW4.out]
      go_quiet (fail)
      have hK2 : Keeps Nil w4.drew (w4.drewN nq) := ⟨rfl, rfl, rfl, Nat.le_refl _, fun _ _ _ => rfl⟩
      have hKK := hKK.trans' hK2
      clear hK2
      have hk5 := (keeps_drew w4).trans' hKK
      have hr5 := hk5.at K4.out.2.2.2 (fun e => e)
      have hs5 := hk5.at K4.out.2.2.1 (fun e => e)
      have c0 := (row3 hr5).1
      have c1 := (row3 hr5).2.1
      have c2 := (row3 hr5).2.2
      have f0 := frz hr5 0
      have f1 := frz hr5 1
      have f2 := frz hr5 2
      have K5 := Lib.hid (And.intro (K4.out.1.trans' hk5) (And.intro hs5 hr5))
      have g0 := (row3 hs5).1
      have g1 := (row3 hs5).2.1
      have g2 := (row3 hs5).2.2
      clear hk5 hr5 hs5 hKK x0 x1 d0
      go_wp2_with fail
      refine bodyPost_ret (results_row_tmp rfl rfl (setRow3 K5.out.2.2) Tryz.underlying61 rfl (by kernel_rfl)) rfl ?_
      have hbf : b = false := by rw [HG.out.1]; simp [HI.out]
      refine ⟨by rw [hbf, HG.out.2.2 hbf]; rfl, keepsRow3 K5.out.1 (by rw [HN.out]; exact Nat.le_succ _) _ _ _⟩
    | true =>
      have HI := Lib.hid hi
      clear hi
      cases hj : inT (f 16) off s with
      | false =>
        have HJ := Lib.hid hj
        clear hj
        have q1 := HF.out.1
        have q2 := HF.out.2
        go_enter Tryz.func152, Tryz.ntmps152
        go_wp2_with fail
        rw [← HW0.out, ← HN.out]
        refine (rIn_any (H.out.keeps K0.out.1) off 0 _ _ rfl (by rfl)).mono ?_
        rintro e w1 ⟨rfl, k1⟩
        rw [HI0.out]
        have hx1 := k1.at K0.out.2.1 (fun e => e)
        have hr1 := k1.at K0.out.2.2 (fun e => e)
        obtain ⟨x0, x1⟩ := row2 hx1
        obtain ⟨c0, c1, c2⟩ := row3 hr1
        have f0 := frz hr1 0
        have f1 := frz hr1 1
        have f2 := frz hr1 2
        have K1 := Lib.hid (And.intro (K0.out.1.trans' k1) (And.intro hx1 hr1))
        clear k1 hx1 hr1
        go_wp2_with fail
        refine (H.out.load w1 K1.out.1 off _ rfl).mono ?_
        rintro e w2 ⟨rfl, k2⟩
        have K2 := Lib.hid k2
        clear k2
        go_wp2_with fail
        refine (rUnpack_any w2 (f off)).mono ?_
        rintro e w3 ⟨rfl, k3⟩
        rw [HUU.out, TagV.cells_def, HI.out]
        obtain ⟨w4, hw4⟩ : ∃ w4, w4 = w3.alloc (.cells #[.int .u64 (s.toNat : Int), .bool u, .int .i64 o] 61) := ⟨_, rfl⟩
        have hk4 : Keeps Nil w1 w4 := by rw [hw4]; exact (K2.out.trans' k3).alloc _
        have hs4 : w4.heap[w3.heap.size]? = some (.cells #[.int .u64 (s.toNat : Int), .bool u, .int .i64 o] 61 (0, 0)) := by rw [hw4]; exact heap_new w3 _
        have hx4 := hk4.at K1.out.2.1 (fun e => e)
        have hr4 := hk4.at K1.out.2.2 (fun e => e)
        clear x0 x1 c0 c1 c2 f0 f1 f2
        have x0 : w4.drew.cell? ⟨n, 0, none⟩ = some A := (row2 hx4).1
        have x1 : w4.drew.cell? ⟨n, 1, none⟩ = some B := (row2 hx4).2
        have d0 : w4.drew.cell? ⟨w3.heap.size, 0, none⟩ = some (.int .u64 (s.toNat : Int)) := (row3 hs4).1
        have K4 := Lib.hid (And.intro (K1.out.1.trans' hk4) (And.intro hx4 (And.intro hs4 hr4)))
        have hl1 : n < w4.drew.heap.size := getElem?_lt hx4
        have hl2 : w3.heap.size < w4.drew.heap.size := getElem?_lt hs4
        have HW4 := Lib.hid hw4
        clear k3 hw4 hk4 hs4 hx4 hr4
        have hKK : Keeps Nil w4.drew w4.drew := Keeps.refl _ _
        go_wp2_with fail
        rw [← HW4.out]
        refine wp_region_held_drew (S := fun w' => w'.cell? ⟨n, 0, none⟩ = some A ∧ w'.cell? ⟨n, 1, none⟩ = some B ∧ w'.cell? ⟨w3.heap.size, 0, none⟩ = some (.int .u64 (s.toNat : Int))) (by kernel_rfl) ⟨x0, x1, d0⟩ (fun hHeld => ?_)
        refine wpAnyH_take (i := 0) (oi := _) (v := ?m1v0) rfl (by kernel_rfl) (by kernel_rfl) (by kernel_rfl) (fun _ _ _ h => h) (Or.inl ⟨by kernel_rfl, ?m1h0⟩) hHeld ?m1r0
        case m1h0 => (intro w hSw; (try dsimp only at hSw); go_simp; try with_reducible rfl)
        try simp only [Act.put, List.getElem_toArray, List.getElem_cons_zero, List.setIfInBounds_toArray, List.set_cons_zero, List.set_cons_succ]
        refine wpAnyH_take (i := 1) (oi := _) (v := ?m1v1) rfl (by kernel_rfl) (by kernel_rfl) (by kernel_rfl) (fun _ _ _ h => h) (Or.inl ⟨by kernel_rfl, ?m1h1⟩) hHeld ?m1r1
        case m1h1 => (intro w hSw; (try dsimp only at hSw); go_simp; try with_reducible rfl)
        try simp only [Act.put, List.getElem_toArray, List.getElem_cons_succ, List.getElem_cons_zero, List.setIfInBounds_toArray, List.set_cons_zero, List.set_cons_succ]
        refine wpAnyH_take (i := 2) (oi := _) (v := ?m1v2) rfl (by kernel_rfl) (by kernel_rfl) (by kernel_rfl) (fun _ _ _ h => h) (Or.inl ⟨by kernel_rfl, ?m1h2⟩) hHeld ?m1r2
        case m1h2 => (intro w hSw; (try dsimp only at hSw); go_simp; try with_reducible rfl)
        try simp only [Act.put, List.getElem_toArray, List.getElem_cons_succ, List.getElem_cons_zero, List.setIfInBounds_toArray, List.set_cons_zero, List.set_cons_succ]
        refine wpAnyH_take (i := 3) (oi := _) (v := ?m1v3) rfl (by kernel_rfl) (by kernel_rfl) (by kernel_rfl) (fun _ _ _ h => h) (Or.inl ⟨by kernel_rfl, ?m1h3⟩) hHeld ?m1r3
        case m1h3 => (intro w hSw; (try dsimp only at hSw); go_simp; try with_reducible rfl)
        try simp only [Act.put, List.getElem_toArray, List.getElem_cons_succ, List.getElem_cons_zero, List.setIfInBounds_toArray, List.set_cons_zero, List.set_cons_succ]
        refine wpAnyH_take (i := 4) (oi := _) (v := ?m1v4) rfl (by kernel_rfl) (by kernel_rfl) (by kernel_rfl) (fun _ _ _ h => h) (Or.inl ⟨by kernel_rfl, ?m1h4⟩) hHeld ?m1r4
        case m1h4 => (intro w hSw; (try dsimp only at hSw); go_simp; try with_reducible rfl)
        try simp only [Act.put, List.getElem_toArray, List.getElem_cons_succ, List.getElem_cons_zero, List.setIfInBounds_toArray, List.set_cons_zero, List.set_cons_succ]
        refine wpAnyH_take (i := 5) (oi := _) (v := ?m1v5) rfl (by kernel_rfl) (by kernel_rfl) (by kernel_rfl) (fun _ _ _ h => h) (Or.inl ⟨by kernel_rfl, ?m1h5⟩) hHeld ?m1r5
        case m1h5 => (intro w hSw; (try dsimp only at hSw); go_simp; try with_reducible rfl)
        try simp only [Act.put, List.getElem_toArray, List.getElem_cons_succ, List.getElem_cons_zero, List.setIfInBounds_toArray, List.set_cons_zero, List.set_cons_succ]
        refine wpAnyH_take (i := 6) (oi := _) (v := ?m1v6) rfl (by kernel_rfl) (by kernel_rfl) (by kernel_rfl) (fun _ _ _ h => h) (Or.inl ⟨by kernel_rfl, ?m1h6⟩) hHeld ?m1r6
        case m1h6 => (intro w hSw; (try dsimp only at hSw); go_simp; try with_reducible rfl)
        try simp only [Act.put, List.getElem_toArray, List.getElem_cons_succ, List.getElem_cons_zero, List.setIfInBounds_toArray, List.set_cons_zero, List.set_cons_succ]
        refine wpAnyH_ready (rs := [7]) (by kernel_rfl) (by simp) ?_
        refine AllReadyH.cons (o := _) rfl (fun K hK => ?_) AllReadyH.nil
        go_simp
        refine (rIn_any (H.out.keeps ((K4.out.1.trans' (keeps_drew _)).trans' hKK)) off s _ _ rfl rfl).mono ?_; rintro e w' ⟨rfl, kn⟩; rw [HJ.out]; have hKK := hKK.trans' kn; have y0 := (hKK.cell hl1 (fun e => e) 0).trans x0; have y1 := (hKK.cell hl1 (fun e => e) 1).trans x1; have e0 := (hKK.cell hl2 (fun e => e) 0).trans d0
        refine hK.out _ _ (⟨y0, y1, e0⟩) (fun hHeld => ?_)
        clear hK K
        try simp only [Act.put, List.getElem_toArray, List.getElem_cons_succ, List.getElem_cons_zero, List.setIfInBounds_toArray, List.set_cons_zero, List.set_cons_succ]
        refine wpAnyH_take (i := 8) (oi := _) (v := ?m1v8) rfl (by kernel_rfl) (by kernel_rfl) (by kernel_rfl) (fun _ _ _ h => h) (Or.inl ⟨by kernel_rfl, ?m1h8⟩) hHeld ?m1r8
        case m1h8 => (intro w hSw; (try dsimp only at hSw); go_simp; try with_reducible rfl)
        try simp only [Act.put, List.getElem_toArray, List.getElem_cons_succ, List.getElem_cons_zero, List.setIfInBounds_toArray, List.set_cons_zero, List.set_cons_succ]
        refine wpAnyH_take (i := 9) (oi := _) (v := ?m1v9) rfl (by kernel_rfl) (by kernel_rfl) (by kernel_rfl) (fun _ _ _ h => h) (Or.inl ⟨by kernel_rfl, ?m1h9⟩) hHeld ?m1r9
        case m1h9 => (intro w hSw; (try dsimp only at hSw); go_simp; try with_reducible rfl)
        try simp only [Act.put, List.getElem_toArray, List.getElem_cons_succ, List.getElem_cons_zero, List.setIfInBounds_toArray, List.set_cons_zero, List.set_cons_succ]
        refine wpAnyH_take (i := 10) (oi := _) (v := ?m1v10) rfl (by kernel_rfl) (by kernel_rfl) (by kernel_rfl) (fun _ _ _ h => h) (Or.inl ⟨by kernel_rfl, ?m1h10⟩) hHeld ?m1r10
        case m1h10 => (intro w hSw; (try dsimp only at hSw); go_simp; try with_reducible rfl)
        try simp only [Act.put, List.getElem_toArray, List.getElem_cons_succ, List.getElem_cons_zero, List.setIfInBounds_toArray, List.set_cons_zero, List.set_cons_succ]
        refine wpAnyH_take (i := 11) (oi := _) (v := undef) rfl (by kernel_rfl) (by kernel_rfl) (by kernel_rfl) (fun _ _ _ h => h) (Or.inr ⟨by kernel_rfl, rfl⟩) hHeld ?_
        try simp only [Act.put, List.getElem_toArray, List.getElem_cons_succ, List.getElem_cons_zero, List.setIfInBounds_toArray, List.set_cons_zero, List.set_cons_succ]
        refine wpAnyH_take (i := 12) (oi := _) (v := undef) rfl (by kernel_rfl) (by kernel_rfl) (by kernel_rfl) (fun _ _ _ h => h) (Or.inr ⟨by kernel_rfl, rfl⟩) hHeld ?_
        try simp only [Act.put, List.getElem_toArray, List.getElem_cons_succ, List.getElem_cons_zero, List.setIfInBounds_toArray, List.set_cons_zero, List.set_cons_succ]
        refine wpAnyH_take (i := 13) (oi := _) (v := undef) rfl (by kernel_rfl) (by kernel_rfl) (by kernel_rfl) (fun _ _ _ h => h) (Or.inr ⟨by kernel_rfl, rfl⟩) hHeld ?_
        try simp only [Act.put, List.getElem_toArray, List.getElem_cons_succ, List.getElem_cons_zero, List.setIfInBounds_toArray, List.set_cons_zero, List.set_cons_succ]
        refine wpAnyH_take (i := 14) (oi := _) (v := undef) rfl (by kernel_rfl) (by kernel_rfl) (by kernel_rfl) (fun _ _ _ h => h) (Or.inr ⟨by kernel_rfl, rfl⟩) hHeld ?_
        try simp only [Act.put, List.getElem_toArray, List.getElem_cons_succ, List.getElem_cons_zero, List.setIfInBounds_toArray, List.set_cons_zero, List.set_cons_succ]
        refine wpAnyH_take (i := 15) (oi := _) (v := undef) rfl (by kernel_rfl) (by kernel_rfl) (by kernel_rfl) (fun _ _ _ h => h) (Or.inr ⟨by kernel_rfl, rfl⟩) hHeld ?_
        try simp only [Act.put, List.getElem_toArray, List.getElem_cons_succ, List.getElem_cons_zero, List.setIfInBounds_toArray, List.set_cons_zero, List.set_cons_succ]
        refine wpAnyH_take (i := 16) (oi := _) (v := undef) rfl (by kernel_rfl) (by kernel_rfl) (by kernel_rfl) (fun _ _ _ h => h) (Or.inr ⟨by kernel_rfl, rfl⟩) hHeld ?_
        try simp only [Act.put, List.getElem_toArray, List.getElem_cons_succ, List.getElem_cons_zero, List.setIfInBounds_toArray, List.set_cons_zero, List.set_cons_succ]
        refine wpAnyH_take (i := 17) (oi := _) (v := undef) rfl (by kernel_rfl) (by kernel_rfl) (by kernel_rfl) (fun _ _ _ h => h) (Or.inr ⟨by kernel_rfl, rfl⟩) hHeld ?_
        try simp only [Act.put, List.getElem_toArray, List.getElem_cons_succ, List.getElem_cons_zero, List.setIfInBounds_toArray, List.set_cons_zero, List.set_cons_succ]
        refine wpAnyH_take (i := 18) (oi := _) (v := undef) rfl (by kernel_rfl) (by kernel_rfl) (by kernel_rfl) (fun _ _ _ h => h) (Or.inr ⟨by kernel_rfl, rfl⟩) hHeld ?_
        try simp only [Act.put, List.getElem_toArray, List.getElem_cons_succ, List.getElem_cons_zero, List.setIfInBounds_toArray, List.set_cons_zero, List.set_cons_succ]
        refine wpAnyH_take (i := 19) (oi := _) (v := undef) rfl (by kernel_rfl) (by kernel_rfl) (by kernel_rfl) (fun _ _ _ h => h) (Or.inr ⟨by kernel_rfl, rfl⟩) hHeld ?_
        try simp only [Act.put, List.getElem_toArray, List.getElem_cons_succ, List.getElem_cons_zero, List.setIfInBounds_toArray, List.set_cons_zero, List.set_cons_succ]
        refine wpAnyH_take (i := 20) (oi := _) (v := undef) rfl (by kernel_rfl) (by kernel_rfl) (by kernel_rfl) (fun _ _ _ h => h) (Or.inr ⟨by kernel_rfl, rfl⟩) hHeld ?_
        try simp only [Act.put, List.getElem_toArray, List.getElem_cons_succ, List.getElem_cons_zero, List.setIfInBounds_toArray, List.set_cons_zero, List.set_cons_succ]
        refine wpAnyH_take (i := 21) (oi := _) (v := undef) rfl (by kernel_rfl) (by kernel_rfl) (by kernel_rfl) (fun _ _ _ h => h) (Or.inr ⟨by kernel_rfl, rfl⟩) hHeld ?_
        try simp only [Act.put, List.getElem_toArray, List.getElem_cons_succ, List.getElem_cons_zero, List.setIfInBounds_toArray, List.set_cons_zero, List.set_cons_succ]
        refine wpAnyH_take (i := 22) (oi := _) (v := ?m1v22) rfl (by kernel_rfl) (by kernel_rfl) (by kernel_rfl) (fun _ _ _ h => h) (Or.inl ⟨by kernel_rfl, ?m1h22⟩) hHeld ?m1r22
        case m1h22 => (intro w hSw; (try dsimp only at hSw); go_simp; try with_reducible rfl)
        try simp only [Act.put, List.getElem_toArray, List.getElem_cons_succ, List.getElem_cons_zero, List.setIfInBounds_toArray, List.set_cons_zero, List.set_cons_succ]
        refine wpAnyH_done (by kernel_rfl) ?_ _
        have hk5 := (keeps_drew w4).trans' hKK
        have hr5 := hk5.at K4.out.2.2.2 (fun e => e)
        have hs5 := hk5.at K4.out.2.2.1 (fun e => e)
        have c0 := (row3 hr5).1
        have c1 := (row3 hr5).2.1
        have c2 := (row3 hr5).2.2
        have f0 := frz hr5 0
        have f1 := frz hr5 1
        have f2 := frz hr5 2
        have K5 := Lib.hid (And.intro (K4.out.1.trans' hk5) (And.intro hs5 hr5))
        have g0 := (row3 hs5).1
        have g1 := (row3 hs5).2.1
        have g2 := (row3 hs5).2.2
        clear hk5 hr5 hs5 hKK x0 x1 d0
        go_wp2_with fail
        refine bodyPost_ret (results_row_tmp rfl rfl (setRow3 K5.out.2.2) Tryz.underlying61 rfl (by kernel_rfl)) rfl ?_
        have hbf : b = false := by rw [HG.out.1]; simp [HI.out, HJ.out]
        refine ⟨by rw [hbf, HG.out.2.2 hbf]; rfl, keepsRow3 K5.out.1 (by rw [HN.out]; exact Nat.le_succ _) _ _ _⟩
      | true =>
        have HJ := Lib.hid hj
        clear hj
        have q1 := HF.out.1
        have q2 := HF.out.2
        by_cases hlast : f y2 = f off
        · have tst := (same_u64 hlast).1
          have HE := Lib.hid hlast
          clear hlast
          go_enter Tryz.func152, Tryz.ntmps152
          go_wp2_with fail
          rw [← HW0.out, ← HN.out]
          refine (rIn_any (H.out.keeps K0.out.1) off 0 _ _ rfl (by rfl)).mono ?_
          rintro e w1 ⟨rfl, k1⟩
          rw [HI0.out]
          have hx1 := k1.at K0.out.2.1 (fun e => e)
          have hr1 := k1.at K0.out.2.2 (fun e => e)
          obtain ⟨x0, x1⟩ := row2 hx1
          obtain ⟨c0, c1, c2⟩ := row3 hr1
          have f0 := frz hr1 0
          have f1 := frz hr1 1
          have f2 := frz hr1 2
          have K1 := Lib.hid (And.intro (K0.out.1.trans' k1) (And.intro hx1 hr1))
          clear k1 hx1 hr1
          go_wp2_with fail
          refine (H.out.load w1 K1.out.1 off _ rfl).mono ?_
          rintro e w2 ⟨rfl, k2⟩
          have K2 := Lib.hid k2
          clear k2
          go_wp2_with fail
          refine (rUnpack_any w2 (f off)).mono ?_
          rintro e w3 ⟨rfl, k3⟩
          rw [HUU.out, TagV.cells_def, HI.out]
          obtain ⟨w4, hw4⟩ : ∃ w4, w4 = w3.alloc (.cells #[.int .u64 (s.toNat : Int), .bool u, .int .i64 o] 61) := ⟨_, rfl⟩
          have hk4 : Keeps Nil w1 w4 := by rw [hw4]; exact (K2.out.trans' k3).alloc _
          have hs4 : w4.heap[w3.heap.size]? = some (.cells #[.int .u64 (s.toNat : Int), .bool u, .int .i64 o] 61 (0, 0)) := by rw [hw4]; exact heap_new w3 _
          have hx4 := hk4.at K1.out.2.1 (fun e => e)
          have hr4 := hk4.at K1.out.2.2 (fun e => e)
          clear x0 x1 c0 c1 c2 f0 f1 f2
          have x0 : w4.drew.cell? ⟨n, 0, none⟩ = some A := (row2 hx4).1
          have x1 : w4.drew.cell? ⟨n, 1, none⟩ = some B := (row2 hx4).2
          have d0 : w4.drew.cell? ⟨w3.heap.size, 0, none⟩ = some (.int .u64 (s.toNat : Int)) := (row3 hs4).1
          have K4 := Lib.hid (And.intro (K1.out.1.trans' hk4) (And.intro hx4 (And.intro hs4 hr4)))
          have hl1 : n < w4.drew.heap.size := getElem?_lt hx4
          have hl2 : w3.heap.size < w4.drew.heap.size := getElem?_lt hs4
          have HW4 := Lib.hid hw4
          clear k3 hw4 hk4 hs4 hx4 hr4
          have hKK : Keeps Nil w4.drew w4.drew := Keeps.refl _ _
          go_wp2_with fail
          rw [← HW4.out]
          go_region_held3 (fun w' => w'.cell? ⟨n, 0, none⟩ = some A ∧ w'.cell? ⟨n, 1, none⟩ = some B ∧ w'.cell? ⟨w3.heap.size, 0, none⟩ = some (.int .u64 (s.toNat : Int)))
            (first | exact ⟨x0, x1, d0⟩ | exact ⟨y0, y1, e0⟩ | go_keep)
            (first
              | (go_at_call 180; refine (rIn_any (H.out.keeps ((K4.out.1.trans' (keeps_drew _)).trans' hKK)) off s _ _ rfl rfl).mono ?_; rintro e w' ⟨rfl, kn⟩; rw [HJ.out]; have hKK := hKK.trans' kn; have y0 := (hKK.cell hl1 (fun e => e) 0).trans x0; have y1 := (hKK.cell hl1 (fun e => e) 1).trans x1; have e0 := (hKK.cell hl2 (fun e => e) 0).trans d0)
              | (go_at_call 115; refine (H.out.load _ ((K4.out.1.trans' (keeps_drew _)).trans' hKK) _ _ rfl).mono ?_; rintro e w' ⟨rfl, kn⟩; have hKK := hKK.trans' kn; have y0 := (hKK.cell hl1 (fun e => e) 0).trans x0; have y1 := (hKK.cell hl1 (fun e => e) 1).trans x1; have e0 := (hKK.cell hl2 (fun e => e) 0).trans d0))
          have hk5 := (keeps_drew w4).trans' hKK
          have hr5 := hk5.at K4.out.2.2.2 (fun e => e)
          have hs5 := hk5.at K4.out.2.2.1 (fun e => e)
          have c0 := (row3 hr5).1
          have c1 := (row3 hr5).2.1
          have c2 := (row3 hr5).2.2
          have f0 := frz hr5 0
          have f1 := frz hr5 1
          have f2 := frz hr5 2
          have K5 := Lib.hid (And.intro (K4.out.1.trans' hk5) (And.intro hs5 hr5))
          have g0 := (row3 hs5).1
          have g1 := (row3 hs5).2.1
          have g2 := (row3 hs5).2.2
          clear hk5 hr5 hs5 hKK x0 x1 d0
          go_wp2_with fail
          refine bodyPost_ret (results_row_tmp rfl rfl (setRow3 K5.out.2.2) Tryz.underlying61 rfl (by kernel_rfl)) rfl ?_
          have hbf : b = true := by rw [HG.out.1]; simp [HI.out, HJ.out, HE.out]
          refine ⟨by rw [hbf, HG.out.2.1 hbf]; rfl, keepsRow3 K5.out.1 (by rw [HN.out]; exact Nat.le_succ _) _ _ _⟩
        · have tst := (unlike_u64 hlast).1
          have HE := Lib.hid hlast
          clear hlast
          go_enter Tryz.func152, Tryz.ntmps152
          go_wp2_with fail
          rw [← HW0.out, ← HN.out]
          refine (rIn_any (H.out.keeps K0.out.1) off 0 _ _ rfl (by rfl)).mono ?_
          rintro e w1 ⟨rfl, k1⟩
          rw [HI0.out]
          have hx1 := k1.at K0.out.2.1 (fun e => e)
          have hr1 := k1.at K0.out.2.2 (fun e => e)
          obtain ⟨x0, x1⟩ := row2 hx1
          obtain ⟨c0, c1, c2⟩ := row3 hr1
          have f0 := frz hr1 0
          have f1 := frz hr1 1
          have f2 := frz hr1 2
          have K1 := Lib.hid (And.intro (K0.out.1.trans' k1) (And.intro hx1 hr1))
          clear k1 hx1 hr1
          go_wp2_with fail
          refine (H.out.load w1 K1.out.1 off _ rfl).mono ?_
          rintro e w2 ⟨rfl, k2⟩
          have K2 := Lib.hid k2
          clear k2
          go_wp2_with fail
          refine (rUnpack_any w2 (f off)).mono ?_
          rintro e w3 ⟨rfl, k3⟩
          rw [HUU.out, TagV.cells_def, HI.out]
          obtain ⟨w4, hw4⟩ : ∃ w4, w4 = w3.alloc (.cells #[.int .u64 (s.toNat : Int), .bool u, .int .i64 o] 61) := ⟨_, rfl⟩
          have hk4 : Keeps Nil w1 w4 := by rw [hw4]; exact (K2.out.trans' k3).alloc _
          have hs4 : w4.heap[w3.heap.size]? = some (.cells #[.int .u64 (s.toNat : Int), .bool u, .int .i64 o] 61 (0, 0)) := by rw [hw4]; exact heap_new w3 _
          have hx4 := hk4.at K1.out.2.1 (fun e => e)
          have hr4 := hk4.at K1.out.2.2 (fun e => e)
          clear x0 x1 c0 c1 c2 f0 f1 f2
          have x0 : w4.drew.cell? ⟨n, 0, none⟩ = some A := (row2 hx4).1
          have x1 : w4.drew.cell? ⟨n, 1, none⟩ = some B := (row2 hx4).2
          have d0 : w4.drew.cell? ⟨w3.heap.size, 0, none⟩ = some (.int .u64 (s.toNat : Int)) := (row3 hs4).1
          have K4 := Lib.hid (And.intro (K1.out.1.trans' hk4) (And.intro hx4 (And.intro hs4 hr4)))
          have hl1 : n < w4.drew.heap.size := getElem?_lt hx4
          have hl2 : w3.heap.size < w4.drew.heap.size := getElem?_lt hs4
          have HW4 := Lib.hid hw4
          clear k3 hw4 hk4 hs4 hx4 hr4
          have hKK : Keeps Nil w4.drew w4.drew := Keeps.refl _ _
          go_wp2_with fail
          rw [← HW4.out]
          go_region_held3 (fun w' => w'.cell? ⟨n, 0, none⟩ = some A ∧ w'.cell? ⟨n, 1, none⟩ = some B ∧ w'.cell? ⟨w3.heap.size, 0, none⟩ = some (.int .u64 (s.toNat : Int)))
            (first | exact ⟨x0, x1, d0⟩ | exact ⟨y0, y1, e0⟩ | go_keep)
            (first
              | (go_at_call 180; refine (rIn_any (H.out.keeps ((K4.out.1.trans' (keeps_drew _)).trans' hKK)) off s _ _ rfl rfl).mono ?_; rintro e w' ⟨rfl, kn⟩; rw [HJ.out]; have hKK := hKK.trans' kn; have y0 := (hKK.cell hl1 (fun e => e) 0).trans x0; have y1 := (hKK.cell hl1 (fun e => e) 1).trans x1; have e0 := (hKK.cell hl2 (fun e => e) 0).trans d0)
              | (go_at_call 115; refine (H.out.load _ ((K4.out.1.trans' (keeps_drew _)).trans' hKK) _ _ rfl).mono ?_; rintro e w' ⟨rfl, kn⟩; have hKK := hKK.trans' kn; have y0 := (hKK.cell hl1 (fun e => e) 0).trans x0; have y1 := (hKK.cell hl1 (fun e => e) 1).trans x1; have e0 := (hKK.cell hl2 (fun e => e) 0).trans d0))
          have hk5 := (keeps_drew w4).trans' hKK
          have hr5 := hk5.at K4.out.2.2.2 (fun e => e)
          have hs5 := hk5.at K4.out.2.2.1 (fun e => e)
          have c0 := (row3 hr5).1
          have c1 := (row3 hr5).2.1
          have c2 := (row3 hr5).2.2
          have f0 := frz hr5 0
          have f1 := frz hr5 1
          have f2 := frz hr5 2
          have K5 := Lib.hid (And.intro (K4.out.1.trans' hk5) (And.intro hs5 hr5))
          have g0 := (row3 hs5).1
          have g1 := (row3 hs5).2.1
          have g2 := (row3 hs5).2.2
          clear hk5 hr5 hs5 hKK x0 x1 d0
          go_wp2_with fail
          refine bodyPost_ret (results_row_tmp rfl rfl (setRow3 K5.out.2.2) Tryz.underlying61 rfl (by kernel_rfl)) rfl ?_
          have hbf : b = false := by rw [HG.out.1]; simp [HI.out, HJ.out, HE.out]
          refine ⟨by rw [hbf, HG.out.2.2 hbf]; rfl, keepsRow3 K5.out.1 (by rw [HN.out]; exact Nat.le_succ _) _ _ _⟩
end Go.Proofs.YtefpbljekfkefaaGreat

/- tag.Write. -/
namespace Go.Proofs.YtefpbljekfkefaaGreat
open Go.RowKit

def writeP (ws : List UInt64) (l : List Put) (off : UInt64) (g : TagV) : List Put :=
  if writeB (txLoad ws l) off g then txStore ws (txStore ws l off (packU g)) (off + g.size - 8) (packU g) else l
theorem writeP_yes {ws : List UInt64} {l : List Put} {off : UInt64} {g : TagV} (h : writeB (txLoad ws l) off g = true) : writeP ws l off g = txStore ws (txStore ws l off (packU g)) (off + g.size - 8) (packU g) := if_pos h
theorem writeP_no {ws : List UInt64} {l : List Put} {off : UInt64} {g : TagV} (h : writeB (txLoad ws l) off g = false) : writeP ws l off g = l := if_neg (by rw [h]; decide)
theorem writeP_length (ws : List UInt64) (l : List Put) (off : UInt64) (g : TagV) : (writeP ws l off g).length ≤ l.length + 2 := by
  unfold writeP
  split
  · have := txStore_length ws (txStore ws l off (packU g)) (off + g.size - 8) (packU g)
    have := txStore_length ws l off (packU g)
    omega
  · omega

/-- A new block beside. -/
theorem Live.box {w0 w : World} {s t : Nat} {l : List Put} {ws : List UInt64} {R : World → (Nat → Prop) → Prop} (h : Live w0 w s t l ws R) (hR : Stable R) (c : Array Value) (T : TypeId) :
    Live w0 (w.alloc (.cells c T)) s t l ws (fun w' S => R w' S ∧ Still w.heap.size c T w' S) := by
  obtain ⟨S, h1, h2, h3, h4⟩ := h
  have k : Keeps Nil w (w.alloc (.cells c T)) := (Keeps.refl Nil w).alloc _
  exact ⟨S, h1.keeps_nil k, h2, h3.trans' k, hR S S _ _ (Step.of_nil k) h4, heap_new w _, fun e => by have := h1.lt e; omega⟩
theorem Live.still {w0 w : World} {s t n : Nat} {l : List Put} {ws : List UInt64} {R : World → (Nat → Prop) → Prop} {c : Array Value} {T : TypeId} (h : Live w0 w s t l ws (fun w' S => R w' S ∧ Still n c T w' S)) : w.heap[n]? = some (.cells c T (0, 0)) := by
  obtain ⟨S, h1, h2, h3, h4⟩ := h
  exact h4.2.1
theorem Live.drop {w0 w : World} {s t : Nat} {l : List Put} {ws : List UInt64} {R R' : World → (Nat → Prop) → Prop} (h : Live w0 w s t l ws (fun w' S => R w' S ∧ R' w' S)) : Live w0 w s t l ws R := h.reads (fun _ _ r => r.1)

set_option maxRecDepth 100000 in
set_option maxHeartbeats 4000000 in
theorem Live.tagWrite {w0 w : World} {s t : Nat} {l : List Put} {ws : List UInt64} {R : World → (Nat → Prop) → Prop} (h : Live w0 w s t l ws R) (hR : Stable R) (off : UInt64) (g : TagV) (hlen : l.length < 4294967290) (x : Int) (hx : x = (off.toNat : Int)) :
    Calls Tryz.prog 83 #[.pointer (some ⟨t, 0, none⟩), .int .u64 x, .agg g.cells] w fun e w' => e = .returned (.int .i64 (codeOf (writeB (txLoad ws l) off g))) ∧ Live w0 w' s t (writeP ws l off g) ws R := by
  subst hx
  obtain ⟨sz, u, o⟩ := g
  obtain ⟨b, hb⟩ : ∃ b, b = writeB (txLoad ws l) off ⟨sz, u, o⟩ := ⟨_, rfl⟩
  obtain ⟨P, hP⟩ : ∃ P, P = writeP ws l off ⟨sz, u, o⟩ := ⟨_, rfl⟩
  have hbb : b = (mayT ⟨sz, u, o⟩ && inT (txLoad ws l 16) off sz) := hb
  have hpy : b = true → P = txStore ws (txStore ws l off (packU ⟨sz, u, o⟩)) (off + sz - 8) (packU ⟨sz, u, o⟩) := fun h => by rw [hP]; exact writeP_yes (by rw [← hb]; exact h)
  have hpn : b = false → P = l := fun h => by rw [hP]; exact writeP_no (by rw [← hb]; exact h)
  rw [← hb, ← hP, TagV.cells_def]
  obtain ⟨B, hB⟩ : ∃ B, B = w.heap.size := ⟨_, rfl⟩
  obtain ⟨w1, hw1⟩ : ∃ w1, w1 = w.alloc (.cells #[.int .u64 (sz.toNat : Int), .bool u, .int .i64 o] 35) := ⟨_, rfl⟩
  have L1 := h.box hR #[.int .u64 (sz.toNat : Int), .bool u, .int .i64 o] 35
  rw [← hw1, ← hB] at L1
  have hS : Stable (fun w' S => R w' S ∧ Still B #[.int .u64 (sz.toNat : Int), .bool u, .int .i64 o] 35 w' S) := hR.and (Stable.still _ _ _)
  obtain ⟨y1, hy1⟩ : ∃ y, y = off + sz := ⟨_, rfl⟩
  obtain ⟨y2, hy2⟩ : ∃ y, y = off + sz - 8 := ⟨_, rfl⟩
  have q1 := add_eq off sz
  have q2 := sub8_eq (off + sz)
  rw [← hy1] at q1 q2
  rw [← hy1] at hy2
  rw [← hy2] at q2
  rw [← hy1, ← hy2] at hpy
  have HQ := Lib.hid (And.intro q1 q2)
  have HP := Lib.hid (And.intro hbb (And.intro hpy hpn))
  obtain ⟨w2, hw2⟩ : ∃ w2, w2 = w1.alloc (.cells #[.int .u64 (sz.toNat : Int), .bool u, .int .i64 o] 35) := ⟨_, rfl⟩
  have hk2 : Keeps Nil w1 w2 := by rw [hw2]; exact (Keeps.refl Nil w1).alloc _
  have b1 := L1.still
  have b2 := hk2.at b1 (fun e => e)
  have L2 := L1.quiet hS hk2
  obtain ⟨d0, d1, d2⟩ := row3 b1
  obtain ⟨e0, e1, e2⟩ := row3 b2
  have HW := Lib.hid (And.intro hw1 (And.intro hB hw2))
  have H2 := Lib.hid (And.intro L2 (And.intro hS hlen))
  have HM := Lib.hid (May_any w1 ⟨sz, u, o⟩)
  rw [TagV.cells_def, ← hw2] at HM
  clear h hb hP hbb hpy hpn hw1 L1 hB hS q1 q2 hy1 hy2 hw2 hk2 b1 b2 L2 hlen
  cases hm : mayT ⟨sz, u, o⟩ with
  | false =>
    have HMM := Lib.hid hm
    clear hm
    go_enter Tryz.func83, Tryz.ntmps83
    go_wp2_with fail
    rw [← HW.out.1, ← HW.out.2.1]
    refine HM.out.mono ?_
    rintro e w' ⟨rfl, rfl⟩
    rw [HMM.out]
    go_wp2_with fail
    go_ret
    have hbf : b = false := by rw [HP.out.1, HMM.out]; rfl
    exact ⟨by rw [hbf]; rfl, by rw [HP.out.2.2 hbf]; exact H2.out.1.drop⟩
  | true =>
    have HMM := Lib.hid hm
    clear hm
    cases hn : inT (txLoad ws l 16) off sz with
    | false =>
      have HN := Lib.hid hn
      clear hn
      go_enter Tryz.func83, Tryz.ntmps83
      go_wp2_with fail
      rw [← HW.out.1, ← HW.out.2.1]
      refine HM.out.mono ?_
      rintro e w' ⟨rfl, rfl⟩
      rw [HMM.out]
      go_wp2_with fail
      refine (in_any H2.out.1.tells off sz _ _ rfl rfl).mono ?_
      rintro e w3 ⟨rfl, k3⟩
      rw [HN.out]
      have H3 := Lib.hid (H2.out.1.quiet H2.out.2.1 k3)
      clear k3
      go_wp2_with fail
      go_ret
      have hbf : b = false := by rw [HP.out.1, HMM.out, HN.out]; rfl
      exact ⟨by rw [hbf]; rfl, by rw [HP.out.2.2 hbf]; exact H3.out.drop⟩
    | true =>
      have HN := Lib.hid hn
      clear hn
      have q1 := HQ.out.1
      have q2 := HQ.out.2
      go_enter Tryz.func83, Tryz.ntmps83
      go_wp2_with fail
      rw [← HW.out.1, ← HW.out.2.1]
      refine HM.out.mono ?_
      rintro e w' ⟨rfl, rfl⟩
      rw [HMM.out]
      go_wp2_with fail
      refine (in_any H2.out.1.tells off sz _ _ rfl rfl).mono ?_
      rintro e w3 ⟨rfl, k3⟩
      rw [HN.out]
      have L3 := H2.out.1.quiet H2.out.2.1 k3
      clear d0 d1 d2 e0 e1 e2
      obtain ⟨d0, d1, d2⟩ := row3 L3.still
      have H3 := Lib.hid L3
      clear k3 L3
      go_wp2_with fail
      refine (Pack_any _ ⟨sz, u, o⟩).mono ?_
      rintro e w4 ⟨rfl, k4⟩
      have H4 := Lib.hid (H3.out.quiet H2.out.2.1 k4)
      clear k4
      go_wp2_with fail
      refine (H4.out.store H2.out.2.1 off (packU ⟨sz, u, o⟩) (by have := H2.out.2.2; omega) _ _ rfl rfl).mono ?_
      rintro e w5 ⟨rfl, L5⟩
      have hb5 := L5.still
      clear d0 d1 d2
      have d0 : w5.drew.cell? ⟨B, 0, none⟩ = some (.int .u64 (sz.toNat : Int)) := (row3 hb5).1
      have d1 : w5.drew.cell? ⟨B, 1, none⟩ = some (.bool u) := (row3 hb5).2.1
      have d2 : w5.drew.cell? ⟨B, 2, none⟩ = some (.int .i64 o) := (row3 hb5).2.2
      have hbl : B < w5.drew.heap.size := getElem?_lt hb5
      have H5 := Lib.hid (L5.quiet H2.out.2.1 (keeps_drew _))
      have hl5 := txStore_length ws l off (packU ⟨sz, u, o⟩)
      have HL5 := Lib.hid hl5
      clear L5 hb5 hl5
      have hK : Keeps Nil w5.drew w5.drew := Keeps.refl _ _
      go_wp2_with fail
      go_region_held3 (fun w' => w'.cell? ⟨B, 0, none⟩ = some (.int .u64 (sz.toNat : Int)) ∧ w'.cell? ⟨B, 1, none⟩ = some (.bool u) ∧ w'.cell? ⟨B, 2, none⟩ = some (.int .i64 o))
        (first | exact ⟨d0, d1, d2⟩ | exact ⟨g0, g1, g2⟩ | exact ⟨h0, h1, h2⟩ | go_keep)
        (first
          | (go_at_call 138; refine (Pack_any _ ⟨sz, u, o⟩).mono ?_; rintro e w' ⟨rfl, kn⟩; have hK := hK.trans' kn; have g0 := (hK.cell hbl (fun e => e) 0).trans d0; have g1 := (hK.cell hbl (fun e => e) 1).trans d1; have g2 := (hK.cell hbl (fun e => e) 2).trans d2)
          | (go_at_call 36; refine ((H5.out.quiet H2.out.2.1 hK).store H2.out.2.1 y2 (packU ⟨sz, u, o⟩) (by have := H2.out.2.2; have := HL5.out; omega) _ _ rfl rfl).mono ?_; rintro e w' ⟨rfl, L6⟩; have hb6 := L6.still; have h0 := (row3 hb6).1; have h1 := (row3 hb6).2.1; have h2 := (row3 hb6).2.2; have H6 := Lib.hid L6; clear L6 hb6))
      clear d0 d1 d2 g0 g1 g2 h0 h1 h2 hK
      go_wp2_with fail
      go_ret
      have hbf : b = true := by rw [HP.out.1, HMM.out, HN.out]; rfl
      exact ⟨by rw [hbf]; rfl, by rw [HP.out.2.1 hbf]; exact H6.out.drop⟩
end Go.Proofs.YtefpbljekfkefaaGreat

/- A Tx over a new segment, with what is read beside it; the document's formatted words. -/
namespace Go.Proofs.YtefpbljekfkefaaGreat
open Go.RowKit

theorem SegAt.liveR {w0 w : World} {p q : Nat} {ws : List UInt64} (hs : SegAt w p q ws) (hK : Keeps Nil w0 w) (hp : w0.heap.size ≤ p) (hq : w0.heap.size ≤ q) {R : World → (Nat → Prop) → Prop} (hR : Stable R) (h0 : R w (fun k => k = p ∨ k = q)) :
    Calls Tryz.prog 130 #[.pointer (some ⟨p, 0, none⟩)] w fun e w' => ∃ t, e = .returned (.pointer (some ⟨t, 0, none⟩)) ∧ Live w0 w' p t [] ws R := by
  refine (Mem.new hs).mono ?_
  rintro e w' ⟨t, S', rfl, h1, h2, h3, h4⟩
  have := hK.size
  exact ⟨t, rfl, S', h1, fun k hk => by rcases h3 k hk with rfl | rfl | e <;> omega, hK.trans' h2, hR _ S' w w' ⟨h2.of_nil, fun k hk => by rcases h3 k hk with rfl | rfl | e; exact .inl (.inl rfl); exact .inl (.inr rfl); exact .inr e⟩ h0⟩
theorem rFormat_4800 (w : World) (size : UInt64) (y : Int) (hy : y = (size.toNat : Int)) :
    Calls Tryz.prog 129 #[.int .u64 4800, .int .u64 y] w fun e w' => ∃ v, e = .returned (.tuple #[v, .int .i64 (formE size)]) ∧ Own kU w' w.heap.size v (formW size) ∧ Keeps Nil w w' := by
  cases hf : fitsN size 4800 with
  | true =>
    refine (rFormat_yes w 4800 size mayB_4800 hf 4800 y (by rfl) hy).mono ?_
    rintro e w' ⟨v, rfl, ho, k⟩
    have ho' : Own kU w' w.heap.size v (fmtR 600 size) := ho
    exact ⟨v, by rw [formE_yes hf], by rw [formW_yes hf, fmt_same (n := 600) hf]; exact ho', k⟩
  | false =>
    refine (rFormat_odd w 4800 size mayB_4800 hf 4800 y (by rfl) hy).mono ?_
    rintro e w' ⟨v, rfl, ho, k⟩
    exact ⟨v, by rw [formE_no hf], by rw [formW_no hf]; exact ho, k⟩
theorem take_cap {α : Type} (l : List α) (k c : Nat) (hk : k ≤ l.length) (hc : k ≤ c) (h : ¬ (k < l.length ∧ k < c)) : l.take k = l.take c := by
  by_cases e : k = c
  · rw [e]
  · have : k = l.length := by omega
    rw [List.take_of_length_le (by omega), List.take_of_length_le (by omega)]
end Go.Proofs.YtefpbljekfkefaaGreat
