/- carracklaw05.TagReads, TagTells. -/
import Derived.Test.YtccllkgaakmdhaaL5
namespace Go.Proofs.Ytccllkgaakmdhaa
open Go.RowKit

theorem May_k (w : World) (g : TagV) : Calls Try.prog 63 #[.agg g.cells] w fun e w' => e = .returned (.bool (mayT g)) ∧ Keeps Nil w w' := (May_any w g).mono fun _ _ ⟨h1, h2⟩ => ⟨h1, by rw [h2]; exact (Keeps.refl Nil _).alloc _⟩
theorem rMay_k (w : World) (g : TagV) : Calls Try.prog 65 #[.agg g.cells] w fun e w' => e = .returned (.bool (mayT g)) ∧ Keeps Nil w w' := (rMay5_any w g).mono fun _ _ ⟨h1, h2⟩ => ⟨h1, by rw [h2]; exact (Keeps.refl Nil _).alloc _⟩
theorem tag_self (s : UInt64) (u : Bool) (o : Int) (w : World) : (binOp .eql 70 (.agg #[.int .u64 (s.toNat : Int), .bool u, .int .i64 o]) (.agg #[.int .u64 (s.toNat : Int), .bool u, .int .i64 o])).run Try.prog w = .ok (.bool true) w := by
  rw [tag_eql]; simp
theorem cells_at {w w' : World} {m : Nat} {a b c : Value} {T : TypeId} (h : w.heap[m]? = some (.cells #[a, b, c] T (0, 0))) (k : Keeps Nil w w') : w'.cell? ⟨m, 0, none⟩ = some a ∧ w'.cell? ⟨m, 1, none⟩ = some b ∧ w'.cell? ⟨m, 2, none⟩ = some c := row3 (k.at h (fun e => e))

set_option maxRecDepth 100000 in
set_option maxHeartbeats 4000000 in
theorem treads_any {w : World} {vl : Value} {l : List Put} (size off : UInt64) (h : Look kP w vl l) : Calls Try.prog 16 #[.int .u64 (size.toNat : Int), vl, .int .u64 (off.toNat : Int)] w fun e w' => e = .returned (.bool true) ∧ Keeps Nil w w' := by
  obtain ⟨f, hf⟩ : ∃ f, f = txLoad (formW size) (thP (formW size) (l.take 60)) := ⟨_, rfl⟩
  obtain ⟨s, u, o, hg⟩ : ∃ s u o, readT f off = ⟨s, u, o⟩ := ⟨_, _, _, rfl⟩
  obtain ⟨c, hc⟩ : ∃ c, c = codeOf (readB f off) := ⟨_, rfl⟩
  have q := tag_self s u o
  have hgd := tag_gd
  have HG := Lib.hid (And.intro hg (And.intro hc hf))
  have H := Lib.hid h
  obtain ⟨al, lcap, rfl, hlm⟩ := h.val
  clear hg hc hf h hlm
  go_enter Try.func16, Try.ntmps16
  go_wp2_with fail
  refine (awake5 _).mono ?_
  rintro e w1 ⟨rfl, k1⟩
  have H1 := Lib.hid k1
  clear k1
  go_wp2_with fail
  refine (formed05' size (H.out.keeps_nil H1.out) _ rfl).mono ?_
  rintro e w2 ⟨sg, t, ab, ao, ac, a2, n2, cc2, rfl, L⟩
  obtain ⟨w3, hw3⟩ : ∃ w3, w3 = w2.alloc (.cells #[.slice (some ⟨ab, ao, none⟩) 600 ac, .slice a2 n2 cc2] 28) := ⟨_, rfl⟩
  have k3 : Keeps Nil w2 w3 := by rw [hw3]; exact (Keeps.refl Nil _).alloc _
  have b3 : w3.heap[w2.heap.size]? = some (.cells #[.slice (some ⟨ab, ao, none⟩) 600 ac, .slice a2 n2 cc2] 28 (0, 0)) := by rw [hw3]; exact heap_new _ _
  have L3 := L.quiet (Stable.txv _ _ _ _) k3
  have T3 : Reads (.pointer (some ⟨t, 0, none⟩)) f 4800 w3 := by have := L3.tells; rw [formW_length] at this; rw [HG.out.2.2]; exact this
  have X3 : RReads (.agg #[.slice (some ⟨ab, ao, none⟩) 600 ac, .slice a2 n2 cc2]) f w3 := by
    obtain ⟨S, _, _, _, r⟩ := L3
    rw [HG.out.2.2]; exact r.rreads
  have H3 := Lib.hid (And.intro T3 (And.intro X3 (And.intro b3 (H1.out.trans' L3.keeps))))
  have HW3 := Lib.hid hw3
  clear L k3 b3 L3 T3 X3 hw3
  go_wp2_with fail
  rw [← HW3.out]
  refine (Read_any H3.out.1 off _ rfl).mono ?_
  rintro e w4 ⟨rfl, k4⟩
  rw [HG.out.1, ← HG.out.2.1, TagV.cells_def]
  obtain ⟨w5, hw5⟩ : ∃ w5, w5 = w4.alloc (.cells #[.int .u64 (s.toNat : Int), .bool u, .int .i64 o] 70) := ⟨_, rfl⟩
  have k5 : Keeps Nil w3 w5 := by rw [hw5]; exact k4.alloc _
  have b5 : w5.heap[w4.heap.size]? = some (.cells #[.int .u64 (s.toNat : Int), .bool u, .int .i64 o] 70 (0, 0)) := by rw [hw5]; exact heap_new _ _
  have x5 := k5.at H3.out.2.2.1 (fun e => e)
  have x4 := k4.at H3.out.2.2.1 (fun e => e)
  have c0 := (row2 x5).1
  have c1 := (row2 x5).2
  have d0 := (row2 x4).1
  have d1 := (row2 x4).2
  have hlt : w2.heap.size < w4.heap.size := getElem?_lt x4
  have H5 := Lib.hid (And.intro k5 b5)
  have HW5 := Lib.hid hw5
  clear k4 k5 b5 x5 x4 hw5
  go_wp2_with fail
  rw [← HW5.out]
  refine (rRead_any (H3.out.2.1.keeps H5.out.1) off _ rfl).mono ?_
  rintro e w6 ⟨rfl, k6⟩
  rw [HG.out.1, ← HG.out.2.1, TagV.cells_def]
  obtain ⟨w7, hw7⟩ : ∃ w7, w7 = w6.alloc (.cells #[.int .u64 (s.toNat : Int), .bool u, .int .i64 o] 69) := ⟨_, rfl⟩
  have k7 : Keeps Nil w5 w7 := by rw [hw7]; exact k6.alloc _
  have b7 : w7.heap[w6.heap.size]? = some (.cells #[.int .u64 (s.toNat : Int), .bool u, .int .i64 o] 69 (0, 0)) := by rw [hw7]; exact heap_new _ _
  have y7 := k7.at H5.out.2 (fun e => e)
  clear c0 c1 d0 d1 hlt
  have A0 : w7.drew.cell? ⟨w4.heap.size, 0, none⟩ = some (.int .u64 (s.toNat : Int)) := (row3 y7).1
  have A1 : w7.drew.cell? ⟨w4.heap.size, 1, none⟩ = some (.bool u) := (row3 y7).2.1
  have A2 : w7.drew.cell? ⟨w4.heap.size, 2, none⟩ = some (.int .i64 o) := (row3 y7).2.2
  have B0 : w7.drew.cell? ⟨w6.heap.size, 0, none⟩ = some (.int .u64 (s.toNat : Int)) := (row3 b7).1
  have B1 : w7.drew.cell? ⟨w6.heap.size, 1, none⟩ = some (.bool u) := (row3 b7).2.1
  have B2 : w7.drew.cell? ⟨w6.heap.size, 2, none⟩ = some (.int .i64 o) := (row3 b7).2.2
  have H7 := Lib.hid (And.intro ((H3.out.2.2.2.trans' H5.out.1).trans' k7) (And.intro (show w7.drew.heap[w4.heap.size]? = _ from y7) (show w7.drew.heap[w6.heap.size]? = _ from b7)))
  have HW7 := Lib.hid hw7
  have hK : Keeps Nil w7.drew w7.drew := Keeps.refl _ _
  clear k6 k7 b7 y7 hw7
  go_wp2_with fail
  rw [← HW7.out]
  go_region_held3 (fun w' => w'.cell? ⟨w4.heap.size, 0, none⟩ = some (.int .u64 (s.toNat : Int)) ∧ w'.cell? ⟨w4.heap.size, 1, none⟩ = some (.bool u) ∧ w'.cell? ⟨w4.heap.size, 2, none⟩ = some (.int .i64 o) ∧
      w'.cell? ⟨w6.heap.size, 0, none⟩ = some (.int .u64 (s.toNat : Int)) ∧ w'.cell? ⟨w6.heap.size, 1, none⟩ = some (.bool u) ∧ w'.cell? ⟨w6.heap.size, 2, none⟩ = some (.int .i64 o))
    (first | exact ⟨A0, A1, A2, B0, B1, B2⟩ | exact ⟨a0, a1, a2', b0, b1, b2⟩ | go_keep)
    (first
      | (go_at_call 64; refine (made5 _ ⟨s, u, o⟩).mono ?_; rintro e w' ⟨rfl, kn⟩; rw [TagV.cells_def]; have hK := hK.trans' kn
         have a0 := (cells_at H7.out.2.1 hK).1; have a1 := (cells_at H7.out.2.1 hK).2.1; have a2' := (cells_at H7.out.2.1 hK).2.2
         have b0 := (cells_at H7.out.2.2 hK).1; have b1 := (cells_at H7.out.2.2 hK).2.1; have b2 := (cells_at H7.out.2.2 hK).2.2))
  have HK := Lib.hid (H7.out.1.trans' ((keeps_drew _).trans' hK))
  clear hK A0 A1 A2 B0 B1 B2
  go_wp2_with fail
  go_ret
  exact ⟨rfl, HK.out⟩

set_option maxRecDepth 100000 in
set_option maxHeartbeats 4000000 in
theorem ttells_any {w : World} (g : TagV) (x : UInt64) : Calls Try.prog 14 #[.agg g.cells, .int .u64 (x.toNat : Int)] w fun e w' => e = .returned (.bool true) ∧ Keeps Nil w w' := by
  obtain ⟨gs, gu, go⟩ := g
  rw [TagV.cells_def]
  obtain ⟨s, u, o, hg⟩ : ∃ s u o, unpackT x = ⟨s, u, o⟩ := ⟨_, _, _, rfl⟩
  have q := tag_self s u o
  have hgd := tag_gd
  have HG := Lib.hid hg
  obtain ⟨n, hn⟩ : ∃ n, n = w.heap.size := ⟨_, rfl⟩
  obtain ⟨w0, hw0⟩ : ∃ w0, w0 = w.alloc (.cells #[.int .u64 (gs.toNat : Int), .bool gu, .int .i64 go] 69) := ⟨_, rfl⟩
  have k0 : Keeps Nil w w0 := by rw [hw0]; exact (Keeps.refl Nil _).alloc _
  have b0 : w0.heap[n]? = some (.cells #[.int .u64 (gs.toNat : Int), .bool gu, .int .i64 go] 69 (0, 0)) := by rw [hw0, hn]; exact heap_new _ _
  obtain ⟨mb, hmb⟩ : ∃ mb, mb = mayT ⟨gs, gu, go⟩ := ⟨_, rfl⟩
  obtain ⟨pg, hpg⟩ : ∃ pg, pg = packU ⟨gs, gu, go⟩ := ⟨_, rfl⟩
  obtain ⟨ib, hib⟩ : ∃ ib, ib = isTag x := ⟨_, rfl⟩
  have HM := Lib.hid (And.intro hmb (And.intro hpg hib))
  have H0 := Lib.hid (And.intro k0 b0)
  have HW0 := Lib.hid hw0
  have HN := Lib.hid hn
  clear hg hn hw0 k0 b0 hmb hpg hib
  go_enter Try.func14, Try.ntmps14
  go_wp2_with fail
  rw [← HW0.out, ← HN.out]
  refine (awake5 _).mono ?_
  rintro e w1 ⟨rfl, k1⟩
  have H1 := Lib.hid k1
  clear k1
  go_wp2_with fail
  refine (Unpack_any w1 x).mono ?_
  rintro e w2 ⟨rfl, k2⟩
  rw [HG.out, ← HM.out.2.2, TagV.cells_def]
  obtain ⟨w3, hw3⟩ : ∃ w3, w3 = w2.alloc (.cells #[.int .u64 (s.toNat : Int), .bool u, .int .i64 o] 70) := ⟨_, rfl⟩
  have k3 : Keeps Nil w1 w3 := by rw [hw3]; exact k2.alloc _
  have b3 : w3.heap[w2.heap.size]? = some (.cells #[.int .u64 (s.toNat : Int), .bool u, .int .i64 o] 70 (0, 0)) := by rw [hw3]; exact heap_new _ _
  have H3 := Lib.hid (And.intro (H1.out.trans' k3) b3)
  have HW3 := Lib.hid hw3
  clear k2 k3 b3 hw3
  go_wp2_with fail
  rw [← HW3.out]
  refine (rUnpack_any w3 x).mono ?_
  rintro e w4 ⟨rfl, k4⟩
  rw [HG.out, ← HM.out.2.2, TagV.cells_def]
  obtain ⟨w5, hw5⟩ : ∃ w5, w5 = w4.alloc (.cells #[.int .u64 (s.toNat : Int), .bool u, .int .i64 o] 69) := ⟨_, rfl⟩
  have k5 : Keeps Nil w3 w5 := by rw [hw5]; exact k4.alloc _
  have b5 : w5.drew.heap[w4.heap.size]? = some (.cells #[.int .u64 (s.toNat : Int), .bool u, .int .i64 o] 69 (0, 0)) := by rw [hw5]; exact heap_new _ _
  have y5 : w5.drew.heap[w2.heap.size]? = _ := k5.at H3.out.2 (fun e => e)
  have z5 : w5.drew.heap[n]? = _ := (H3.out.1.trans' k5).at H0.out.2 (fun e => e)
  have A0 := (row3 y5).1
  have A1 := (row3 y5).2.1
  have A2 := (row3 y5).2.2
  have B0 := (row3 b5).1
  have B1 := (row3 b5).2.1
  have B2 := (row3 b5).2.2
  have C0 := (row3 z5).1
  have C1 := (row3 z5).2.1
  have C2 := (row3 z5).2.2
  have H5 := Lib.hid (And.intro ((H0.out.1.trans' H3.out.1).trans' k5) (And.intro y5 (And.intro b5 z5)))
  have HW5 := Lib.hid hw5
  have hK : Keeps Nil w5.drew w5.drew := Keeps.refl _ _
  clear k4 k5 b5 y5 z5 hw5
  go_wp2_with fail
  rw [← HW5.out]
  go_region_held3 (fun w' => (w'.cell? ⟨w2.heap.size, 0, none⟩ = some (.int .u64 (s.toNat : Int)) ∧ w'.cell? ⟨w2.heap.size, 1, none⟩ = some (.bool u) ∧ w'.cell? ⟨w2.heap.size, 2, none⟩ = some (.int .i64 o)) ∧
      (w'.cell? ⟨w4.heap.size, 0, none⟩ = some (.int .u64 (s.toNat : Int)) ∧ w'.cell? ⟨w4.heap.size, 1, none⟩ = some (.bool u) ∧ w'.cell? ⟨w4.heap.size, 2, none⟩ = some (.int .i64 o)) ∧
      (w'.cell? ⟨n, 0, none⟩ = some (.int .u64 (gs.toNat : Int)) ∧ w'.cell? ⟨n, 1, none⟩ = some (.bool gu) ∧ w'.cell? ⟨n, 2, none⟩ = some (.int .i64 go)))
    (first | exact ⟨⟨A0, A1, A2⟩, ⟨B0, B1, B2⟩, ⟨C0, C1, C2⟩⟩ | exact ⟨cells_at H5.out.2.1 hK, cells_at H5.out.2.2.1 hK, cells_at H5.out.2.2.2 hK⟩ | go_keep)
    (first
      | (go_at_call 64; refine (made5 _ ⟨_, _, _⟩).mono ?_; rintro e w' ⟨rfl, kn⟩; rw [TagV.cells_def]; have hK := hK.trans' kn)
      | (go_at_call 63; refine (May_k _ ⟨gs, gu, go⟩).mono ?_; rintro e w' ⟨rfl, kn⟩; rw [← HM.out.1]; have hK := hK.trans' kn)
      | (go_at_call 65; refine (rMay_k _ ⟨gs, gu, go⟩).mono ?_; rintro e w' ⟨rfl, kn⟩; rw [← HM.out.1]; have hK := hK.trans' kn)
      | (go_at_call 66; refine (Pack_any _ ⟨gs, gu, go⟩).mono ?_; rintro e w' ⟨rfl, kn⟩; rw [← HM.out.2.1]; have hK := hK.trans' kn)
      | (go_at_call 67; refine (rPack_any _ ⟨gs, gu, go⟩).mono ?_; rintro e w' ⟨rfl, kn⟩; rw [← HM.out.2.1]; have hK := hK.trans' kn))
  all_goals
    have HK := Lib.hid (H5.out.1.trans' ((keeps_drew _).trans' hK))
    clear hK A0 A1 A2 B0 B1 B2 C0 C1 C2
    go_wp2_with fail
    go_ret
    exact ⟨rfl, HK.out⟩
end Go.Proofs.Ytccllkgaakmdhaa
