/- carracklaw05.TagBack. -/
import Derived.Test.YtccllkgaakmdhaaW5a
namespace Go.Proofs.Ytccllkgaakmdhaa
open Go.RowKit

theorem tag_apart {s s2 : UInt64} {u u2 : Bool} {o o2 : Int} (h : (⟨s, u, o⟩ : TagV) ≠ ⟨s2, u2, o2⟩) : ((s.toNat : Int) == (s2.toNat : Int) && (u == u2 && o == o2)) = false := by
  cases e : ((s.toNat : Int) == (s2.toNat : Int) && (u == u2 && o == o2)) with
  | false => rfl
  | true =>
    simp only [Bool.and_eq_true, beq_iff_eq] at e
    obtain ⟨a, b, c⟩ := e
    have : s = s2 := UInt64.toNat_inj.1 (by omega)
    exact absurd (by rw [this, b, c]) h
theorem rtag_self (s : UInt64) (u : Bool) (o : Int) (w : World) : (binOp .eql 69 (.agg #[.int .u64 (s.toNat : Int), .bool u, .int .i64 o]) (.agg #[.int .u64 (s.toNat : Int), .bool u, .int .i64 o])).run Try.prog w = .ok (.bool true) w := by
  rw [rtag_eql]; simp

set_option maxRecDepth 100000 in
set_option maxHeartbeats 8000000 in
theorem tback_any {w : World} (g h : TagV) (x : UInt64) : Calls Try.prog 15 #[.agg g.cells, .agg h.cells, .int .u64 (x.toNat : Int)] w fun e w' => e = .returned (.bool true) ∧ Keeps Nil w w' := by
  obtain ⟨gs, gu, go⟩ := g
  obtain ⟨hs, hu, ho⟩ := h
  rw [TagV.cells_def, TagV.cells_def]
  obtain ⟨s, u, o, hg⟩ : ∃ s u o, unpackT x = ⟨s, u, o⟩ := ⟨_, _, _, rfl⟩
  have hgd := tag_gd
  have hgd2 := rtag_gd
  have HG := Lib.hid hg
  obtain ⟨n, hn⟩ : ∃ n, n = w.heap.size := ⟨_, rfl⟩
  obtain ⟨w0, hw0⟩ : ∃ w0, w0 = (w.alloc (.cells #[.int .u64 (gs.toNat : Int), .bool gu, .int .i64 go] 69)).alloc (.cells #[.int .u64 (hs.toNat : Int), .bool hu, .int .i64 ho] 69) := ⟨_, rfl⟩
  have k0 : Keeps Nil w w0 := by rw [hw0]; exact ((Keeps.refl Nil _).alloc _).alloc _
  have b0 : w0.heap[n]? = some (.cells #[.int .u64 (gs.toNat : Int), .bool gu, .int .i64 go] 69 (0, 0)) := by rw [hw0, hn]; exact heap_old _ _ (heap_new _ _)
  have b1 : w0.heap[n + 1]? = some (.cells #[.int .u64 (hs.toNat : Int), .bool hu, .int .i64 ho] 69 (0, 0)) := by
    rw [hw0, hn]
    have := heap_new (w.alloc (.cells #[.int .u64 (gs.toNat : Int), .bool gu, .int .i64 go] 69)) (.cells #[.int .u64 (hs.toNat : Int), .bool hu, .int .i64 ho] 69)
    simpa using this
  have H0 := Lib.hid (And.intro k0 (And.intro b0 b1))
  have HW0 := Lib.hid hw0
  have HN := Lib.hid hn
  clear hg hn hw0 k0 b0 b1
  cases hi : isTag x with
  | false =>
    have HI := Lib.hid hi
    clear hi
    cases hmg : mayT ⟨gs, gu, go⟩ with
    | false =>
      have HMG := Lib.hid hmg
      clear hmg
      go_enter Try.func15, Try.ntmps15
      go_wp2_with fail
      rw [← HW0.out, ← HN.out]
      refine (awake5 _).mono ?_
      rintro e w1 ⟨rfl, k1⟩
      have H1 := Lib.hid k1
      clear k1
      go_wp2_with fail
      refine (Unpack_any w1 x).mono ?_
      rintro e w2 ⟨rfl, k2⟩
      rw [HG.out, HI.out, TagV.cells_def]
      obtain ⟨w3, hw3⟩ : ∃ w3, w3 = w2.alloc (.cells #[.int .u64 (s.toNat : Int), .bool u, .int .i64 o] 70) := ⟨_, rfl⟩
      have k3 : Keeps Nil w1 w3 := by rw [hw3]; exact k2.alloc _
      have hk03 := H1.out.trans' k3
      have B0 := (cells_at H0.out.2.1 hk03)
      have B1 := (cells_at H0.out.2.2 hk03)
      have C0 := (cells_at H0.out.2.1 (H1.out.trans' k2))
      have hlt : n + 1 < w2.heap.size := getElem?_lt ((H1.out.trans' k2).at H0.out.2.2 (fun e => e))
      have hlt0 : n < w2.heap.size := getElem?_lt ((H1.out.trans' k2).at H0.out.2.1 (fun e => e))
      have H3 := Lib.hid hk03
      have HW3 := Lib.hid hw3
      have b00 := B0.1
      have b01 := B0.2.1
      have b02 := B0.2.2
      have c00 := C0.1
      have c01 := C0.2.1
      have c02 := C0.2.2
      clear k2 k3 hw3 hk03 B0 B1 C0
      go_wp2_with fail
      rw [← HW3.out]
      have H4 := H3
      refine (rMay_k _ ⟨gs, gu, go⟩).mono ?_
      rintro e w5 ⟨rfl, k5⟩
      rw [HMG.out]
      have H5 := Lib.hid (H4.out.trans' k5)
      clear k5 b00 b01 b02 c00 c01 c02 hlt hlt0
      go_wp2_with fail
      go_ret
      exact ⟨rfl, H0.out.1.trans' H5.out⟩
    | true =>
      have HMG := Lib.hid hmg
      clear hmg
      cases hmh : mayT ⟨hs, hu, ho⟩ with
      | false =>
        have HMH := Lib.hid hmh
        clear hmh
        go_enter Try.func15, Try.ntmps15
        go_wp2_with fail
        rw [← HW0.out, ← HN.out]
        refine (awake5 _).mono ?_
        rintro e w1 ⟨rfl, k1⟩
        have H1 := Lib.hid k1
        clear k1
        go_wp2_with fail
        refine (Unpack_any w1 x).mono ?_
        rintro e w2 ⟨rfl, k2⟩
        rw [HG.out, HI.out, TagV.cells_def]
        obtain ⟨w3, hw3⟩ : ∃ w3, w3 = w2.alloc (.cells #[.int .u64 (s.toNat : Int), .bool u, .int .i64 o] 70) := ⟨_, rfl⟩
        have k3 : Keeps Nil w1 w3 := by rw [hw3]; exact k2.alloc _
        have hk03 := H1.out.trans' k3
        have B0 := (cells_at H0.out.2.1 hk03)
        have B1 := (cells_at H0.out.2.2 hk03)
        have C0 := (cells_at H0.out.2.1 (H1.out.trans' k2))
        have hlt : n + 1 < w2.heap.size := getElem?_lt ((H1.out.trans' k2).at H0.out.2.2 (fun e => e))
        have hlt0 : n < w2.heap.size := getElem?_lt ((H1.out.trans' k2).at H0.out.2.1 (fun e => e))
        have H3 := Lib.hid hk03
        have HW3 := Lib.hid hw3
        have b00 := B0.1
        have b01 := B0.2.1
        have b02 := B0.2.2
        have c00 := C0.1
        have c01 := C0.2.1
        have c02 := C0.2.2
        clear k2 k3 hw3 hk03 B0 B1 C0
        go_wp2_with fail
        rw [← HW3.out]
        have H4 := H3
        refine (rMay_k _ ⟨gs, gu, go⟩).mono ?_
        rintro e w5 ⟨rfl, k5⟩
        rw [HMG.out]
        have H5 := Lib.hid (H4.out.trans' k5)
        clear k5 b00 b01 b02 c00 c01 c02 hlt hlt0
        have b10 := (cells_at H0.out.2.2 H5.out).1
        have b11 := (cells_at H0.out.2.2 H5.out).2.1
        have b12 := (cells_at H0.out.2.2 H5.out).2.2
        go_wp2_with fail
        refine (rMay_k _ ⟨hs, hu, ho⟩).mono ?_
        rintro e w6 ⟨rfl, k6⟩
        rw [HMH.out]
        have H6 := Lib.hid (H5.out.trans' k6)
        clear k6 b10 b11 b12
        go_wp2_with fail
        go_ret
        exact ⟨rfl, H0.out.1.trans' H6.out⟩
      | true =>
        have HMH := Lib.hid hmh
        clear hmh
        have q := tag_self gs gu go
        by_cases heq : (⟨gs, gu, go⟩ : TagV) = ⟨hs, hu, ho⟩
        · obtain ⟨rfl, rfl, rfl⟩ := TagV.mk.inj heq
          clear heq
          have q2 := rtag_self gs gu go
          go_enter Try.func15, Try.ntmps15
          go_wp2_with fail
          rw [← HW0.out, ← HN.out]
          refine (awake5 _).mono ?_
          rintro e w1 ⟨rfl, k1⟩
          have H1 := Lib.hid k1
          clear k1
          go_wp2_with fail
          refine (Unpack_any w1 x).mono ?_
          rintro e w2 ⟨rfl, k2⟩
          rw [HG.out, HI.out, TagV.cells_def]
          obtain ⟨w3, hw3⟩ : ∃ w3, w3 = w2.alloc (.cells #[.int .u64 (s.toNat : Int), .bool u, .int .i64 o] 70) := ⟨_, rfl⟩
          have k3 : Keeps Nil w1 w3 := by rw [hw3]; exact k2.alloc _
          have hk03 := H1.out.trans' k3
          have B0 := (cells_at H0.out.2.1 hk03)
          have B1 := (cells_at H0.out.2.2 hk03)
          have C0 := (cells_at H0.out.2.1 (H1.out.trans' k2))
          have hlt : n + 1 < w2.heap.size := getElem?_lt ((H1.out.trans' k2).at H0.out.2.2 (fun e => e))
          have hlt0 : n < w2.heap.size := getElem?_lt ((H1.out.trans' k2).at H0.out.2.1 (fun e => e))
          have H3 := Lib.hid hk03
          have HW3 := Lib.hid hw3
          have b00 := B0.1
          have b01 := B0.2.1
          have b02 := B0.2.2
          have c00 := C0.1
          have c01 := C0.2.1
          have c02 := C0.2.2
          clear k2 k3 hw3 hk03 B0 B1 C0
          go_wp2_with fail
          rw [← HW3.out]
          have H4 := H3
          refine (rMay_k _ ⟨gs, gu, go⟩).mono ?_
          rintro e w5 ⟨rfl, k5⟩
          rw [HMG.out]
          have H5 := Lib.hid (H4.out.trans' k5)
          clear k5 b00 b01 b02 c00 c01 c02 hlt hlt0
          have b10 := (cells_at H0.out.2.2 H5.out).1
          have b11 := (cells_at H0.out.2.2 H5.out).2.1
          have b12 := (cells_at H0.out.2.2 H5.out).2.2
          go_wp2_with fail
          refine (rMay_k _ ⟨gs, gu, go⟩).mono ?_
          rintro e w6 ⟨rfl, k6⟩
          rw [HMH.out]
          have H6 := Lib.hid (H5.out.trans' k6)
          clear k6 b10 b11 b12
          have b00 := (cells_at H0.out.2.1 H6.out).1
          have b01 := (cells_at H0.out.2.1 H6.out).2.1
          have b02 := (cells_at H0.out.2.1 H6.out).2.2
          go_wp2_with fail
          refine (made5 _ ⟨gs, gu, go⟩).mono ?_
          rintro e w7 ⟨rfl, k7⟩
          rw [TagV.cells_def]
          have H7 := Lib.hid (H6.out.trans' k7)
          clear k7 b00 b01 b02
          go_wp2_with fail
          refine (Pack_any _ ⟨gs, gu, go⟩).mono ?_
          rintro e w8 ⟨rfl, k8⟩
          have H8 := Lib.hid (H7.out.trans' k8)
          clear k8
          go_wp2_with fail
          refine (Unpack_any w8 (packU ⟨gs, gu, go⟩)).mono ?_
          rintro e w9 ⟨rfl, k9⟩
          rw [isTag_pack HMG.out, unpack_pack HMG.out, TagV.cells_def]
          obtain ⟨w10, hw10⟩ : ∃ w10, w10 = w9.alloc (.cells #[.int .u64 (gs.toNat : Int), .bool gu, .int .i64 go] 70) := ⟨_, rfl⟩
          have k10 : Keeps Nil w8 w10 := by rw [hw10]; exact k9.alloc _
          have b10 : w10.drew.heap[w9.heap.size]? = some (.cells #[.int .u64 (gs.toNat : Int), .bool gu, .int .i64 go] 70 (0, 0)) := by rw [hw10]; exact heap_new _ _
          have H10 := Lib.hid (And.intro ((H8.out.trans' k10).trans' (keeps_drew _)) b10)
          have HW10 := Lib.hid hw10
          have hK : Keeps Nil w10.drew w10.drew := Keeps.refl _ _
          clear k9 k10 b10 hw10
          go_wp2_with fail
          rw [← HW10.out]
          go_region_held3 (fun w' => (w'.cell? ⟨w9.heap.size, 0, none⟩ = some (.int .u64 (gs.toNat : Int)) ∧ w'.cell? ⟨w9.heap.size, 1, none⟩ = some (.bool gu) ∧ w'.cell? ⟨w9.heap.size, 2, none⟩ = some (.int .i64 go)) ∧
              (w'.cell? ⟨n, 0, none⟩ = some (.int .u64 (gs.toNat : Int)) ∧ w'.cell? ⟨n, 1, none⟩ = some (.bool gu) ∧ w'.cell? ⟨n, 2, none⟩ = some (.int .i64 go)) ∧
              (w'.cell? ⟨n + 1, 0, none⟩ = some (.int .u64 (gs.toNat : Int)) ∧ w'.cell? ⟨n + 1, 1, none⟩ = some (.bool gu) ∧ w'.cell? ⟨n + 1, 2, none⟩ = some (.int .i64 go)))
            (exact ⟨cells_at H10.out.2 hK, cells_at H0.out.2.1 (H10.out.1.trans' hK), cells_at H0.out.2.2 (H10.out.1.trans' hK)⟩)
            (first
              | (go_at_call 64; refine (made5 _ ⟨_, _, _⟩).mono ?_; rintro e w' ⟨rfl, kn⟩; rw [TagV.cells_def]; have hK := hK.trans' kn)
              | (go_at_call 66; refine (Pack_any _ ⟨_, _, _⟩).mono ?_; rintro e w' ⟨rfl, kn⟩; have hK := hK.trans' kn))
          all_goals
            have HK := Lib.hid (H0.out.1.trans' (H10.out.1.trans' hK))
            clear hK
            go_wp2_with fail
            go_ret
            exact ⟨rfl, HK.out⟩
        · have tst := (unlike_u64 (fun e => heq (pack_inj HMG.out HMH.out e))).2
          have q2 : ∀ w, (binOp .eql 69 (.agg #[.int .u64 (gs.toNat : Int), .bool gu, .int .i64 go]) (.agg #[.int .u64 (hs.toNat : Int), .bool hu, .int .i64 ho])).run Try.prog w = .ok (.bool false) w := fun w => by rw [rtag_eql, tag_apart heq]
          clear heq
          go_enter Try.func15, Try.ntmps15
          go_wp2_with fail
          rw [← HW0.out, ← HN.out]
          refine (awake5 _).mono ?_
          rintro e w1 ⟨rfl, k1⟩
          have H1 := Lib.hid k1
          clear k1
          go_wp2_with fail
          refine (Unpack_any w1 x).mono ?_
          rintro e w2 ⟨rfl, k2⟩
          rw [HG.out, HI.out, TagV.cells_def]
          obtain ⟨w3, hw3⟩ : ∃ w3, w3 = w2.alloc (.cells #[.int .u64 (s.toNat : Int), .bool u, .int .i64 o] 70) := ⟨_, rfl⟩
          have k3 : Keeps Nil w1 w3 := by rw [hw3]; exact k2.alloc _
          have hk03 := H1.out.trans' k3
          have B0 := (cells_at H0.out.2.1 hk03)
          have B1 := (cells_at H0.out.2.2 hk03)
          have C0 := (cells_at H0.out.2.1 (H1.out.trans' k2))
          have hlt : n + 1 < w2.heap.size := getElem?_lt ((H1.out.trans' k2).at H0.out.2.2 (fun e => e))
          have hlt0 : n < w2.heap.size := getElem?_lt ((H1.out.trans' k2).at H0.out.2.1 (fun e => e))
          have H3 := Lib.hid hk03
          have HW3 := Lib.hid hw3
          have b00 := B0.1
          have b01 := B0.2.1
          have b02 := B0.2.2
          have c00 := C0.1
          have c01 := C0.2.1
          have c02 := C0.2.2
          clear k2 k3 hw3 hk03 B0 B1 C0
          go_wp2_with fail
          rw [← HW3.out]
          have H4 := H3
          refine (rMay_k _ ⟨gs, gu, go⟩).mono ?_
          rintro e w5 ⟨rfl, k5⟩
          rw [HMG.out]
          have H5 := Lib.hid (H4.out.trans' k5)
          clear k5 b00 b01 b02 c00 c01 c02 hlt hlt0
          have b10 := (cells_at H0.out.2.2 H5.out).1
          have b11 := (cells_at H0.out.2.2 H5.out).2.1
          have b12 := (cells_at H0.out.2.2 H5.out).2.2
          go_wp2_with fail
          refine (rMay_k _ ⟨hs, hu, ho⟩).mono ?_
          rintro e w6 ⟨rfl, k6⟩
          rw [HMH.out]
          have H6 := Lib.hid (H5.out.trans' k6)
          clear k6 b10 b11 b12
          have b00 := (cells_at H0.out.2.1 H6.out).1
          have b01 := (cells_at H0.out.2.1 H6.out).2.1
          have b02 := (cells_at H0.out.2.1 H6.out).2.2
          go_wp2_with fail
          refine (made5 _ ⟨gs, gu, go⟩).mono ?_
          rintro e w7 ⟨rfl, k7⟩
          rw [TagV.cells_def]
          have H7 := Lib.hid (H6.out.trans' k7)
          clear k7 b00 b01 b02
          go_wp2_with fail
          refine (Pack_any _ ⟨gs, gu, go⟩).mono ?_
          rintro e w8 ⟨rfl, k8⟩
          have H8 := Lib.hid (H7.out.trans' k8)
          clear k8
          go_wp2_with fail
          refine (Unpack_any w8 (packU ⟨gs, gu, go⟩)).mono ?_
          rintro e w9 ⟨rfl, k9⟩
          rw [isTag_pack HMG.out, unpack_pack HMG.out, TagV.cells_def]
          obtain ⟨w10, hw10⟩ : ∃ w10, w10 = w9.alloc (.cells #[.int .u64 (gs.toNat : Int), .bool gu, .int .i64 go] 70) := ⟨_, rfl⟩
          have k10 : Keeps Nil w8 w10 := by rw [hw10]; exact k9.alloc _
          have b10 : w10.drew.heap[w9.heap.size]? = some (.cells #[.int .u64 (gs.toNat : Int), .bool gu, .int .i64 go] 70 (0, 0)) := by rw [hw10]; exact heap_new _ _
          have H10 := Lib.hid (And.intro ((H8.out.trans' k10).trans' (keeps_drew _)) b10)
          have HW10 := Lib.hid hw10
          have hK : Keeps Nil w10.drew w10.drew := Keeps.refl _ _
          clear k9 k10 b10 hw10
          go_wp2_with fail
          rw [← HW10.out]
          go_region_held3 (fun w' => (w'.cell? ⟨w9.heap.size, 0, none⟩ = some (.int .u64 (gs.toNat : Int)) ∧ w'.cell? ⟨w9.heap.size, 1, none⟩ = some (.bool gu) ∧ w'.cell? ⟨w9.heap.size, 2, none⟩ = some (.int .i64 go)) ∧
              (w'.cell? ⟨n, 0, none⟩ = some (.int .u64 (gs.toNat : Int)) ∧ w'.cell? ⟨n, 1, none⟩ = some (.bool gu) ∧ w'.cell? ⟨n, 2, none⟩ = some (.int .i64 go)) ∧
              (w'.cell? ⟨n + 1, 0, none⟩ = some (.int .u64 (hs.toNat : Int)) ∧ w'.cell? ⟨n + 1, 1, none⟩ = some (.bool hu) ∧ w'.cell? ⟨n + 1, 2, none⟩ = some (.int .i64 ho)))
            (exact ⟨cells_at H10.out.2 hK, cells_at H0.out.2.1 (H10.out.1.trans' hK), cells_at H0.out.2.2 (H10.out.1.trans' hK)⟩)
            (first
              | (go_at_call 64; refine (made5 _ ⟨_, _, _⟩).mono ?_; rintro e w' ⟨rfl, kn⟩; rw [TagV.cells_def]; have hK := hK.trans' kn)
              | (go_at_call 66; refine (Pack_any _ ⟨_, _, _⟩).mono ?_; rintro e w' ⟨rfl, kn⟩; have hK := hK.trans' kn))
          all_goals
            have HK := Lib.hid (H0.out.1.trans' (H10.out.1.trans' hK))
            clear hK
            go_wp2_with fail
            go_ret
            exact ⟨rfl, HK.out⟩
  | true =>
    have HI := Lib.hid hi
    have HPX := Lib.hid (show packU ⟨s, u, o⟩ = x by rw [← HG.out]; exact pack_unpack hi)
    clear hi
    cases hmg : mayT ⟨gs, gu, go⟩ with
    | false =>
      have HMG := Lib.hid hmg
      clear hmg
      go_enter Try.func15, Try.ntmps15
      go_wp2_with fail
      rw [← HW0.out, ← HN.out]
      refine (awake5 _).mono ?_
      rintro e w1 ⟨rfl, k1⟩
      have H1 := Lib.hid k1
      clear k1
      go_wp2_with fail
      refine (Unpack_any w1 x).mono ?_
      rintro e w2 ⟨rfl, k2⟩
      rw [HG.out, HI.out, TagV.cells_def]
      obtain ⟨w3, hw3⟩ : ∃ w3, w3 = w2.alloc (.cells #[.int .u64 (s.toNat : Int), .bool u, .int .i64 o] 70) := ⟨_, rfl⟩
      have k3 : Keeps Nil w1 w3 := by rw [hw3]; exact k2.alloc _
      have hk03 := H1.out.trans' k3
      have B0 := (cells_at H0.out.2.1 hk03)
      have B1 := (cells_at H0.out.2.2 hk03)
      have C0 := (cells_at H0.out.2.1 (H1.out.trans' k2))
      have hlt : n + 1 < w2.heap.size := getElem?_lt ((H1.out.trans' k2).at H0.out.2.2 (fun e => e))
      have hlt0 : n < w2.heap.size := getElem?_lt ((H1.out.trans' k2).at H0.out.2.1 (fun e => e))
      have H3 := Lib.hid hk03
      have HW3 := Lib.hid hw3
      have b00 := B0.1
      have b01 := B0.2.1
      have b02 := B0.2.2
      have c00 := C0.1
      have c01 := C0.2.1
      have c02 := C0.2.2
      clear k2 k3 hw3 hk03 B0 B1 C0
      go_wp2_with fail
      rw [← HW3.out]
      refine (Pack_any w3 ⟨s, u, o⟩).mono ?_
      rintro e w4 ⟨rfl, k4⟩
      rw [HPX.out]
      have H4 := Lib.hid (H3.out.trans' k4)
      clear k4 b00 b01 b02 c00 c01 c02 hlt hlt0
      have b00 := (cells_at H0.out.2.1 H4.out).1
      have b01 := (cells_at H0.out.2.1 H4.out).2.1
      have b02 := (cells_at H0.out.2.1 H4.out).2.2
      go_wp2_with fail
      refine (rMay_k _ ⟨gs, gu, go⟩).mono ?_
      rintro e w5 ⟨rfl, k5⟩
      rw [HMG.out]
      have H5 := Lib.hid (H4.out.trans' k5)
      clear k5 b00 b01 b02
      go_wp2_with fail
      go_ret
      exact ⟨rfl, H0.out.1.trans' H5.out⟩
    | true =>
      have HMG := Lib.hid hmg
      clear hmg
      cases hmh : mayT ⟨hs, hu, ho⟩ with
      | false =>
        have HMH := Lib.hid hmh
        clear hmh
        go_enter Try.func15, Try.ntmps15
        go_wp2_with fail
        rw [← HW0.out, ← HN.out]
        refine (awake5 _).mono ?_
        rintro e w1 ⟨rfl, k1⟩
        have H1 := Lib.hid k1
        clear k1
        go_wp2_with fail
        refine (Unpack_any w1 x).mono ?_
        rintro e w2 ⟨rfl, k2⟩
        rw [HG.out, HI.out, TagV.cells_def]
        obtain ⟨w3, hw3⟩ : ∃ w3, w3 = w2.alloc (.cells #[.int .u64 (s.toNat : Int), .bool u, .int .i64 o] 70) := ⟨_, rfl⟩
        have k3 : Keeps Nil w1 w3 := by rw [hw3]; exact k2.alloc _
        have hk03 := H1.out.trans' k3
        have B0 := (cells_at H0.out.2.1 hk03)
        have B1 := (cells_at H0.out.2.2 hk03)
        have C0 := (cells_at H0.out.2.1 (H1.out.trans' k2))
        have hlt : n + 1 < w2.heap.size := getElem?_lt ((H1.out.trans' k2).at H0.out.2.2 (fun e => e))
        have hlt0 : n < w2.heap.size := getElem?_lt ((H1.out.trans' k2).at H0.out.2.1 (fun e => e))
        have H3 := Lib.hid hk03
        have HW3 := Lib.hid hw3
        have b00 := B0.1
        have b01 := B0.2.1
        have b02 := B0.2.2
        have c00 := C0.1
        have c01 := C0.2.1
        have c02 := C0.2.2
        clear k2 k3 hw3 hk03 B0 B1 C0
        go_wp2_with fail
        rw [← HW3.out]
        refine (Pack_any w3 ⟨s, u, o⟩).mono ?_
        rintro e w4 ⟨rfl, k4⟩
        rw [HPX.out]
        have H4 := Lib.hid (H3.out.trans' k4)
        clear k4 b00 b01 b02 c00 c01 c02 hlt hlt0
        have b00 := (cells_at H0.out.2.1 H4.out).1
        have b01 := (cells_at H0.out.2.1 H4.out).2.1
        have b02 := (cells_at H0.out.2.1 H4.out).2.2
        go_wp2_with fail
        refine (rMay_k _ ⟨gs, gu, go⟩).mono ?_
        rintro e w5 ⟨rfl, k5⟩
        rw [HMG.out]
        have H5 := Lib.hid (H4.out.trans' k5)
        clear k5 b00 b01 b02
        have b10 := (cells_at H0.out.2.2 H5.out).1
        have b11 := (cells_at H0.out.2.2 H5.out).2.1
        have b12 := (cells_at H0.out.2.2 H5.out).2.2
        go_wp2_with fail
        refine (rMay_k _ ⟨hs, hu, ho⟩).mono ?_
        rintro e w6 ⟨rfl, k6⟩
        rw [HMH.out]
        have H6 := Lib.hid (H5.out.trans' k6)
        clear k6 b10 b11 b12
        go_wp2_with fail
        go_ret
        exact ⟨rfl, H0.out.1.trans' H6.out⟩
      | true =>
        have HMH := Lib.hid hmh
        clear hmh
        have q := tag_self gs gu go
        by_cases heq : (⟨gs, gu, go⟩ : TagV) = ⟨hs, hu, ho⟩
        · obtain ⟨rfl, rfl, rfl⟩ := TagV.mk.inj heq
          clear heq
          have q2 := rtag_self gs gu go
          go_enter Try.func15, Try.ntmps15
          go_wp2_with fail
          rw [← HW0.out, ← HN.out]
          refine (awake5 _).mono ?_
          rintro e w1 ⟨rfl, k1⟩
          have H1 := Lib.hid k1
          clear k1
          go_wp2_with fail
          refine (Unpack_any w1 x).mono ?_
          rintro e w2 ⟨rfl, k2⟩
          rw [HG.out, HI.out, TagV.cells_def]
          obtain ⟨w3, hw3⟩ : ∃ w3, w3 = w2.alloc (.cells #[.int .u64 (s.toNat : Int), .bool u, .int .i64 o] 70) := ⟨_, rfl⟩
          have k3 : Keeps Nil w1 w3 := by rw [hw3]; exact k2.alloc _
          have hk03 := H1.out.trans' k3
          have B0 := (cells_at H0.out.2.1 hk03)
          have B1 := (cells_at H0.out.2.2 hk03)
          have C0 := (cells_at H0.out.2.1 (H1.out.trans' k2))
          have hlt : n + 1 < w2.heap.size := getElem?_lt ((H1.out.trans' k2).at H0.out.2.2 (fun e => e))
          have hlt0 : n < w2.heap.size := getElem?_lt ((H1.out.trans' k2).at H0.out.2.1 (fun e => e))
          have H3 := Lib.hid hk03
          have HW3 := Lib.hid hw3
          have b00 := B0.1
          have b01 := B0.2.1
          have b02 := B0.2.2
          have c00 := C0.1
          have c01 := C0.2.1
          have c02 := C0.2.2
          clear k2 k3 hw3 hk03 B0 B1 C0
          go_wp2_with fail
          rw [← HW3.out]
          refine (Pack_any w3 ⟨s, u, o⟩).mono ?_
          rintro e w4 ⟨rfl, k4⟩
          rw [HPX.out]
          have H4 := Lib.hid (H3.out.trans' k4)
          clear k4 b00 b01 b02 c00 c01 c02 hlt hlt0
          have b00 := (cells_at H0.out.2.1 H4.out).1
          have b01 := (cells_at H0.out.2.1 H4.out).2.1
          have b02 := (cells_at H0.out.2.1 H4.out).2.2
          go_wp2_with fail
          refine (rMay_k _ ⟨gs, gu, go⟩).mono ?_
          rintro e w5 ⟨rfl, k5⟩
          rw [HMG.out]
          have H5 := Lib.hid (H4.out.trans' k5)
          clear k5 b00 b01 b02
          have b10 := (cells_at H0.out.2.2 H5.out).1
          have b11 := (cells_at H0.out.2.2 H5.out).2.1
          have b12 := (cells_at H0.out.2.2 H5.out).2.2
          go_wp2_with fail
          refine (rMay_k _ ⟨gs, gu, go⟩).mono ?_
          rintro e w6 ⟨rfl, k6⟩
          rw [HMH.out]
          have H6 := Lib.hid (H5.out.trans' k6)
          clear k6 b10 b11 b12
          have b00 := (cells_at H0.out.2.1 H6.out).1
          have b01 := (cells_at H0.out.2.1 H6.out).2.1
          have b02 := (cells_at H0.out.2.1 H6.out).2.2
          go_wp2_with fail
          refine (made5 _ ⟨gs, gu, go⟩).mono ?_
          rintro e w7 ⟨rfl, k7⟩
          rw [TagV.cells_def]
          have H7 := Lib.hid (H6.out.trans' k7)
          clear k7 b00 b01 b02
          go_wp2_with fail
          refine (Pack_any _ ⟨gs, gu, go⟩).mono ?_
          rintro e w8 ⟨rfl, k8⟩
          have H8 := Lib.hid (H7.out.trans' k8)
          clear k8
          go_wp2_with fail
          refine (Unpack_any w8 (packU ⟨gs, gu, go⟩)).mono ?_
          rintro e w9 ⟨rfl, k9⟩
          rw [isTag_pack HMG.out, unpack_pack HMG.out, TagV.cells_def]
          obtain ⟨w10, hw10⟩ : ∃ w10, w10 = w9.alloc (.cells #[.int .u64 (gs.toNat : Int), .bool gu, .int .i64 go] 70) := ⟨_, rfl⟩
          have k10 : Keeps Nil w8 w10 := by rw [hw10]; exact k9.alloc _
          have b10 : w10.drew.heap[w9.heap.size]? = some (.cells #[.int .u64 (gs.toNat : Int), .bool gu, .int .i64 go] 70 (0, 0)) := by rw [hw10]; exact heap_new _ _
          have H10 := Lib.hid (And.intro ((H8.out.trans' k10).trans' (keeps_drew _)) b10)
          have HW10 := Lib.hid hw10
          have hK : Keeps Nil w10.drew w10.drew := Keeps.refl _ _
          clear k9 k10 b10 hw10
          go_wp2_with fail
          rw [← HW10.out]
          go_region_held3 (fun w' => (w'.cell? ⟨w9.heap.size, 0, none⟩ = some (.int .u64 (gs.toNat : Int)) ∧ w'.cell? ⟨w9.heap.size, 1, none⟩ = some (.bool gu) ∧ w'.cell? ⟨w9.heap.size, 2, none⟩ = some (.int .i64 go)) ∧
              (w'.cell? ⟨n, 0, none⟩ = some (.int .u64 (gs.toNat : Int)) ∧ w'.cell? ⟨n, 1, none⟩ = some (.bool gu) ∧ w'.cell? ⟨n, 2, none⟩ = some (.int .i64 go)) ∧
              (w'.cell? ⟨n + 1, 0, none⟩ = some (.int .u64 (gs.toNat : Int)) ∧ w'.cell? ⟨n + 1, 1, none⟩ = some (.bool gu) ∧ w'.cell? ⟨n + 1, 2, none⟩ = some (.int .i64 go)))
            (exact ⟨cells_at H10.out.2 hK, cells_at H0.out.2.1 (H10.out.1.trans' hK), cells_at H0.out.2.2 (H10.out.1.trans' hK)⟩)
            (first
              | (go_at_call 64; refine (made5 _ ⟨_, _, _⟩).mono ?_; rintro e w' ⟨rfl, kn⟩; rw [TagV.cells_def]; have hK := hK.trans' kn)
              | (go_at_call 66; refine (Pack_any _ ⟨_, _, _⟩).mono ?_; rintro e w' ⟨rfl, kn⟩; have hK := hK.trans' kn))
          all_goals
            have HK := Lib.hid (H0.out.1.trans' (H10.out.1.trans' hK))
            clear hK
            go_wp2_with fail
            go_ret
            exact ⟨rfl, HK.out⟩
        · have tst := (unlike_u64 (fun e => heq (pack_inj HMG.out HMH.out e))).2
          have q2 : ∀ w, (binOp .eql 69 (.agg #[.int .u64 (gs.toNat : Int), .bool gu, .int .i64 go]) (.agg #[.int .u64 (hs.toNat : Int), .bool hu, .int .i64 ho])).run Try.prog w = .ok (.bool false) w := fun w => by rw [rtag_eql, tag_apart heq]
          clear heq
          go_enter Try.func15, Try.ntmps15
          go_wp2_with fail
          rw [← HW0.out, ← HN.out]
          refine (awake5 _).mono ?_
          rintro e w1 ⟨rfl, k1⟩
          have H1 := Lib.hid k1
          clear k1
          go_wp2_with fail
          refine (Unpack_any w1 x).mono ?_
          rintro e w2 ⟨rfl, k2⟩
          rw [HG.out, HI.out, TagV.cells_def]
          obtain ⟨w3, hw3⟩ : ∃ w3, w3 = w2.alloc (.cells #[.int .u64 (s.toNat : Int), .bool u, .int .i64 o] 70) := ⟨_, rfl⟩
          have k3 : Keeps Nil w1 w3 := by rw [hw3]; exact k2.alloc _
          have hk03 := H1.out.trans' k3
          have B0 := (cells_at H0.out.2.1 hk03)
          have B1 := (cells_at H0.out.2.2 hk03)
          have C0 := (cells_at H0.out.2.1 (H1.out.trans' k2))
          have hlt : n + 1 < w2.heap.size := getElem?_lt ((H1.out.trans' k2).at H0.out.2.2 (fun e => e))
          have hlt0 : n < w2.heap.size := getElem?_lt ((H1.out.trans' k2).at H0.out.2.1 (fun e => e))
          have H3 := Lib.hid hk03
          have HW3 := Lib.hid hw3
          have b00 := B0.1
          have b01 := B0.2.1
          have b02 := B0.2.2
          have c00 := C0.1
          have c01 := C0.2.1
          have c02 := C0.2.2
          clear k2 k3 hw3 hk03 B0 B1 C0
          go_wp2_with fail
          rw [← HW3.out]
          refine (Pack_any w3 ⟨s, u, o⟩).mono ?_
          rintro e w4 ⟨rfl, k4⟩
          rw [HPX.out]
          have H4 := Lib.hid (H3.out.trans' k4)
          clear k4 b00 b01 b02 c00 c01 c02 hlt hlt0
          have b00 := (cells_at H0.out.2.1 H4.out).1
          have b01 := (cells_at H0.out.2.1 H4.out).2.1
          have b02 := (cells_at H0.out.2.1 H4.out).2.2
          go_wp2_with fail
          refine (rMay_k _ ⟨gs, gu, go⟩).mono ?_
          rintro e w5 ⟨rfl, k5⟩
          rw [HMG.out]
          have H5 := Lib.hid (H4.out.trans' k5)
          clear k5 b00 b01 b02
          have b10 := (cells_at H0.out.2.2 H5.out).1
          have b11 := (cells_at H0.out.2.2 H5.out).2.1
          have b12 := (cells_at H0.out.2.2 H5.out).2.2
          go_wp2_with fail
          refine (rMay_k _ ⟨hs, hu, ho⟩).mono ?_
          rintro e w6 ⟨rfl, k6⟩
          rw [HMH.out]
          have H6 := Lib.hid (H5.out.trans' k6)
          clear k6 b10 b11 b12
          have b00 := (cells_at H0.out.2.1 H6.out).1
          have b01 := (cells_at H0.out.2.1 H6.out).2.1
          have b02 := (cells_at H0.out.2.1 H6.out).2.2
          go_wp2_with fail
          refine (made5 _ ⟨gs, gu, go⟩).mono ?_
          rintro e w7 ⟨rfl, k7⟩
          rw [TagV.cells_def]
          have H7 := Lib.hid (H6.out.trans' k7)
          clear k7 b00 b01 b02
          go_wp2_with fail
          refine (Pack_any _ ⟨gs, gu, go⟩).mono ?_
          rintro e w8 ⟨rfl, k8⟩
          have H8 := Lib.hid (H7.out.trans' k8)
          clear k8
          go_wp2_with fail
          refine (Unpack_any w8 (packU ⟨gs, gu, go⟩)).mono ?_
          rintro e w9 ⟨rfl, k9⟩
          rw [isTag_pack HMG.out, unpack_pack HMG.out, TagV.cells_def]
          obtain ⟨w10, hw10⟩ : ∃ w10, w10 = w9.alloc (.cells #[.int .u64 (gs.toNat : Int), .bool gu, .int .i64 go] 70) := ⟨_, rfl⟩
          have k10 : Keeps Nil w8 w10 := by rw [hw10]; exact k9.alloc _
          have b10 : w10.drew.heap[w9.heap.size]? = some (.cells #[.int .u64 (gs.toNat : Int), .bool gu, .int .i64 go] 70 (0, 0)) := by rw [hw10]; exact heap_new _ _
          have H10 := Lib.hid (And.intro ((H8.out.trans' k10).trans' (keeps_drew _)) b10)
          have HW10 := Lib.hid hw10
          have hK : Keeps Nil w10.drew w10.drew := Keeps.refl _ _
          clear k9 k10 b10 hw10
          go_wp2_with fail
          rw [← HW10.out]
          go_region_held3 (fun w' => (w'.cell? ⟨w9.heap.size, 0, none⟩ = some (.int .u64 (gs.toNat : Int)) ∧ w'.cell? ⟨w9.heap.size, 1, none⟩ = some (.bool gu) ∧ w'.cell? ⟨w9.heap.size, 2, none⟩ = some (.int .i64 go)) ∧
              (w'.cell? ⟨n, 0, none⟩ = some (.int .u64 (gs.toNat : Int)) ∧ w'.cell? ⟨n, 1, none⟩ = some (.bool gu) ∧ w'.cell? ⟨n, 2, none⟩ = some (.int .i64 go)) ∧
              (w'.cell? ⟨n + 1, 0, none⟩ = some (.int .u64 (hs.toNat : Int)) ∧ w'.cell? ⟨n + 1, 1, none⟩ = some (.bool hu) ∧ w'.cell? ⟨n + 1, 2, none⟩ = some (.int .i64 ho)))
            (exact ⟨cells_at H10.out.2 hK, cells_at H0.out.2.1 (H10.out.1.trans' hK), cells_at H0.out.2.2 (H10.out.1.trans' hK)⟩)
            (first
              | (go_at_call 64; refine (made5 _ ⟨_, _, _⟩).mono ?_; rintro e w' ⟨rfl, kn⟩; rw [TagV.cells_def]; have hK := hK.trans' kn)
              | (go_at_call 66; refine (Pack_any _ ⟨_, _, _⟩).mono ?_; rintro e w' ⟨rfl, kn⟩; have hK := hK.trans' kn))
          all_goals
            have HK := Lib.hid (H0.out.1.trans' (H10.out.1.trans' hK))
            clear hK
            go_wp2_with fail
            go_ret
            exact ⟨rfl, HK.out⟩
end Go.Proofs.Ytccllkgaakmdhaa
