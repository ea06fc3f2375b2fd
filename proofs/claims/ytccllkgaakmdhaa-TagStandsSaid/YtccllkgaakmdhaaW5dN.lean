/- carracklaw05.TagStands: what can not be laid. -/
import Derived.Test.YtccllkgaakmdhaaW5b
import Derived.Test.YtccllkgaakmdhaaStandsP
namespace Go.Proofs.Ytccllkgaakmdhaa
open Go.RowKit

theorem tag_neq_self (s : UInt64) (u : Bool) (o : Int) (w : World) : (binOp .neq 70 (.agg #[.int .u64 (s.toNat : Int), .bool u, .int .i64 o]) (.agg #[.int .u64 (s.toNat : Int), .bool u, .int .i64 o])).run Try.prog w = .ok (.bool false) w := by
  rw [tag_neq]; simp
theorem put_at {w w' : World} {m : Nat} {a b : Value} {T : TypeId} (h : w.heap[m]? = some (.cells #[a, b] T (0, 0))) (k : Keeps Nil w w') : w'.cell? ⟨m, 0, none⟩ = some a ∧ w'.cell? ⟨m, 1, none⟩ = some b := row2 (k.at h (fun e => e))

set_option maxRecDepth 100000 in
set_option maxHeartbeats 8000000 in
theorem stands_no {w : World} (off : UInt64) (g : TagV) (po pv : UInt64) (hB : writeB (txLoad ws44 []) off g = false) : Calls Try.prog 19 #[.int .u64 (off.toNat : Int), .agg g.cells, .agg #[.int .u64 (po.toNat : Int), .int .u64 (pv.toNat : Int)]] w fun e w' => e = .returned (.bool true) ∧ Keeps Nil w w' := by
  have HB := Lib.hid hB
  clear hB
  obtain ⟨gs, gu, go⟩ := g
  rw [TagV.cells_def]
  have hgd := tag_gd
  obtain ⟨n, hn⟩ : ∃ n, n = w.heap.size := ⟨_, rfl⟩
  obtain ⟨w0, hw0⟩ : ∃ w0, w0 = (w.alloc (.cells #[.int .u64 (gs.toNat : Int), .bool gu, .int .i64 go] 69)).alloc (.cells #[.int .u64 (po.toNat : Int), .int .u64 (pv.toNat : Int)] 38) := ⟨_, rfl⟩
  have k0 : Keeps Nil w w0 := by rw [hw0]; exact ((Keeps.refl Nil _).alloc _).alloc _
  have b0 : w0.heap[n]? = some (.cells #[.int .u64 (gs.toNat : Int), .bool gu, .int .i64 go] 69 (0, 0)) := by rw [hw0, hn]; exact heap_old _ _ (heap_new _ _)
  have b1 : w0.heap[n + 1]? = some (.cells #[.int .u64 (po.toNat : Int), .int .u64 (pv.toNat : Int)] 38 (0, 0)) := by
    rw [hw0, hn]
    have := heap_new (w.alloc (.cells #[.int .u64 (gs.toNat : Int), .bool gu, .int .i64 go] 69)) (.cells #[.int .u64 (po.toNat : Int), .int .u64 (pv.toNat : Int)] 38)
    simpa using this
  have H0 := Lib.hid (And.intro k0 (And.intro b0 b1))
  have HW0 := Lib.hid hw0
  have HN := Lib.hid hn
  clear hn hw0 k0 b0 b1
  go_enter Try.func19, Try.ntmps19
  go_wp2_with fail
  rw [← HW0.out, ← HN.out]
  refine (awake5 _).mono ?_
  rintro e w1 ⟨rfl, k1⟩
  have H1 := Lib.hid k1
  clear k1
  go_wp2_with fail
  refine (formed05' (l := []) 4480 Look.nil _ (by rfl)).mono ?_
  rintro e w2 ⟨sg, t, ab, ao, ac, a2, n2, cc2, rfl, L⟩
  have L2 : Live w1 w2 sg t [] ws44 Top := L.reads (fun _ _ _ => trivial)
  obtain ⟨w3, hw3⟩ : ∃ w3, w3 = w2.alloc (.cells #[.slice (some ⟨ab, ao, none⟩) 600 ac, .slice a2 n2 cc2] 28) := ⟨_, rfl⟩
  have L3 := L2.quiet (w' := w3) Stable.top (by rw [hw3]; exact (Keeps.refl Nil _).alloc _)
  have C0 := cells_at H0.out.2.1 (H1.out.trans' L2.keeps)
  have D0 := cells_at H0.out.2.1 (H1.out.trans' L3.keeps)
  have hlt : n + 1 < w2.heap.size := getElem?_lt ((H1.out.trans' L2.keeps).at H0.out.2.2 (fun e => e))
  have hlt0 : n < w2.heap.size := getElem?_lt ((H1.out.trans' L2.keeps).at H0.out.2.1 (fun e => e))
  have H3 := Lib.hid L3
  have HW3 := Lib.hid hw3
  have c00 := C0.1
  have c01 := C0.2.1
  have c02 := C0.2.2
  have d00 := D0.1
  have d01 := D0.2.1
  have d02 := D0.2.2
  clear L L2 L3 C0 D0 hw3
  go_wp2_with fail
  rw [← HW3.out]
  refine (made5 _ ⟨gs, gu, go⟩).mono ?_
  rintro e w4 ⟨rfl, k4⟩
  rw [TagV.cells_def]
  have H4 := Lib.hid (H3.out.quiet Stable.top k4)
  clear k4 c00 c01 c02 d00 d01 d02 hlt hlt0
  go_wp2_with fail
  refine (H4.out.tagWrite Stable.top off ⟨gs, gu, go⟩ (by decide) _ rfl).mono ?_
  rintro e w5 ⟨rfl, L5⟩
  rw [HB.out]
  rw [codeOf_no]
  rw [writeP_no HB.out] at L5
  have H5 := Lib.hid L5
  clear L5
  go_wp2_with fail
  refine (H5.out.puts Stable.top (by decide)).mono ?_
  rintro e w6 ⟨v, rfl, ho, L6, _⟩
  have ho' : Own kP w6 w5.heap.size v [] := ho
  obtain ⟨ae, ce, rfl⟩ := Own.empty ho'
  have H6 := Lib.hid L6.keeps
  clear ho ho' L6
  go_wp2_with fail
  go_ret
  exact ⟨rfl, (H0.out.1.trans' H1.out).trans' H6.out⟩
end Go.Proofs.Ytccllkgaakmdhaa
