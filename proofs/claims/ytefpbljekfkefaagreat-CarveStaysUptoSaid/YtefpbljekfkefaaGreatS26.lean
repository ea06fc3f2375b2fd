/- TakeE, GapW, TakeA, InitP: written short. -/
import Derived.Test.YtefpbljekfkefaaGreatS23
import Derived.Test.YtefpbljekfkefaaGreatS24
import Derived.Test.YtefpbljekfkefaaGreatS20
import Derived.Test.YtefpbljekfkefaaGreatS01
import Derived.Test.YtefpbljekfkefaaGreatS10
import Derived.Test.YtefpbljekfkefaaGreatS16
import Derived.Test.YtefpbljekfkefaaGreatS25
import Derived.Test.YtefpbljekfkefaaGreatS19
set_option maxRecDepth 100000
set_option maxHeartbeats 8000000
namespace Go.Proofs.YtefpbljekfkefaaGreat
section
open Go.RowKit PT
theorem Take_own {w : World} {a0 : Option Addr} {n a : UInt64} {ow : Int} (ho : ow < 0 ∨ 8 < ow) :
  Calls Tryz.prog 62 #[.pointer a0, .int .i64 ow, .int .u64 (n.toNat : Int), .int .u64 (a.toNat : Int)] w fun e' w' => e' = .returned (.tuple #[.int .u64 0, .int .i64 1]) ∧ Keeps Nil w w' := by
 by_cases h : ow < 0
 ·have d1 : decide (ow < 0) = true := decide_eq_true h
  clear ho h
  have hst := qH (Step.refl Nil w)
  go_enter Tryz.func62, Tryz.ntmps62
  go_wp2_with fail
  go_ret2
  exact ⟨rfl, hst.out.keeps⟩
 ·have d1 : decide (ow < 0) = false := decide_eq_false h
  have d2 : decide (8 < ow) = true := decide_eq_true (by omega)
  clear ho h
  have hst := qH (Step.refl Nil w)
  go_enter Tryz.func62, Tryz.ntmps62
  go_wp2_with fail
  go_ret2
  exact ⟨rfl, hst.out.keeps⟩
theorem Take_no {w : World} {a0 : Option Addr} {n a : UInt64} {ow cd : Int} (h0 : 0 ≤ ow) (h8 : ow ≤ 8) (hcd : cd ≠ 0)
  (hF : Calls Tryz.prog 39 #[.pointer a0, .int .u64 (n.toNat : Int), .int .u64 (a.toNat : Int)] w fun e' w' => e' = .returned (.tuple #[.agg #[.int .u64 0, .int .u64 0, .int .u64 0], .int .i64 cd]) ∧ Keeps Nil w w') :
  Calls Tryz.prog 62 #[.pointer a0, .int .i64 ow, .int .u64 (n.toNat : Int), .int .u64 (a.toNat : Int)] w fun e' w' => e' = .returned (.tuple #[.int .u64 0, .int .i64 cd]) ∧ Keeps Nil w w' := by
 have d1 : decide (ow < 0) = false := decide_eq_false (by omega)
 have d2 : decide (8 < ow) = false := decide_eq_false (by omega)
 have d3 : (cd != 0) = true := bne_iff_ne.2 hcd
 have HF := qH hF
 clear h0 h8 hcd hF
 have hst := qH (Step.refl Nil w)
 go_enter Tryz.func62, Tryz.ntmps62
 go_wp2_with fail
 refine (HF.out).mono ?_
 rintro _ W1 ⟨rfl, kn⟩
 replace hst := sN hst kn
 clear kn
 obtain ⟨W2, hW2⟩ := nm (W1.alloc (.cells #[.int .u64 0, .int .u64 0, .int .u64 0] 57))
 obtain ⟨B1, eB1⟩ := nm (W1.heap.size)
 go_wp2_with fail
 go_ret2
 rw [← hW2.out]
 try rw [← eB1.out]
 have k1 := kA hW2
 have e0B1 := eB1.out
 have hB1 := zB hW2 (Bx.new Nil.lt _ _ e0B1)
 have gB1 := gZ e0B1 hst
 replace hst := sN hst k1
 clear k1 e0B1
 exact ⟨rfl, hst.out.keeps⟩
theorem rTake_own {w : World} {e : UInt64} {ab : Option Addr} {M cl : Nat} {LA : Nat → Option Addr} {LN LC : Nat → Nat} {n a : UInt64} {ow : Int} (ho : ow < 0 ∨ 8 < ow) :
  Calls Tryz.prog 63 #[.agg #[.int .u64 (e.toNat : Int), .slice ab M cl, .slice (LA 0) (LN 0) (LC 0), .slice (LA 1) (LN 1) (LC 1), .slice (LA 2) (LN 2) (LC 2), .slice (LA 3) (LN 3) (LC 3), .slice (LA 4) (LN 4) (LC 4), .slice (LA 5) (LN 5) (LC 5), .slice (LA 6) (LN 6) (LC 6), .slice (LA 7) (LN 7) (LC 7)], .int .i64 ow, .int .u64 (n.toNat : Int), .int .u64 (a.toNat : Int)] w fun e' w' => e' = .returned (.tuple #[.agg #[.int .u64 (e.toNat : Int), .slice ab M cl, .slice (LA 0) (LN 0) (LC 0), .slice (LA 1) (LN 1) (LC 1), .slice (LA 2) (LN 2) (LC 2), .slice (LA 3) (LN 3) (LC 3), .slice (LA 4) (LN 4) (LC 4), .slice (LA 5) (LN 5) (LC 5), .slice (LA 6) (LN 6) (LC 6), .slice (LA 7) (LN 7) (LC 7)], .int .u64 0, .int .i64 1]) ∧ Keeps Nil w w' := by
 by_cases h : ow < 0
 ·have d1 : decide (ow < 0) = true := decide_eq_true h
  clear ho h
  have hst := qH (Step.refl Nil w)
  go_enter Tryz.func63, Tryz.ntmps63
  obtain ⟨W1, hW1⟩ := nm (w.alloc (.cells #[.int .u64 (e.toNat : Int), .slice ab M cl, .slice (LA 0) (LN 0) (LC 0), .slice (LA 1) (LN 1) (LC 1), .slice (LA 2) (LN 2) (LC 2), .slice (LA 3) (LN 3) (LC 3), .slice (LA 4) (LN 4) (LC 4), .slice (LA 5) (LN 5) (LC 5), .slice (LA 6) (LN 6) (LC 6), .slice (LA 7) (LN 7) (LC 7)] 30))
  obtain ⟨B1, eB1⟩ := nm (w.heap.size)
  obtain ⟨W2, hW2⟩ := nm (W1.alloc (.cells #[.int .u64 (e.toNat : Int), .slice ab M cl, .slice (LA 0) (LN 0) (LC 0), .slice (LA 1) (LN 1) (LC 1), .slice (LA 2) (LN 2) (LC 2), .slice (LA 3) (LN 3) (LC 3), .slice (LA 4) (LN 4) (LC 4), .slice (LA 5) (LN 5) (LC 5), .slice (LA 6) (LN 6) (LC 6), .slice (LA 7) (LN 7) (LC 7)] 30))
  obtain ⟨B2, eB2⟩ := nm (w.heap.size + 1)
  go_wp2_with fail
  rw [← hW1.out]
  rw [← hW2.out]
  try rw [← eB2.out]
  try rw [← eB1.out]
  have k1 := kA hW1
  have e0B1 := eB1.out
  have hB1 := zB hW1 (Bx.new Nil.lt _ _ e0B1)
  have gB1 := gZ e0B1 hst
  replace hst := sN hst k1
  clear k1 e0B1
  have k2 := kA hW2
  have e0B2 : B2 = W1.heap.size := by rw [eB2.out, hW1.out]; simp []
  have hB2 := zB hW2 (Bx.new Nil.lt _ _ e0B2)
  have gB2 := gZ e0B2 hst
  have nB1B2 := nZ e0B2 hB1
  replace hst := sN hst k2
  replace hB1 := bN hB1 k2
  clear k2 e0B2
  refine bodyPost_ret (results_row_tmp2 rfl rfl hB2.out.1 Tryz.underlying30 rfl (by kernel_rfl)) rfl ?_
  exact ⟨rfl, hst.out.keeps⟩
 ·have d1 : decide (ow < 0) = false := decide_eq_false h
  have d2 : decide (8 < ow) = true := decide_eq_true (by omega)
  clear ho h
  have hst := qH (Step.refl Nil w)
  go_enter Tryz.func63, Tryz.ntmps63
  obtain ⟨W1, hW1⟩ := nm (w.alloc (.cells #[.int .u64 (e.toNat : Int), .slice ab M cl, .slice (LA 0) (LN 0) (LC 0), .slice (LA 1) (LN 1) (LC 1), .slice (LA 2) (LN 2) (LC 2), .slice (LA 3) (LN 3) (LC 3), .slice (LA 4) (LN 4) (LC 4), .slice (LA 5) (LN 5) (LC 5), .slice (LA 6) (LN 6) (LC 6), .slice (LA 7) (LN 7) (LC 7)] 30))
  obtain ⟨B1, eB1⟩ := nm (w.heap.size)
  obtain ⟨W2, hW2⟩ := nm (W1.alloc (.cells #[.int .u64 (e.toNat : Int), .slice ab M cl, .slice (LA 0) (LN 0) (LC 0), .slice (LA 1) (LN 1) (LC 1), .slice (LA 2) (LN 2) (LC 2), .slice (LA 3) (LN 3) (LC 3), .slice (LA 4) (LN 4) (LC 4), .slice (LA 5) (LN 5) (LC 5), .slice (LA 6) (LN 6) (LC 6), .slice (LA 7) (LN 7) (LC 7)] 30))
  obtain ⟨B2, eB2⟩ := nm (w.heap.size + 1)
  go_wp2_with fail
  rw [← hW1.out]
  rw [← hW2.out]
  try rw [← eB2.out]
  try rw [← eB1.out]
  have k1 := kA hW1
  have e0B1 := eB1.out
  have hB1 := zB hW1 (Bx.new Nil.lt _ _ e0B1)
  have gB1 := gZ e0B1 hst
  replace hst := sN hst k1
  clear k1 e0B1
  have k2 := kA hW2
  have e0B2 : B2 = W1.heap.size := by rw [eB2.out, hW1.out]; simp []
  have hB2 := zB hW2 (Bx.new Nil.lt _ _ e0B2)
  have gB2 := gZ e0B2 hst
  have nB1B2 := nZ e0B2 hB1
  replace hst := sN hst k2
  replace hB1 := bN hB1 k2
  clear k2 e0B2
  refine bodyPost_ret (results_row_tmp2 rfl rfl hB2.out.1 Tryz.underlying30 rfl (by kernel_rfl)) rfl ?_
  exact ⟨rfl, hst.out.keeps⟩
theorem rTake_no {w : World} {e : UInt64} {ab : Option Addr} {M cl : Nat} {LA : Nat → Option Addr} {LN LC : Nat → Nat} {n a : UInt64} {ow cd : Int} (h0 : 0 ≤ ow) (h8 : ow ≤ 8) (hcd : cd ≠ 0)
  (hF : ∀ w', Keeps Nil w w' → Calls Tryz.prog 60 #[.agg #[.int .u64 (e.toNat : Int), .slice ab M cl, .slice (LA 0) (LN 0) (LC 0), .slice (LA 1) (LN 1) (LC 1), .slice (LA 2) (LN 2) (LC 2), .slice (LA 3) (LN 3) (LC 3), .slice (LA 4) (LN 4) (LC 4), .slice (LA 5) (LN 5) (LC 5), .slice (LA 6) (LN 6) (LC 6), .slice (LA 7) (LN 7) (LC 7)], .int .u64 (n.toNat : Int), .int .u64 (a.toNat : Int)] w' fun e' w2 => e' = .returned (.tuple #[.int .i64 0, .int .u64 0, .int .u64 0, .int .i64 cd]) ∧ Keeps Nil w' w2) :
  Calls Tryz.prog 63 #[.agg #[.int .u64 (e.toNat : Int), .slice ab M cl, .slice (LA 0) (LN 0) (LC 0), .slice (LA 1) (LN 1) (LC 1), .slice (LA 2) (LN 2) (LC 2), .slice (LA 3) (LN 3) (LC 3), .slice (LA 4) (LN 4) (LC 4), .slice (LA 5) (LN 5) (LC 5), .slice (LA 6) (LN 6) (LC 6), .slice (LA 7) (LN 7) (LC 7)], .int .i64 ow, .int .u64 (n.toNat : Int), .int .u64 (a.toNat : Int)] w fun e' w' => e' = .returned (.tuple #[.agg #[.int .u64 (e.toNat : Int), .slice ab M cl, .slice (LA 0) (LN 0) (LC 0), .slice (LA 1) (LN 1) (LC 1), .slice (LA 2) (LN 2) (LC 2), .slice (LA 3) (LN 3) (LC 3), .slice (LA 4) (LN 4) (LC 4), .slice (LA 5) (LN 5) (LC 5), .slice (LA 6) (LN 6) (LC 6), .slice (LA 7) (LN 7) (LC 7)], .int .u64 0, .int .i64 cd]) ∧ Keeps Nil w w' := by
 have d1 : decide (ow < 0) = false := decide_eq_false (by omega)
 have d2 : decide (8 < ow) = false := decide_eq_false (by omega)
 have d3 : (cd != 0) = true := bne_iff_ne.2 hcd
 have HF := qH hF
 clear h0 h8 hcd hF
 have hst := qH (Step.refl Nil w)
 go_enter Tryz.func63, Tryz.ntmps63
 obtain ⟨W1, hW1⟩ := nm (w.alloc (.cells #[.int .u64 (e.toNat : Int), .slice ab M cl, .slice (LA 0) (LN 0) (LC 0), .slice (LA 1) (LN 1) (LC 1), .slice (LA 2) (LN 2) (LC 2), .slice (LA 3) (LN 3) (LC 3), .slice (LA 4) (LN 4) (LC 4), .slice (LA 5) (LN 5) (LC 5), .slice (LA 6) (LN 6) (LC 6), .slice (LA 7) (LN 7) (LC 7)] 30))
 obtain ⟨B1, eB1⟩ := nm (w.heap.size)
 obtain ⟨W2, hW2⟩ := nm (W1.alloc (.cells #[.int .u64 0, .slice none 0 0, .slice none 0 0, .slice none 0 0, .slice none 0 0, .slice none 0 0, .slice none 0 0, .slice none 0 0, .slice none 0 0, .slice none 0 0] 30))
 obtain ⟨B2, eB2⟩ := nm (w.heap.size + 1)
 go_wp2_with fail
 rw [← hW1.out]
 rw [← hW2.out]
 try rw [← eB2.out]
 try rw [← eB1.out]
 have k1 := kA hW1
 have e0B1 := eB1.out
 have hB1 := zB hW1 (Bx.new Nil.lt _ _ e0B1)
 have gB1 := gZ e0B1 hst
 replace hst := sN hst k1
 clear k1 e0B1
 have k2 := kA hW2
 have e0B2 : B2 = W1.heap.size := by rw [eB2.out, hW1.out]; simp []
 have hB2 := zB hW2 (Bx.new Nil.lt _ _ e0B2)
 have gB2 := gZ e0B2 hst
 have nB1B2 := nZ e0B2 hB1
 replace hst := sN hst k2
 replace hB1 := bN hB1 k2
 clear k2 e0B2
 refine (HF.out _ hst.out.keeps).mono ?_
 rintro _ W3 ⟨rfl, kn⟩
 replace hst := sN hst kn
 replace hB1 := bN hB1 kn
 replace hB2 := bN hB2 kn
 clear kn
 have c_B1_0 := cB hB1 0
 have c_B1_1 := cB hB1 1
 have c_B1_2 := cB hB1 2
 have c_B1_3 := cB hB1 3
 have c_B1_4 := cB hB1 4
 have c_B1_5 := cB hB1 5
 have c_B1_6 := cB hB1 6
 have c_B1_7 := cB hB1 7
 have c_B1_8 := cB hB1 8
 have c_B1_9 := cB hB1 9
 have l_B1 := hB1.out.lt
 have c_B2_0 := cB hB2 0
 have c_B2_1 := cB hB2 1
 have c_B2_2 := cB hB2 2
 have c_B2_3 := cB hB2 3
 have c_B2_4 := cB hB2 4
 have c_B2_5 := cB hB2 5
 have c_B2_6 := cB hB2 6
 have c_B2_7 := cB hB2 7
 have c_B2_8 := cB hB2 8
 have c_B2_9 := cB hB2 9
 have l_B2 := hB2.out.lt
 have ne_B1_B2 := nH nB1B2
 have ne_B2_B1 := nG nB1B2
 obtain ⟨W4, hW4⟩ := nm (((((((((((W3.setCell ⟨B2, 0, none⟩ (.int .u64 (e.toNat : Int))).setCell ⟨B2, 1, none⟩ (.slice ab M cl)).setCell ⟨B2, 2, none⟩ (.slice (LA 0) (LN 0) (LC 0))).setCell ⟨B2, 3, none⟩ (.slice (LA 1) (LN 1) (LC 1))).setCell ⟨B2, 4, none⟩ (.slice (LA 2) (LN 2) (LC 2))).setCell ⟨B2, 5, none⟩ (.slice (LA 3) (LN 3) (LC 3))).setCell ⟨B2, 6, none⟩ (.slice (LA 4) (LN 4) (LC 4))).setCell ⟨B2, 7, none⟩ (.slice (LA 5) (LN 5) (LC 5))).setCell ⟨B2, 8, none⟩ (.slice (LA 6) (LN 6) (LC 6))).setCell ⟨B2, 9, none⟩ (.slice (LA 7) (LN 7) (LC 7))))
 go_wp2_with fail
 all_goals first | (rename_i h; exact (hB2.out.frz_no h).elim) | skip
 clear c_B1_0 c_B1_1 c_B1_2 c_B1_3 c_B1_4 c_B1_5 c_B1_6 c_B1_7 c_B1_8 c_B1_9 l_B1 c_B2_0 c_B2_1 c_B2_2 c_B2_3 c_B2_4 c_B2_5 c_B2_6 c_B2_7 c_B2_8 c_B2_9 l_B2 ne_B1_B2 ne_B2_B1
 rw [← hW4.out]
 replace hst := zS hW4 (hst.out.set10 gB2.out)
 replace hB1 := zB hW4 (hB1.out.other10 (Nat.ne_of_lt nB1B2.out))
 replace hB2 := zB hW4 (hB2.out.set10 )
 refine bodyPost_ret (results_row_tmp2 rfl rfl hB2.out.1 Tryz.underlying30 rfl (by kernel_rfl)) rfl ?_
 exact ⟨rfl, hst.out.keeps⟩
theorem nodup_len {α : Type} [BEq α] [LawfulBEq α] : ∀ {l m : List α}, l.Nodup → (∀ x ∈ l, x ∈ m) → l.length ≤ m.length
 | [], m, _, _ => Nat.zero_le _
 | x :: l, m, hn, hs => by
   obtain ⟨h1, h2⟩ := List.nodup_cons.1 hn
   have hx : x ∈ m := hs x (by simp)
   have h3 := List.length_erase_of_mem hx
   have h4 : 0 < m.length := List.length_pos_iff.2 (fun e => by rw [e] at hx; simp at hx)
   have := nodup_len (m := m.erase x) h2 (fun y hy => (List.mem_erase_of_ne (fun e => h1 (by rw [← e]; exact hy))).2 (hs y (by simp [hy])))
   rw [List.length_cons]; omega
theorem Tile.len : ∀ {L : List BlockV} {o e : Nat}, Tile o L e → o + 48 * L.length ≤ e
 | [], o, e, h => by have h : o = e := h; simp; omega
 | b :: L, o, e, h => by
   obtain ⟨h1, h2, h3⟩ := h
   have := h3.len
   have hz : b.z = b.off.toNat + b.tag.size.toNat := rfl
   have := h2.sz
   rw [List.length_cons]; omega
theorem Wd.lens {f : UInt64 → UInt64} {e : UInt64} {H : List BlockV} {Ls : Nat → List UInt64} {K : UInt64 → UInt64 → Prop} (h : Wd f e H Ls K) (c : Nat) (hc : c < 8) : (Ls c).length ≤ H.length := by
 have := nodup_len (m := H.map (·.off)) (h.nodup c hc) (fun x hx => by
  obtain ⟨b, hb, _, _, rfl⟩ := (h.own c hc x).1 hx
  exact List.mem_map.2 ⟨b, hb, rfl⟩)
 simpa using this
section
variable {f : UInt64 → UInt64} {e : UInt64} {E : Nat} {H : List BlockV} {b : BlockV} {Ls : Nat → List UInt64} {K : UInt64 → UInt64 → Prop}
theorem one_of (hl : Lay E H) (hb : b ∈ H) (ht : Tagged f b) (h16 : (f 16).toNat = E) : oneB f b.off = true ∧ oneT f b.off = b := by
 obtain ⟨ok, o16, o37, oz⟩ := hl.ok b hb
 have n := hl.nums hb
 obtain ⟨t1, t2, t3⟩ := ht
 have hr : readB f b.off = true := by
  unfold readB
  rw [t1, isTag_pack ok.1, unpack_pack ok.1, t2]
  rw [show inT (f 16) b.off b.tag.size = true from decide_eq_true ⟨o16, o37, by rw [h16]; omega, by rw [h16]; omega⟩]
  simp
 have hrt : readT f b.off = b.tag := by rw [readT_yes hr, t1, unpack_pack ok.1]
 have h2 := ok.2
 refine ⟨?_, ?_⟩
 ·unfold oneB lenB
  rw [hr, hrt]
  cases hu : b.tag.used with
  | false => rfl
  | true =>
    rw [if_pos hu] at h2
    rw [t3 hu, h2.1, decide_eq_true h2.2]; rfl
 ·unfold oneT
  rw [hrt]
  cases hu : b.tag.used with
  | false =>
    rw [if_neg (by rw [hu]; decide)] at h2
    rw [if_neg (by decide)]
    rw [← h2]
  | true => rw [if_pos rfl, t3 hu]
theorem scan_of (h16 : (f 16).toNat = E) : ∀ {L : List BlockV} {o : UInt64} {n : Nat}, (∀ b ∈ L, oneB f b.off = true ∧ oneT f b.off = b) → Tile o.toNat L E → E ≤ 4800 → L.length ≤ n → scanF f n o = some L
 | [], o, n, _, h, _, _ => by
   have h : o.toNat = E := h
   exact scan_end (by omega)
 | b :: L, o, n, hall, h, hE, hn => by
   obtain ⟨h1, h2, h3⟩ := h
   have ho : b.off = o := UInt64.toNat_inj.1 h1
   subst ho
   obtain ⟨q1, q2⟩ := hall b (by simp)
   have hsz := h2.sz
   have hz : b.z = b.off.toNat + b.tag.size.toNat := rfl
   have hle := h3.len
   have hn1 : 1 ≤ n := by simp at hn; omega
   obtain ⟨m, rfl⟩ : ∃ m, n = m + 1 := ⟨n - 1, by omega⟩
   have e1 : (b.off + b.tag.size).toNat = b.z := by rw [UInt64.toNat_add]; omega
   rw [scan_step (by omega) q1, q2, scan_of h16 (fun x hx => hall x (List.mem_cons_of_mem _ hx)) (by rw [e1]; exact h3) hE (by simp at hn; omega)]
   rfl
theorem Wd.walk (h : Wd f e H Ls K) (ht : Tile 3776 H e.toNat) (he : e.toNat ≤ 4800) : walkB 4800 f = true ∧ walkL 4800 f = H := by
 have hl := ht.lay he
 have h16 : (f 16).toNat = e.toNat := by rw [h.e16]
 have hlen := ht.len
 have hs : walkF f = some H := scan_of h16 (o := 3776) (fun b hb => one_of hl hb (h.tags b hb) h16) ht he (by unfold rounds; omega)
 have hb : walkB 4800 f = true := by unfold walkB; rw [h.chk, hs]; rfl
 exact ⟨hb, by unfold walkL; rw [if_pos hb, hs]; rfl⟩
theorem Wd.checkT (h : Wd f e H Ls K) (hl : Lay E H) : ∃ T : Tr, T.Heap mixU ∧ T.list = sortF (cmpF f) (freeOf H) ∧ checkT f T = true := by
 obtain ⟨s1, s2, s3⟩ := hl.spot
 obtain ⟨T, h1, h2, h3⟩ := Stands.checks s1 (h.tree.stands s2) (k := freeOf H) s2 (fun x hx => s1.nz hx)
 exact ⟨T, h1, h2, h3.2 (fun x => Iff.rfl)⟩
end
end
section
open Go.RowKit PT
theorem takeV_own {h : HeapV} {owner : Int} {n a : UInt64} (ho : owner < 0 ∨ 8 < owner) : takeV h owner n a = (h, 0, 1) := if_pos ho
theorem takeV_no {h : HeapV} {owner : Int} {n a : UInt64} (h0 : 0 ≤ owner) (h8 : owner ≤ 8) (hc : fitC h.1 n a ≠ 0) : takeV h owner n a = (h, 0, fitC h.1 n a) := by
 unfold takeV
 rw [if_neg (by omega), if_neg hc]
theorem takeV_yes {h : HeapV} {owner : Int} {n a : UInt64} (h0 : 0 ≤ owner) (h8 : owner ≤ 8) (hc : fitC h.1 n a = 0) {j : Nat} {b : BlockV} (hj : fitJ h.1 n a = some j) (hb : h.1[j]? = some b) :
  takeV h owner n a = ((takeB h.1 j b n a owner, updO h.2 (usedB b n a owner)), (usedB b n a owner).off + 32, 0) := by
 unfold takeV
 rw [if_neg (by omega), if_pos hc, hj]
 simp only [hb]
theorem fitC_cases (H : List BlockV) (n a : UInt64) : fitC H n a ≠ 0 ∨ (fitC H n a = 0 ∧ ∃ j b, fitJ H n a = some j ∧ H[j]? = some b ∧ alignB a = true ∧ needB n = true ∧ fitB (needU n) a b = true) := by
  cases hal : alignB a with
  | false => rw [fitC_align hal]; exact .inl (by decide)
  | true =>
    cases hnb : needB n with
    | false => rw [fitC_size hal hnb]; exact .inl (by decide)
    | true =>
      cases hj : fitJ H n a with
      | none => rw [fitC_none hal hnb hj]; exact .inl (by decide)
      | some j =>
        have hs := bestF_spec (fitB (needU n) a) H H.length (Nat.le_refl _)
        have hj' := hj
        unfold fitJ at hj'
        rw [hj'] at hs
        obtain ⟨_, b, h2, h3, _⟩ := hs
        exact .inr ⟨fitC_some hal hnb hj, j, b, rfl, h2, rfl, rfl, h3⟩
theorem cFitV_no {H : List BlockV} {n a : UInt64} (h : fitC H n a ≠ 0) : cFitV H n a = .tuple #[.agg #[.int .u64 0, .int .u64 0, .int .u64 0], .int .i64 (fitC H n a)] := if_neg h
theorem rFitV_no {H : List BlockV} {n a : UInt64} (h : fitC H n a ≠ 0) : rFitV H n a = .tuple #[.int .i64 0, .int .u64 0, .int .u64 0, .int .i64 (fitC H n a)] := if_neg h
theorem cFitV_yes {H : List BlockV} {n a : UInt64} {j : Nat} {b : BlockV} (h : fitC H n a = 0) (hj : fitJ H n a = some j) (hb : H[j]? = some b) : cFitV H n a = .tuple #[.agg #[.int .u64 (b.off.toNat : Int), .int .u64 ((padU b.off a).toNat : Int), .int .u64 ((needU n).toNat : Int)], .int .i64 0] := by
 unfold cFitV
 rw [if_pos h, hj]
 simp only [hb, Option.getD_some]
theorem rFitV_yes {H : List BlockV} {n a : UInt64} {j : Nat} {b : BlockV} (h : fitC H n a = 0) (hj : fitJ H n a = some j) (hb : H[j]? = some b) : rFitV H n a = .tuple #[.int .i64 (j : Int), .int .u64 ((padU b.off a).toNat : Int), .int .u64 ((needU n).toNat : Int), .int .i64 0] := by
 unfold rFitV
 rw [if_pos h, hj]
 simp only [hb, Option.getD_some]
theorem takeV_tile {h : HeapV} {owner : Int} {n a : UInt64} {e : Nat} (ht : Tile 3776 h.1 e) (he : e ≤ 4800) : Tile 3776 (takeV h owner n a).1.1 e := by
 by_cases ho : owner < 0 ∨ 8 < owner
 ·rw [takeV_own ho]; exact ht
 ·rcases fitC_cases h.1 n a with hc | ⟨hc, j, b, hj, hb, hal, hnb, hfb⟩
  ·rw [takeV_no (by omega) (by omega) hc]; exact ht
  ·rw [takeV_yes (by omega) (by omega) hc hj hb]
   exact (CutB.mk hb hfb hal hnb ht he).tile' (by omega) (by omega)
theorem Take_ok {w : World} {t : Nat} {S : Nat → Prop} {f : UInt64 → UInt64} {e : UInt64} {H : List BlockV} {Ls : Nat → List UInt64} {K : UInt64 → UInt64 → Prop} {j : Nat} {b : BlockV} {n a : UInt64} {owner : Int}
  (hT : TxF w t f 4800 S) (hW : Wd f e H Ls K) (Z : CutB e.toNat H j b n a) (hj : fitJ H n a = some j) (h0 : 0 ≤ owner) (h8 : owner ≤ 8) :
  Calls Tryz.prog 62 #[.pointer (some ⟨t, 0, none⟩), .int .i64 owner, .int .u64 (n.toNat : Int), .int .u64 (a.toNat : Int)] w fun e' w' => e' = .returned (.tuple #[.int .u64 (((usedB b n a owner).off + 32).toNat : Int), .int .i64 0]) ∧
   ∃ f' S', TxF w' t f' 4800 S' ∧ Wd f' e (takeB H j b n a owner) (updO Ls (usedB b n a owner)) (zeroK (usedB b n a owner) K) ∧ Step S S' w w' := by
 have hfree := Z.free
 have hF := Fit_any n a hT.readsK hT.lt Z.lay hW
 rw [cFitV_yes (fitC_some Z.al Z.need hj) hj Z.at_] at hF
 have hsp := Z.split
 have hl := Z.lay
 obtain ⟨A, hA⟩ : ∃ A, A = H.take j := ⟨_, rfl⟩
 obtain ⟨C, hC⟩ : ∃ C, C = H.drop (j + 1) := ⟨_, rfl⟩
 obtain ⟨G1, F1⟩ := Z.gap1
 obtain ⟨G2, F2⟩ := Z.gap2
 have F3 := Z.fits h0 h8
 rw [← hA] at G1 F1 G2 F2 F3
 rw [← hC] at G1 F1 G2 F2 F3
 rw [← hA, ← hC] at hsp
 unfold takeB
 rw [← hA, ← hC]
 rw [hsp] at hW hl
 obtain ⟨bo, ⟨bs, bu, bw⟩, bl⟩ := b
 have hbu : bu = false := hfree
 subst hbu
 have how : owner = 0 ∨ ∃ c : UInt64, c.toNat < 8 ∧ owner = (c.toNat : Int) + 1 := by
  by_cases h : owner = 0
  ·exact .inl h
  ·refine .inr ⟨UInt64.ofNat (owner - 1).toNat, ?_, ?_⟩ <;> rw [UInt64.toNat_ofNat'] <;> omega
 clear G1 G2 hA hC
 by_cases hp : 0 < (padU bo a).toNat
 ·have eP : padL (⟨bo, ⟨bs, false, bw⟩, bl⟩ : BlockV) a = [⟨bo, ⟨padU bo a, false, 0⟩, 0⟩] := if_pos hp
  rw [eP] at F2 F3 ⊢
  replace F1 := F1 hp
  by_cases hr : (restU (⟨bo, ⟨bs, false, bw⟩, bl⟩ : BlockV) n a).toNat < 48
  ·have eR : restL (⟨bo, ⟨bs, false, bw⟩, bl⟩ : BlockV) n a = [] := if_pos hr
   have eU : usedB (⟨bo, ⟨bs, false, bw⟩, bl⟩ : BlockV) n a owner = ⟨bo + padU bo a, ⟨needU n + restU (⟨bo, ⟨bs, false, bw⟩, bl⟩ : BlockV) n a, true, owner⟩, n⟩ := by unfold usedB; rw [if_pos hr]
   rw [eR, eU] at F3 ⊢
   rcases how with rfl | ⟨c, hc, ho⟩
   · exact Take_100 hT hW hl hF rfl rfl hp F1 hr rfl F3
   · exact Take_101 hT hW hl hF rfl rfl hp F1 hr rfl F3 hc ho
  ·have eR : restL (⟨bo, ⟨bs, false, bw⟩, bl⟩ : BlockV) n a = [⟨bo + padU bo a + needU n, ⟨restU (⟨bo, ⟨bs, false, bw⟩, bl⟩ : BlockV) n a, false, 0⟩, 0⟩] := if_neg hr
   have eU : usedB (⟨bo, ⟨bs, false, bw⟩, bl⟩ : BlockV) n a owner = ⟨bo + padU bo a, ⟨needU n, true, owner⟩, n⟩ := by unfold usedB; rw [if_neg hr]
   replace F2 := F2 hr
   rw [eR, eU] at F3 ⊢
   rcases how with rfl | ⟨c, hc, ho⟩
   · exact Take_110 hT hW hl hF rfl rfl hp F1 hr rfl rfl F2 F3
   · exact Take_111 hT hW hl hF rfl rfl hp F1 hr rfl rfl F2 F3 hc ho
 ·have eP : padL (⟨bo, ⟨bs, false, bw⟩, bl⟩ : BlockV) a = [] := if_neg hp
  rw [eP, List.append_nil] at F2 F3 ⊢
  by_cases hr : (restU (⟨bo, ⟨bs, false, bw⟩, bl⟩ : BlockV) n a).toNat < 48
  ·have eR : restL (⟨bo, ⟨bs, false, bw⟩, bl⟩ : BlockV) n a = [] := if_pos hr
   have eU : usedB (⟨bo, ⟨bs, false, bw⟩, bl⟩ : BlockV) n a owner = ⟨bo + padU bo a, ⟨needU n + restU (⟨bo, ⟨bs, false, bw⟩, bl⟩ : BlockV) n a, true, owner⟩, n⟩ := by unfold usedB; rw [if_pos hr]
   rw [eR, eU] at F3 ⊢
   rcases how with rfl | ⟨c, hc, ho⟩
   · exact Take_000 hT hW hl hF rfl rfl hp hr rfl F3
   · exact Take_001 hT hW hl hF rfl rfl hp hr rfl F3 hc ho
  ·have eR : restL (⟨bo, ⟨bs, false, bw⟩, bl⟩ : BlockV) n a = [⟨bo + padU bo a + needU n, ⟨restU (⟨bo, ⟨bs, false, bw⟩, bl⟩ : BlockV) n a, false, 0⟩, 0⟩] := if_neg hr
   have eU : usedB (⟨bo, ⟨bs, false, bw⟩, bl⟩ : BlockV) n a owner = ⟨bo + padU bo a, ⟨needU n, true, owner⟩, n⟩ := by unfold usedB; rw [if_neg hr]
   replace F2 := F2 hr
   rw [eR, eU] at F3 ⊢
   rcases how with rfl | ⟨c, hc, ho⟩
   · exact Take_010 hT hW hl hF rfl rfl hp hr rfl rfl F2 F3
   · exact Take_011 hT hW hl hF rfl rfl hp hr rfl rfl F2 F3 hc ho
theorem Take_any {w : World} {t : Nat} {S : Nat → Prop} {f : UInt64 → UInt64} {e : UInt64} {h : HeapV} {K : UInt64 → UInt64 → Prop} (hT : TxF w t f 4800 S) (hW : Wd f e h.1 h.2 K) (ht : Tile 3776 h.1 e.toNat) (he : e.toNat ≤ 4800) (owner : Int) (n a : UInt64) :
  Calls Tryz.prog 62 #[.pointer (some ⟨t, 0, none⟩), .int .i64 owner, .int .u64 (n.toNat : Int), .int .u64 (a.toNat : Int)] w fun e' w' => e' = .returned (.tuple #[.int .u64 ((takeV h owner n a).2.1.toNat : Int), .int .i64 (takeV h owner n a).2.2]) ∧
   ∃ f' S' K', TxF w' t f' 4800 S' ∧ Wd f' e (takeV h owner n a).1.1 (takeV h owner n a).1.2 K' ∧ Step S S' w w' := by
 by_cases ho : owner < 0 ∨ 8 < owner
 ·rw [takeV_own ho]
  refine (Take_own ho).mono ?_
  rintro e' w' ⟨rfl, k⟩
  exact ⟨rfl, f, S, K, hT.nil k, hW, (Step.refl S w).nil k⟩
 ·rcases fitC_cases h.1 n a with hc | ⟨hc, j, b, hj, hb, hal, hnb, hfb⟩
  ·rw [takeV_no (by omega) (by omega) hc]
   have hF := Fit_any n a hT.readsK hT.lt (ht.lay he) hW
   rw [cFitV_no hc] at hF
   refine (Take_no (by omega) (by omega) hc hF).mono ?_
   rintro e' w' ⟨rfl, k⟩
   exact ⟨rfl, f, S, K, hT.nil k, hW, (Step.refl S w).nil k⟩
  ·rw [takeV_yes (by omega) (by omega) hc hj hb]
   refine (Take_ok hT hW ⟨hb, hfb, hal, hnb, ht, he⟩ hj (by omega) (by omega)).mono ?_
   rintro e' w' ⟨rfl, f', S', h1, h2, h3⟩
   exact ⟨rfl, f', S', _, h1, h2, h3⟩
def HeapX (S : Nat → Prop) (w : World) (e : UInt64) (hv : Value) (h : HeapV) : Prop := ∃ (ab : Option Addr) (cl : Nat) (LA : Nat → Option Addr) (LN LC : Nat → Nat),
 hv = .agg #[.int .u64 (e.toNat : Int), .slice ab h.1.length cl, .slice (LA 0) (LN 0) (LC 0), .slice (LA 1) (LN 1) (LC 1), .slice (LA 2) (LN 2) (LC 2), .slice (LA 3) (LN 3) (LC 3), .slice (LA 4) (LN 4) (LC 4), .slice (LA 5) (LN 5) (LC 5), .slice (LA 6) (LN 6) (LC 6), .slice (LA 7) (LN 7) (LC 7)] ∧
    View kRB S w (.slice ab h.1.length cl) h.1 ∧ ∀ c, c < 8 → View kU S w (.slice (LA c) (LN c) (LC c)) (h.2 c)
theorem HeapX.nil {S : Nat → Prop} {w w' : World} {e : UInt64} {hv : Value} {h : HeapV} (H : HeapX S w e hv h) (k : Keeps Nil w w') : HeapX S w' e hv h := by
 obtain ⟨ab, cl, LA, LN, LC, h1, h2, h3⟩ := H
 exact ⟨ab, cl, LA, LN, LC, h1, h2.keeps_nil k, fun c hc => (h3 c hc).keeps_nil k⟩
theorem HeapX.steps {S S' : Nat → Prop} {w w' : World} {e : UInt64} {hv : Value} {h : HeapV} (H : HeapX S w e hv h) (k : Step S S' w w') : HeapX S' w' e hv h := by
 obtain ⟨ab, cl, LA, LN, LC, h1, h2, h3⟩ := H
 exact ⟨ab, cl, LA, LN, LC, h1, h2.steps k, fun c hc => (h3 c hc).steps k⟩
theorem HeapX.of {S : Nat → Prop} {w w' : World} {e : UInt64} {vb : Value} {LA : Nat → Option Addr} {LN LC : Nat → Nat} {H : List BlockV} {Ls : Nat → List UInt64} (hS : ∀ k, S k → k < w.heap.size) (ho : Own kRB w' w.heap.size vb H)
  (hL : ∀ c, c < 8 → View kU S w' (.slice (LA c) (LN c) (LC c)) (Ls c)) : HeapX S w' e (.agg #[.int .u64 (e.toNat : Int), vb, .slice (LA 0) (LN 0) (LC 0), .slice (LA 1) (LN 1) (LC 1), .slice (LA 2) (LN 2) (LC 2), .slice (LA 3) (LN 3) (LC 3), .slice (LA 4) (LN 4) (LC 4), .slice (LA 5) (LN 5) (LC 5), .slice (LA 6) (LN 6) (LC 6), .slice (LA 7) (LN 7) (LC 7)]) (H, Ls) := by
 obtain ⟨a, c, rfl⟩ := ho.valN
 exact ⟨a, c, LA, LN, LC, rfl, ho.view (S := S) (fun g hg e => absurd (hS g e) (Nat.not_lt.2 hg)), hL⟩
theorem HeapX.upd {S : Nat → Prop} {w w' : World} {LA : Nat → Option Addr} {LN LC : Nat → Nat} {Ls : Nat → List UInt64} {b : BlockV} {c : Nat} {aF : Option Addr} {nF cF : Nat} (hS : ∀ k, S k → k < w.heap.size) (hb : b.tag.owner = (c : Int) + 1) (k : Keeps Nil w w')
  (hL : ∀ c, c < 8 → View kU S w (.slice (LA c) (LN c) (LC c)) (Ls c)) (ho : Own kU w' w.heap.size (.slice aF nF cF) (b.off :: Ls c)) : ∀ i, i < 8 → View kU S w' (.slice (famU LA c aF i) (famU LN c nF i) (famU LC c cF i)) (updO Ls b i) := fun i hi => by
 unfold famU updO
 by_cases e : i = c
 ·subst e
  rw [if_pos rfl, if_pos rfl, if_pos rfl, if_pos hb]
  exact ho.view (S := S) (fun g hg e => absurd (hS g e) (Nat.not_lt.2 hg))
 ·rw [if_neg e, if_neg e, if_neg e, if_neg (by rw [hb]; omega)]
  exact (hL i hi).keeps_nil k
theorem updO_none {Ls : Nat → List UInt64} {b : BlockV} (h : b.tag.owner = 0) : updO Ls b = Ls := by
  funext c; unfold updO; rw [if_neg (by omega)]
theorem rTake_ok {S : Nat → Prop} {w : World} {e : UInt64} {hv : Value} {h : HeapV} {E j : Nat} {b : BlockV} {n a : UInt64} {owner : Int} (hX : HeapX S w e hv h) (hS : ∀ k, S k → k < w.heap.size) (Z : CutB E h.1 j b n a) (hj : fitJ h.1 n a = some j) (h0 : 0 ≤ owner) (h8 : owner ≤ 8)
    (hlen : h.1.length ≤ 65535) (hll : ∀ c, c < 8 → (h.2 c).length ≤ 65535) :
    Calls Tryz.prog 63 #[hv, .int .i64 owner, .int .u64 (n.toNat : Int), .int .u64 (a.toNat : Int)] w fun e' w' => ∃ hv', e' = .returned (.tuple #[hv', .int .u64 (((usedB b n a owner).off + 32).toNat : Int), .int .i64 0]) ∧
      HeapX S w' e hv' (takeB h.1 j b n a owner, updO h.2 (usedB b n a owner)) ∧ Keeps Nil w w' := by
  obtain ⟨H, Ls⟩ := h
  obtain ⟨ab, cl, LA, LN, LC, rfl, hv0, hLv⟩ := hX
  simp only at Z hj hlen hll hv0 hLv ⊢
  have hfree := Z.free
  have hF : ∀ w', Keeps Nil w w' → _ := fun w' k => rFit_any (e := e) n a Z.lay (hv0.keeps_nil k) (by omega : H.length ≤ 4294967290) (L0 := .slice (LA 0) (LN 0) (LC 0)) (L1 := .slice (LA 1) (LN 1) (LC 1)) (L2 := .slice (LA 2) (LN 2) (LC 2)) (L3 := .slice (LA 3) (LN 3) (LC 3)) (L4 := .slice (LA 4) (LN 4) (LC 4)) (L5 := .slice (LA 5) (LN 5) (LC 5)) (L6 := .slice (LA 6) (LN 6) (LC 6)) (L7 := .slice (LA 7) (LN 7) (LC 7))
  rw [rFitV_yes (fitC_some Z.al Z.need hj) hj Z.at_] at hF
  have hat := Z.at_
  obtain ⟨bo, ⟨bs, bu, bw⟩, bl⟩ := b
  have hbu : bu = false := hfree
  subst hbu
  have how : owner = 0 ∨ ∃ c : Nat, c < 8 ∧ owner = (c : Int) + 1 := by
    by_cases h : owner = 0
    · exact .inl h
    · exact .inr ⟨(owner - 1).toNat, by omega, by omega⟩
  unfold takeB
  by_cases hp : 0 < (padU bo a).toNat
  · have eP : padL (⟨bo, ⟨bs, false, bw⟩, bl⟩ : BlockV) a = [⟨bo, ⟨padU bo a, false, 0⟩, 0⟩] := if_pos hp
    rw [eP]
    by_cases hr : (restU (⟨bo, ⟨bs, false, bw⟩, bl⟩ : BlockV) n a).toNat < 48
    · have eR : restL (⟨bo, ⟨bs, false, bw⟩, bl⟩ : BlockV) n a = [] := if_pos hr
      have eU : usedB (⟨bo, ⟨bs, false, bw⟩, bl⟩ : BlockV) n a owner = ⟨bo + padU bo a, ⟨needU n + restU (⟨bo, ⟨bs, false, bw⟩, bl⟩ : BlockV) n a, true, owner⟩, n⟩ := by unfold usedB; rw [if_pos hr]
      rw [eR, eU]
      rcases how with rfl | ⟨c, hc, ho⟩
      · refine (rTake_100 (rs := restU (⟨bo, ⟨bs, false, bw⟩, bl⟩ : BlockV) n a) hv0 hS hat hlen hF rfl rfl hp hr rfl).mono ?_
        rintro e' w' ⟨vb, rfl, o1, k⟩
        exact ⟨_, rfl, by rw [updO_none rfl]; exact HeapX.of hS (by simpa using o1) (fun c hc => (hLv c hc).keeps_nil k), k⟩
      · refine (rTake_101 (rs := restU (⟨bo, ⟨bs, false, bw⟩, bl⟩ : BlockV) n a) hv0 hS hat hlen hF rfl rfl hp hr rfl hLv hc ho (hll c hc)).mono ?_
        rintro e' w' ⟨vb, aF, nF, cF, rfl, o1, k, o2⟩
        exact ⟨_, rfl, HeapX.of hS (by simpa using o1) (HeapX.upd (b := ⟨bo + padU bo a, ⟨needU n + restU (⟨bo, ⟨bs, false, bw⟩, bl⟩ : BlockV) n a, true, owner⟩, n⟩) hS ho k hLv o2), k⟩
    · have eR : restL (⟨bo, ⟨bs, false, bw⟩, bl⟩ : BlockV) n a = [⟨bo + padU bo a + needU n, ⟨restU (⟨bo, ⟨bs, false, bw⟩, bl⟩ : BlockV) n a, false, 0⟩, 0⟩] := if_neg hr
      have eU : usedB (⟨bo, ⟨bs, false, bw⟩, bl⟩ : BlockV) n a owner = ⟨bo + padU bo a, ⟨needU n, true, owner⟩, n⟩ := by unfold usedB; rw [if_neg hr]
      rw [eR, eU]
      rcases how with rfl | ⟨c, hc, ho⟩
      · refine (rTake_110 (rs := restU (⟨bo, ⟨bs, false, bw⟩, bl⟩ : BlockV) n a) hv0 hS hat hlen hF rfl rfl hp hr rfl rfl).mono ?_
        rintro e' w' ⟨vb, rfl, o1, k⟩
        exact ⟨_, rfl, by rw [updO_none rfl]; exact HeapX.of hS (by simpa using o1) (fun c hc => (hLv c hc).keeps_nil k), k⟩
      · refine (rTake_111 (rs := restU (⟨bo, ⟨bs, false, bw⟩, bl⟩ : BlockV) n a) hv0 hS hat hlen hF rfl rfl hp hr rfl rfl hLv hc ho (hll c hc)).mono ?_
        rintro e' w' ⟨vb, aF, nF, cF, rfl, o1, k, o2⟩
        exact ⟨_, rfl, HeapX.of hS (by simpa using o1) (HeapX.upd (b := ⟨bo + padU bo a, ⟨needU n, true, owner⟩, n⟩) hS ho k hLv o2), k⟩
  · have eP : padL (⟨bo, ⟨bs, false, bw⟩, bl⟩ : BlockV) a = [] := if_neg hp
    rw [eP, List.append_nil]
    by_cases hr : (restU (⟨bo, ⟨bs, false, bw⟩, bl⟩ : BlockV) n a).toNat < 48
    · have eR : restL (⟨bo, ⟨bs, false, bw⟩, bl⟩ : BlockV) n a = [] := if_pos hr
      have eU : usedB (⟨bo, ⟨bs, false, bw⟩, bl⟩ : BlockV) n a owner = ⟨bo + padU bo a, ⟨needU n + restU (⟨bo, ⟨bs, false, bw⟩, bl⟩ : BlockV) n a, true, owner⟩, n⟩ := by unfold usedB; rw [if_pos hr]
      rw [eR, eU]
      rcases how with rfl | ⟨c, hc, ho⟩
      · refine (rTake_000 (rs := restU (⟨bo, ⟨bs, false, bw⟩, bl⟩ : BlockV) n a) hv0 hS hat hlen hF rfl rfl hp hr rfl).mono ?_
        rintro e' w' ⟨vb, rfl, o1, k⟩
        exact ⟨_, rfl, by rw [updO_none rfl]; exact HeapX.of hS (by simpa using o1) (fun c hc => (hLv c hc).keeps_nil k), k⟩
      · refine (rTake_001 (rs := restU (⟨bo, ⟨bs, false, bw⟩, bl⟩ : BlockV) n a) hv0 hS hat hlen hF rfl rfl hp hr rfl hLv hc ho (hll c hc)).mono ?_
        rintro e' w' ⟨vb, aF, nF, cF, rfl, o1, k, o2⟩
        exact ⟨_, rfl, HeapX.of hS (by simpa using o1) (HeapX.upd (b := ⟨bo + padU bo a, ⟨needU n + restU (⟨bo, ⟨bs, false, bw⟩, bl⟩ : BlockV) n a, true, owner⟩, n⟩) hS ho k hLv o2), k⟩
    · have eR : restL (⟨bo, ⟨bs, false, bw⟩, bl⟩ : BlockV) n a = [⟨bo + padU bo a + needU n, ⟨restU (⟨bo, ⟨bs, false, bw⟩, bl⟩ : BlockV) n a, false, 0⟩, 0⟩] := if_neg hr
      have eU : usedB (⟨bo, ⟨bs, false, bw⟩, bl⟩ : BlockV) n a owner = ⟨bo + padU bo a, ⟨needU n, true, owner⟩, n⟩ := by unfold usedB; rw [if_neg hr]
      rw [eR, eU]
      rcases how with rfl | ⟨c, hc, ho⟩
      · refine (rTake_010 (rs := restU (⟨bo, ⟨bs, false, bw⟩, bl⟩ : BlockV) n a) hv0 hS hat hlen hF rfl rfl hp hr rfl rfl).mono ?_
        rintro e' w' ⟨vb, rfl, o1, k⟩
        exact ⟨_, rfl, by rw [updO_none rfl]; exact HeapX.of hS (by simpa using o1) (fun c hc => (hLv c hc).keeps_nil k), k⟩
      · refine (rTake_011 (rs := restU (⟨bo, ⟨bs, false, bw⟩, bl⟩ : BlockV) n a) hv0 hS hat hlen hF rfl rfl hp hr rfl rfl hLv hc ho (hll c hc)).mono ?_
        rintro e' w' ⟨vb, aF, nF, cF, rfl, o1, k, o2⟩
        exact ⟨_, rfl, HeapX.of hS (by simpa using o1) (HeapX.upd (b := ⟨bo + padU bo a, ⟨needU n, true, owner⟩, n⟩) hS ho k hLv o2), k⟩
theorem rTake_any {S : Nat → Prop} {w : World} {e : UInt64} {hv : Value} {h : HeapV} {E : Nat} (hX : HeapX S w e hv h) (hS : ∀ k, S k → k < w.heap.size) (ht : Tile 3776 h.1 E) (he : E ≤ 4800) (hll : ∀ c, c < 8 → (h.2 c).length ≤ h.1.length) (owner : Int) (n a : UInt64) :
    Calls Tryz.prog 63 #[hv, .int .i64 owner, .int .u64 (n.toNat : Int), .int .u64 (a.toNat : Int)] w fun e' w' => ∃ hv', e' = .returned (.tuple #[hv', .int .u64 ((takeV h owner n a).2.1.toNat : Int), .int .i64 (takeV h owner n a).2.2]) ∧
      HeapX S w' e hv' (takeV h owner n a).1 ∧ Keeps Nil w w' := by
  have hlen := ht.len
  by_cases ho : owner < 0 ∨ 8 < owner
  · rw [takeV_own ho]
    obtain ⟨ab, cl, LA, LN, LC, rfl, hv0, hLv⟩ := hX
    refine (rTake_own ho).mono ?_
    rintro e' w' ⟨rfl, k⟩
    exact ⟨_, rfl, ⟨ab, cl, LA, LN, LC, rfl, hv0.keeps_nil k, fun c hc => (hLv c hc).keeps_nil k⟩, k⟩
  · rcases fitC_cases h.1 n a with hc | ⟨hc, j, b, hj, hb, hal, hnb, hfb⟩
    · rw [takeV_no (by omega) (by omega) hc]
      obtain ⟨ab, cl, LA, LN, LC, rfl, hv0, hLv⟩ := hX
      refine (rTake_no (by omega) (by omega) hc (fun w' k => ?_)).mono ?_
      · have := rFit_any (e := e) n a (ht.lay he) (hv0.keeps_nil k) (by omega : h.1.length ≤ 4294967290) (L0 := .slice (LA 0) (LN 0) (LC 0)) (L1 := .slice (LA 1) (LN 1) (LC 1)) (L2 := .slice (LA 2) (LN 2) (LC 2)) (L3 := .slice (LA 3) (LN 3) (LC 3)) (L4 := .slice (LA 4) (LN 4) (LC 4)) (L5 := .slice (LA 5) (LN 5) (LC 5)) (L6 := .slice (LA 6) (LN 6) (LC 6)) (L7 := .slice (LA 7) (LN 7) (LC 7))
        rw [rFitV_no hc] at this
        exact this
      rintro e' w' ⟨rfl, k⟩
      exact ⟨_, rfl, ⟨ab, cl, LA, LN, LC, rfl, hv0.keeps_nil k, fun c hc => (hLv c hc).keeps_nil k⟩, k⟩
    · rw [takeV_yes (by omega) (by omega) hc hj hb]
      exact rTake_ok hX hS ⟨hb, hfb, hal, hnb, ht, he⟩ hj (by omega) (by omega) (by omega) (fun c hc => by have := hll c hc; omega)
def f48 : UInt64 → UInt64 := txLoad (formW 4800) []
def blk0 : BlockV := ⟨3776, ⟨1024, false, 0⟩, 0⟩
theorem f48_16 : f48 16 = 4800 := by kernel_rfl
theorem f48_32 : f48 32 = 3776 := by kernel_rfl
theorem f48_chk : chkB 4800 f48 = true := by kernel_rfl
theorem f48_a : f48 3776 = packU ⟨1024, false, 0⟩ := by kernel_rfl
theorem f48_b : f48 4792 = packU ⟨1024, false, 0⟩ := by kernel_rfl
theorem f48_l : f48 3784 = 0 := by kernel_rfl
theorem f48_r : f48 3792 = 0 := by kernel_rfl
theorem f48_h0 : f48 (headU 0) = 0 := by kernel_rfl
theorem f48_h1 : f48 (headU 1) = 0 := by kernel_rfl
theorem f48_h2 : f48 (headU 2) = 0 := by kernel_rfl
theorem f48_h3 : f48 (headU 3) = 0 := by kernel_rfl
theorem f48_h4 : f48 (headU 4) = 0 := by kernel_rfl
theorem f48_h5 : f48 (headU 5) = 0 := by kernel_rfl
theorem f48_h6 : f48 (headU 6) = 0 := by kernel_rfl
theorem f48_h7 : f48 (headU 7) = 0 := by kernel_rfl
theorem f48_h (c : UInt64) (hc : c.toNat < 8) : f48 (headU c) = 0 := by
 have h : c = 0 ∨ c = 1 ∨ c = 2 ∨ c = 3 ∨ c = 4 ∨ c = 5 ∨ c = 6 ∨ c = 7 := by
  have : c.toNat = 0 ∨ c.toNat = 1 ∨ c.toNat = 2 ∨ c.toNat = 3 ∨ c.toNat = 4 ∨ c.toNat = 5 ∨ c.toNat = 6 ∨ c.toNat = 7 := by omega
  rcases this with h | h | h | h | h | h | h | h
  · exact .inl (UInt64.toNat_inj.1 h)
  · exact .inr (.inl (UInt64.toNat_inj.1 h))
  · exact .inr (.inr (.inl (UInt64.toNat_inj.1 h)))
  · exact .inr (.inr (.inr (.inl (UInt64.toNat_inj.1 h))))
  · exact .inr (.inr (.inr (.inr (.inl (UInt64.toNat_inj.1 h)))))
  · exact .inr (.inr (.inr (.inr (.inr (.inl (UInt64.toNat_inj.1 h))))))
  · exact .inr (.inr (.inr (.inr (.inr (.inr (.inl (UInt64.toNat_inj.1 h)))))))
  · exact .inr (.inr (.inr (.inr (.inr (.inr (.inr (UInt64.toNat_inj.1 h)))))))
 rcases h with rfl | rfl | rfl | rfl | rfl | rfl | rfl | rfl
 · exact f48_h0
 · exact f48_h1
 · exact f48_h2
 · exact f48_h3
 · exact f48_h4
 · exact f48_h5
 · exact f48_h6
 · exact f48_h7
theorem init_tile : Tile 3776 [blk0] 4800 := ⟨rfl, ⟨by decide, rfl⟩, rfl⟩
theorem init_of {f : UInt64 → UInt64} (h16 : f 16 = 4800) (h32 : f 32 = 3776) (hc : chkB 4800 f = true) (ha : f 3776 = packU ⟨1024, false, 0⟩) (hb : f 4792 = packU ⟨1024, false, 0⟩) (hl : f 3784 = 0) (hr : f 3792 = 0) (hh : ∀ c : UInt64, c.toNat < 8 → f (headU c) = 0) :
  Wd f 4800 [blk0] (fun _ => []) (fun _ _ => False) := by
 refine ⟨h16, hc, fun b hb' => ?_, ?_, fun c hc' => ⟨by rw [hh c hc']; rfl, fun k y hk => by simp at hk⟩, fun c _ => by simp, fun c _ x => ?_, fun o v h => h.elim⟩
 ·rw [List.mem_singleton.1 hb']
  exact ⟨ha, hb, fun h => by cases h⟩
 ·refine ⟨.node .nil 3776 .nil, ?_, ?_, ?_, fun x => ?_⟩
  ·rw [h32]
   exact ⟨rfl, by decide, hl, hr⟩
  ·simp [Tr.Heap, Tr.list]
  ·simp [Sorted, Tr.list]
  ·show x ∈ [3776] ↔ x ∈ [3776]
   exact Iff.rfl
 ·constructor
  ·intro h; simp at h
  ·rintro ⟨b, hb', hu, _⟩
   rw [List.mem_singleton.1 hb'] at hu
   cases hu
theorem init_wd : Wd f48 4800 [blk0] (fun _ => []) (fun _ _ => False) := init_of f48_16 f48_32 f48_chk f48_a f48_b f48_l f48_r f48_h
end
end Go.Proofs.YtefpbljekfkefaaGreat
