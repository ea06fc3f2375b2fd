/- LayR: merged. -/
import Derived.Test.YtefpbljekfkefaaGreatM15
/- carrackref06.Lay. -/
namespace Go.Proofs.YtefpbljekfkefaaGreat
open Go.RowKit

abbrev PieceV := UInt8 × UInt8 × UInt16
theorem piece_one (b : PieceV) : ∀ u ∈ [Value.int .u8 (b.1.toNat : Int), .int .u8 (b.2.1.toNat : Int), .int .u16 (b.2.2.toNat : Int)], u.oneCell' = true := fun u hu => by
  simp at hu
  rcases hu with rfl | rfl | rfl <;> rfl
abbrev kPc : Kind PieceV := { slice := 67, elem := 202, size := 3, bytes := 4, zero := .agg #[.int .u8 0, .int .u8 0, .int .u16 0], enc := fun b => [.int .u8 (b.1.toNat : Int), .int .u8 (b.2.1.toNat : Int), .int .u16 (b.2.2.toNat : Int)], len := fun _ => rfl, one := piece_one, und := Tryz.underlying67, info := by kernel_rfl, zcells := rfl, pos := by decide, small := by decide }
theorem View.cellPc {w : World} {b off : Nat} {l : List PieceV} (h : ∀ i j, j < kPc.size → i < l.length → w.cell? ⟨b, off + (i * kPc.size + j), none⟩ = (l[i]?).bind (fun x => (kPc.enc x)[j]?)) (i : Nat) (x : PieceV) (hx : l[i]? = some x) :
    w.cell? ⟨b, off + i * 3, none⟩ = some (.int .u8 (x.1.toNat : Int)) ∧ w.cell? ⟨b, off + i * 3 + 1, none⟩ = some (.int .u8 (x.2.1.toNat : Int)) ∧ w.cell? ⟨b, off + i * 3 + 2, none⟩ = some (.int .u16 (x.2.2.toNat : Int)) := by
  have hi : i < l.length := (List.getElem?_eq_some_iff.1 hx).1
  have hk : kPc.size = 3 := rfl
  refine ⟨?_, ?_, ?_⟩
  · have := h i 0 (by rw [hk]; decide) hi; rw [hx] at this; simpa [hk] using this
  · have := h i 1 (by rw [hk]; decide) hi; rw [hx] at this; simpa [hk, Nat.add_assoc] using this
  · have := h i 2 (by rw [hk]; decide) hi; rw [hx] at this; simpa [hk, Nat.add_assoc] using this

def sizeP (p : PieceV) : UInt64 := UInt64.ofNat (48 + 16 * (p.1.toNat % 8))
theorem sizeP_nat (p : PieceV) : (sizeP p).toNat = 48 + 16 * (p.1.toNat % 8) := by unfold sizeP; rw [UInt64.toNat_ofNat']; omega
def tagP (p : PieceV) : TagV := if p.2.1.toNat % 10 = 0 then ⟨sizeP p, false, 0⟩ else ⟨sizeP p, true, ((p.2.1.toNat % 10 : Nat) : Int) - 1⟩
def lenP (p : PieceV) : UInt64 := UInt64.ofNat (p.2.2.toNat % (sizeP p - 39).toNat)
/-- one piece laid -/
def putPc (ws : List UInt64) (l : List Put) (off : UInt64) (p : PieceV) : List Put := if (tagP p).used then txStore ws (writeP ws l off (tagP p)) (off + 8) (lenP p) else writeP ws l off (tagP p)
def layP (ws : List UInt64) (e : UInt64) : List PieceV → List Put → UInt64 → List Put × UInt64
  | [], l, off => (l, off)
  | p :: ps, l, off => if e.toNat < (off + sizeP p + 48).toNat then (l, off) else layP ws e ps (putPc ws l off p) (off + sizeP p)
def layAll (ws : List UInt64) (l : List Put) (ps : List PieceV) : List Put :=
  writeP ws (layP ws (txLoad ws l 16) ps l 3776).1 (layP ws (txLoad ws l 16) ps l 3776).2 ⟨txLoad ws l 16 - (layP ws (txLoad ws l 16) ps l 3776).2, false, 0⟩
theorem GoodP.write {ws : List UInt64} {l : List Put} (h : GoodP ws l) (off : UInt64) (g : TagV) : GoodP ws (writeP ws l off g) := by
  unfold writeP; split
  · exact (h.store _ _).store _ _
  · exact h
theorem GoodP.pc {ws : List UInt64} {l : List Put} (h : GoodP ws l) (off : UInt64) (p : PieceV) : GoodP ws (putPc ws l off p) := by
  unfold putPc; split
  · exact (h.write _ _).store _ _
  · exact h.write _ _
theorem good_small {ws : List UInt64} {l : List Put} (h : GoodP ws l) (hs : ws.length ≤ 131072) : l.length < 4294967290 := by have := good_length h; omega
theorem lay_stop {ws : List UInt64} {e off : UInt64} {ps : List PieceV} {k : Nat} {p : PieceV} {l : List Put} (hx : ps[k]? = some p) (h : e.toNat < (off + sizeP p + 48).toNat) : layP ws e (ps.drop k) l off = (l, off) := by
  obtain ⟨hk, rfl⟩ := List.getElem?_eq_some_iff.1 hx
  rw [List.drop_eq_getElem_cons hk, layP, if_pos h]
theorem lay_next {ws : List UInt64} {e off : UInt64} {ps : List PieceV} {k : Nat} {p : PieceV} {l : List Put} (hx : ps[k]? = some p) (h : ¬ e.toNat < (off + sizeP p + 48).toNat) : layP ws e (ps.drop k) l off = layP ws e (ps.drop (k + 1)) (putPc ws l off p) (off + sizeP p) := by
  obtain ⟨hk, rfl⟩ := List.getElem?_eq_some_iff.1 hx
  rw [List.drop_eq_getElem_cons hk, layP, if_neg h]
theorem lay_end {ws : List UInt64} {e off : UInt64} {ps : List PieceV} {k : Nat} {l : List Put} (h : ps.length ≤ k) : layP ws e (ps.drop k) l off = (l, off) := by
  rw [List.drop_eq_nil_of_le h]; rfl
theorem putPc_free {ws : List UInt64} {l : List Put} {off sz : UInt64} {p : PieceV} (h : tagP p = ⟨sz, false, 0⟩) : putPc ws l off p = writeP ws l off ⟨sz, false, 0⟩ := by unfold putPc; rw [h]; rfl
theorem putPc_used {ws : List UInt64} {l : List Put} {off sz y r : UInt64} {o : Int} {p : PieceV} (h : tagP p = ⟨sz, true, o⟩) (hy : y = off + 8) (hr : r = lenP p) : putPc ws l off p = txStore ws (writeP ws l off ⟨sz, true, o⟩) y r := by unfold putPc; rw [h, hy, hr]; rfl

set_option maxRecDepth 100000 in
set_option maxHeartbeats 4000000 in
theorem rLay_any {S : Nat → Prop} {w : World} {a1 a2 : Option Addr} {n1 c1 n2 c2 : Nat} {ws : List UInt64} {l : List Put} {v : Value} {ps : List PieceV} (h : TxV S w (.slice a1 n1 c1) (.slice a2 n2 c2) ws l) (hS : ∀ k, S k → k < w.heap.size) (hg : GoodP ws l) (hv : Look kPc w v ps) :
    Calls Tryz.prog 101 #[.agg #[.slice a1 n1 c1, .slice a2 n2 c2], v] w fun e w' =>
      ∃ a3 c3, e = .returned (.agg #[.slice a1 n1 c1, .slice a3 (layAll ws l ps).length c3]) ∧ TxV S w' (.slice a1 n1 c1) (.slice a3 (layAll ws l ps).length c3) ws (layAll ws l ps) ∧ Keeps Nil w w' := by
  have hn2 : n2 = l.length := by obtain ⟨a, c, e⟩ := h.valB; cases e; rfl
  subst hn2
  have hws := h.2.1
  obtain ⟨e, he⟩ : ∃ e, e = txLoad ws l 16 := ⟨_, rfl⟩
  obtain ⟨R, hR⟩ : ∃ R, R = layP ws e ps l 3776 := ⟨_, rfl⟩
  have hla : layAll ws l ps = writeP ws R.1 R.2 ⟨e - R.2, false, 0⟩ := by unfold layAll; rw [← he, ← hR]
  rw [hla]
  have hX := Lib.hid h
  have HS := Lib.hid hS
  have HG := Lib.hid hg
  have hT := Lib.hid h.rreads
  have HR := Lib.hid hR
  have HE := Lib.hid he
  obtain ⟨av, cv, rfl, hm⟩ := hv.val
  obtain ⟨N, hN⟩ : ∃ N, N = ps.length := ⟨_, rfl⟩
  have hNm : N ≤ 9223372036854775807 := by unfold maxLen at hm; omega
  rw [← hN] at hv ⊢
  have HV := Lib.hid hv
  have HN := Lib.hid hN
  clear h hS hg hR he hla hv hm hN
  have hst := Lib.hid (Step.refl Nil w)
  go_enter Tryz.func101, Tryz.ntmps101
  obtain ⟨W1, hW1⟩ : ∃ W, W = w.alloc (.cells #[.slice a1 n1 c1, .slice a2 l.length c2] 71) := ⟨_, rfl⟩
  obtain ⟨B1, eB1⟩ : ∃ B, B = w.heap.size := ⟨_, rfl⟩
  replace hW1 := Lib.hid hW1
  replace eB1 := Lib.hid eB1
  obtain ⟨W2, hW2⟩ : ∃ W, W = W1.alloc (.cells #[.slice none 0 0, .slice none 0 0] 71) := ⟨_, rfl⟩
  obtain ⟨B2, eB2⟩ : ∃ B, B = w.heap.size + 1 := ⟨_, rfl⟩
  replace hW2 := Lib.hid hW2
  replace eB2 := Lib.hid eB2
  go_wp2_with fail
  rw [← hW1.out]
  rw [← hW2.out]
  try rw [← eB2.out]
  try rw [← eB1.out]
  have k1 : Keeps Nil w W1 := by rw [hW1.out]; exact alloc_keeps _ _
  have e0B1 : B1 = w.heap.size := by rw [eB1.out]
  have hB1 := Lib.hid (show Bx W1 Nil B1 #[.slice a1 n1 c1, .slice a2 l.length c2] 71 by rw [hW1.out]; exact Bx.new Nil.lt _ _ e0B1)
  have gB1 := Lib.hid (show w.heap.size ≤ B1 by rw [e0B1]; exact hst.out.keeps.size)
  replace hst := Lib.hid (hst.out.nil k1)
  clear k1 e0B1
  have k2 : Keeps Nil W1 W2 := by rw [hW2.out]; exact alloc_keeps _ _
  have e0B2 : B2 = W1.heap.size := by rw [eB2.out, hW1.out]; simp []
  have hB2 := Lib.hid (show Bx W2 Nil B2 #[.slice none 0 0, .slice none 0 0] 71 by rw [hW2.out]; exact Bx.new Nil.lt _ _ e0B2)
  have gB2 := Lib.hid (show w.heap.size ≤ B2 by rw [e0B2]; exact hst.out.keeps.size)
  have nB1B2 := Lib.hid (show B1 < B2 by rw [e0B2]; exact hB1.out.lt)
  replace hst := Lib.hid (hst.out.nil k2)
  replace hB1 := Lib.hid (hB1.out.nil k2)
  clear k2 e0B2
  refine ((hT.out.keeps hst.out.keeps).load _ (Keeps.refl _ _) 16 _ (by rfl)).mono ?_
  rintro _ W3 ⟨rfl, kn⟩
  rw [← HE.out]
  replace hst := Lib.hid (hst.out.nil kn)
  replace hB1 := Lib.hid (hB1.out.nil kn)
  replace hB2 := Lib.hid (hB2.out.nil kn)
  clear kn
  have c_B1_0 := hB1.out.cell 0 _ rfl
  have f_B1_0 := hB1.out.frz 0
  have c_B1_1 := hB1.out.cell 1 _ rfl
  have f_B1_1 := hB1.out.frz 1
  have l_B1 := hB1.out.lt
  have c_B2_0 := hB2.out.cell 0 _ rfl
  have f_B2_0 := hB2.out.frz 0
  have c_B2_1 := hB2.out.cell 1 _ rfl
  have f_B2_1 := hB2.out.frz 1
  have l_B2 := hB2.out.lt
  go_wp2_with fail
  clear c_B1_0 f_B1_0 c_B1_1 f_B1_1 l_B1 c_B2_0 f_B2_0 c_B2_1 f_B2_1 l_B2
  have c_B1_0 := hB1.out.cell 0 _ rfl
  have f_B1_0 := hB1.out.frz 0
  have c_B1_1 := hB1.out.cell 1 _ rfl
  have f_B1_1 := hB1.out.frz 1
  have l_B1 := hB1.out.lt
  have c_B2_0 := hB2.out.cell 0 _ rfl
  have f_B2_0 := hB2.out.frz 0
  have c_B2_1 := hB2.out.cell 1 _ rfl
  have f_B2_1 := hB2.out.frz 1
  have l_B2 := hB2.out.lt
  go_wp2_with fail
  clear c_B1_0 f_B1_0 c_B1_1 f_B1_1 l_B1 c_B2_0 f_B2_0 c_B2_1 f_B2_1 l_B2
  go_loopw [5, 7] (fun of i wr => (∃ (k : Nat) (off : UInt64) (l2 : List Put) (a3 : Option Addr) (c3 : Nat), k ≤ N ∧ of = .int .u64 (off.toNat : Int) ∧ i = .int .i64 (k : Int) ∧ Hid (Keeps Nil w wr) ∧ Hid (Bx wr Nil B1 #[.slice a1 n1 c1, .slice a3 l2.length c3] 71) ∧ Hid (TxV S wr (.slice a1 n1 c1) (.slice a3 l2.length c3) ws l2) ∧ Hid (GoodP ws l2) ∧ Hid (R = layP ws e (ps.drop k) l2 off)) ∧ Hid (Bx wr Nil B2 #[.slice none 0 0, .slice none 0 0] 71)) (fun of i _ => N - (intOf i).toNat)
  case atStart => exact ⟨⟨0, 3776, l, _, _, by omega, rfl, rfl, Lib.hid hst.out.keeps, hB1, Lib.hid (hX.out.keeps_nil hst.out.keeps), HG, Lib.hid (by rw [HR.out]; rfl)⟩, hB2⟩
  case round =>
    clear hB2
    obtain ⟨hrel, hB2⟩ := hrel
    clear hX hB1
    obtain ⟨k, off, l2, a3, c3, hk, rfl, rfl, hK0, hB1, hX2, HG2, HL⟩ := hrel
    replace hst := Lib.hid (Step.of_nil (S := Nil) hK0.out)
    clear hK0
    by_cases hlt : k < N
    · obtain ⟨gv, ov, cv2, hvv, _, _, hgb, _, hcell⟩ := HV.out.pos (by have := HN.out; omega)
      simp only [Value.slice.injEq] at hvv
      obtain ⟨rfl, hvn, rfl⟩ := hvv
      clear hvn
      obtain ⟨⟨m, wh, ln⟩, hx⟩ : ∃ x, ps[k]? = some x := ⟨ps[k]'(by have := HN.out; omega), by simp⟩
      have HX := Lib.hid hx
      have HC := Lib.hid hcell
      have HGB := Lib.hid hgb
      obtain ⟨sz, hsz⟩ : ∃ s, s = sizeP (m, wh, ln) := ⟨_, rfl⟩
      have hszn := sizeP_nat (m, wh, ln)
      rw [← hsz] at hszn
      dsimp only at hszn
      have q_sz : 48 + 16 * ((m.toNat : Int) % 8) = (sz.toNat : Int) := by omega
      have HSZ := Lib.hid (And.intro hsz hszn)
      clear hx hcell hgb hsz hszn
      obtain ⟨vv, hvv⟩ : ∃ v : Nat, v = wh.toNat % 10 := ⟨_, rfl⟩
      have q_v : (wh.toNat : Int) % 10 = (vv : Int) := by omega
      have hv10 : vv < 10 := by omega
      have HVV := Lib.hid hvv
      clear hvv
      by_cases hv0 : vv = 0
      · subst hv0
        have HTG := Lib.hid (show tagP (m, wh, ln) = ⟨sz, false, 0⟩ by unfold tagP; rw [if_pos HVV.out.symm, HSZ.out.1])
        obtain ⟨y0, hy0⟩ : ∃ y : UInt64, y = off + sz := ⟨_, rfl⟩
        obtain ⟨y9, hy9⟩ : ∃ y : UInt64, y = y0 + 48 := ⟨_, rfl⟩
        have qy0 : IntKind.u64.wrap ((off.toNat : Int) + (sz.toNat : Int)) = (y0.toNat : Int) := by rw [hy0]; exact u64_add off sz
        have qy9 : IntKind.u64.wrap ((y0.toNat : Int) + 48) = (y9.toNat : Int) := by rw [hy9]; exact u64_add y0 48
        have HY := Lib.hid (And.intro hy0 (show y9 = off + sizeP (m, wh, ln) + 48 by rw [hy9, hy0, HSZ.out.1]))
        clear hy0 hy9
        by_cases hbr : e.toNat < y9.toNat
        · have HBR := Lib.hid hbr
          clear hbr
          have d1 : decide (e.toNat < y9.toNat) = true := decide_eq_true (HBR.out)
          obtain ⟨y1, zy1⟩ : ∃ y : UInt64, y = e - off := ⟨_, rfl⟩
          have q1 : IntKind.u64.wrap ((e.toNat : Int) - (off.toNat : Int)) = (y1.toNat : Int) := by rw [zy1]; exact u64_sub e off
          replace zy1 := Lib.hid zy1
          have c_B1_0 := hB1.out.cell 0 _ rfl
          have f_B1_0 := hB1.out.frz 0
          have c_B1_1 := hB1.out.cell 1 _ rfl
          have f_B1_1 := hB1.out.frz 1
          have l_B1 := hB1.out.lt
          have c_B2_0 := hB2.out.cell 0 _ rfl
          have f_B2_0 := hB2.out.frz 0
          have c_B2_1 := hB2.out.cell 1 _ rfl
          have f_B2_1 := hB2.out.frz 1
          have l_B2 := hB2.out.lt
          have e_0 := (hst.out.keeps.cell HGB.out (fun e => e) _).trans (View.cellPc HC.out k (m, wh, ln) HX.out).1
          have e_1 := (hst.out.keeps.cell HGB.out (fun e => e) _).trans (View.cellPc HC.out k (m, wh, ln) HX.out).2.1
          have e_2 := (hst.out.keeps.cell HGB.out (fun e => e) _).trans (View.cellPc HC.out k (m, wh, ln) HX.out).2.2
          have l_gv := Nat.lt_of_lt_of_le HGB.out hst.out.keeps.size
          obtain ⟨W4, hW4⟩ : ∃ W, W = wr.alloc (.cells #[.int .u64 (sz.toNat : Int), .bool false, .int .i64 0] 61) := ⟨_, rfl⟩
          obtain ⟨B3, eB3⟩ : ∃ B, B = wr.heap.size := ⟨_, rfl⟩
          replace hW4 := Lib.hid hW4
          replace eB3 := Lib.hid eB3
          go_wp2_with fail
          clear c_B1_0 f_B1_0 c_B1_1 f_B1_1 l_B1 c_B2_0 f_B2_0 c_B2_1 f_B2_1 l_B2 e_0 e_1 e_2 l_gv
          rw [← hW4.out]
          try rw [← eB3.out]
          have k3 : Keeps Nil wr W4 := by rw [hW4.out]; exact alloc_keeps _ _
          have e0B3 : B3 = wr.heap.size := by rw [eB3.out]
          have hB3 := Lib.hid (show Bx W4 Nil B3 #[.int .u64 (sz.toNat : Int), .bool false, .int .i64 0] 61 by rw [hW4.out]; exact Bx.new Nil.lt _ _ e0B3)
          have gB3 := Lib.hid (show w.heap.size ≤ B3 by rw [e0B3]; exact hst.out.keeps.size)
          have nB1B3 := Lib.hid (show B1 < B3 by rw [e0B3]; exact hB1.out.lt)
          have nB2B3 := Lib.hid (show B2 < B3 by rw [e0B3]; exact hB2.out.lt)
          replace hst := Lib.hid (hst.out.nil k3)
          replace hX2 := Lib.hid (hX2.out.keeps_nil k3)
          replace hB1 := Lib.hid (hB1.out.nil k3)
          replace hB2 := Lib.hid (hB2.out.nil k3)
          clear k3 e0B3
          refine (rWrite5_any hX2.out (fun k e => Nat.lt_of_lt_of_le (HS.out k e) hst.out.keeps.size) (good_small HG2.out hws) off ⟨y1, false, 0⟩ _ rfl).mono ?_
          rintro _ W5 ⟨a4, c4, rfl, hv, kn⟩
          have hX3 := Lib.hid hv
          clear hv
          replace hst := Lib.hid (hst.out.nil kn)
          replace hX2 := Lib.hid (hX2.out.keeps_nil kn)
          replace hB1 := Lib.hid (hB1.out.nil kn)
          replace hB2 := Lib.hid (hB2.out.nil kn)
          replace hB3 := Lib.hid (hB3.out.nil kn)
          clear kn
          have c_B1_0 := hB1.out.cell 0 _ rfl
          have f_B1_0 := hB1.out.frz 0
          have c_B1_1 := hB1.out.cell 1 _ rfl
          have f_B1_1 := hB1.out.frz 1
          have l_B1 := hB1.out.lt
          have c_B2_0 := hB2.out.cell 0 _ rfl
          have f_B2_0 := hB2.out.frz 0
          have c_B2_1 := hB2.out.cell 1 _ rfl
          have f_B2_1 := hB2.out.frz 1
          have l_B2 := hB2.out.lt
          have c_B3_0 := hB3.out.cell 0 _ rfl
          have f_B3_0 := hB3.out.frz 0
          have c_B3_1 := hB3.out.cell 1 _ rfl
          have f_B3_1 := hB3.out.frz 1
          have c_B3_2 := hB3.out.cell 2 _ rfl
          have f_B3_2 := hB3.out.frz 2
          have l_B3 := hB3.out.lt
          have e_0 := (hst.out.keeps.cell HGB.out (fun e => e) _).trans (View.cellPc HC.out k (m, wh, ln) HX.out).1
          have e_1 := (hst.out.keeps.cell HGB.out (fun e => e) _).trans (View.cellPc HC.out k (m, wh, ln) HX.out).2.1
          have e_2 := (hst.out.keeps.cell HGB.out (fun e => e) _).trans (View.cellPc HC.out k (m, wh, ln) HX.out).2.2
          have l_gv := Nat.lt_of_lt_of_le HGB.out hst.out.keeps.size
          have ne_B1_B2 : (B1 = B2) = False := eq_false (Nat.ne_of_lt nB1B2.out)
          have ne_B2_B1 : (B2 = B1) = False := eq_false (Ne.symm (Nat.ne_of_lt nB1B2.out))
          have ne_B3_B2 : (B3 = B2) = False := eq_false (Nat.ne_of_gt nB2B3.out)
          have ne_B2_B3 : (B2 = B3) = False := eq_false (Ne.symm (Nat.ne_of_gt nB2B3.out))
          have ne_gv_B2 : (gv = B2) = False := eq_false (Nat.ne_of_lt (Nat.lt_of_lt_of_le HGB.out gB2.out))
          obtain ⟨W6, hW6⟩ : ∃ W, W = ((W5.setCell ⟨B2, 0, none⟩ (.slice a1 n1 c1)).setCell ⟨B2, 1, none⟩ (.slice a4 (writeP ws l2 off ⟨y1, false, 0⟩).length c4)) := ⟨_, rfl⟩
          replace hW6 := Lib.hid hW6
          obtain ⟨W7, hW7⟩ : ∃ W, W = W6.alloc (.cells #[.slice a1 n1 c1, .slice a4 (writeP ws l2 off ⟨y1, false, 0⟩).length c4] 71) := ⟨_, rfl⟩
          obtain ⟨B4, eB4⟩ : ∃ B, B = W5.heap.size := ⟨_, rfl⟩
          replace hW7 := Lib.hid hW7
          replace eB4 := Lib.hid eB4
          go_wp2_with fail
          clear c_B1_0 f_B1_0 c_B1_1 f_B1_1 l_B1 c_B2_0 f_B2_0 c_B2_1 f_B2_1 l_B2 c_B3_0 f_B3_0 c_B3_1 f_B3_1 c_B3_2 f_B3_2 l_B3 e_0 e_1 e_2 l_gv ne_B1_B2 ne_B2_B1 ne_B3_B2 ne_B2_B3 ne_gv_B2
          rw [← hW6.out]
          rw [← hW7.out]
          try rw [← eB4.out]
          replace hX2 := Lib.hid (hX2.out.box hB2.out.1 (show Keeps (fun i => i = B2) W5 W6 by rw [hW6.out]; exact (keeps_setCell W5 ⟨B2, 0, none⟩ _).trans' (keeps_setCell _ ⟨B2, 1, none⟩ _)))
          replace hX3 := Lib.hid (hX3.out.box hB2.out.1 (show Keeps (fun i => i = B2) W5 W6 by rw [hW6.out]; exact (keeps_setCell W5 ⟨B2, 0, none⟩ _).trans' (keeps_setCell _ ⟨B2, 1, none⟩ _)))
          replace hst := Lib.hid (show Step _ Nil w W6 by rw [hW6.out]; exact ((hst.out.set gB2.out _ _).set gB2.out _ _))
          replace hB1 := Lib.hid (show Bx W6 Nil B1 #[.slice a1 n1 c1, .slice a3 l2.length c3] 71 by rw [hW6.out]; exact ((hB1.out.other (Nat.ne_of_lt nB1B2.out) _ _).other (Nat.ne_of_lt nB1B2.out) _ _))
          replace hB2 := Lib.hid (show Bx W6 Nil B2 #[.slice a1 n1 c1, .slice a4 (writeP ws l2 off ⟨y1, false, 0⟩).length c4] 71 by rw [hW6.out]; exact ((hB2.out.set _ _).set _ _))
          replace hB3 := Lib.hid (show Bx W6 Nil B3 #[.int .u64 (sz.toNat : Int), .bool false, .int .i64 0] 61 by rw [hW6.out]; exact ((hB3.out.other (Nat.ne_of_gt nB2B3.out) _ _).other (Nat.ne_of_gt nB2B3.out) _ _))
          have k4 : Keeps Nil W6 W7 := by rw [hW7.out]; exact alloc_keeps _ _
          have e0B4 : B4 = W6.heap.size := by rw [eB4.out, hW6.out]; simp [World.setCell]
          have hB4 := Lib.hid (show Bx W7 Nil B4 #[.slice a1 n1 c1, .slice a4 (writeP ws l2 off ⟨y1, false, 0⟩).length c4] 71 by rw [hW7.out]; exact Bx.new Nil.lt _ _ e0B4)
          have gB4 := Lib.hid (show w.heap.size ≤ B4 by rw [e0B4]; exact hst.out.keeps.size)
          have nB1B4 := Lib.hid (show B1 < B4 by rw [e0B4]; exact hB1.out.lt)
          have nB2B4 := Lib.hid (show B2 < B4 by rw [e0B4]; exact hB2.out.lt)
          have nB3B4 := Lib.hid (show B3 < B4 by rw [e0B4]; exact hB3.out.lt)
          replace hst := Lib.hid (hst.out.nil k4)
          replace hX2 := Lib.hid (hX2.out.keeps_nil k4)
          replace hX3 := Lib.hid (hX3.out.keeps_nil k4)
          replace hB1 := Lib.hid (hB1.out.nil k4)
          replace hB2 := Lib.hid (hB2.out.nil k4)
          replace hB3 := Lib.hid (hB3.out.nil k4)
          clear k4 e0B4
          refine bodyPost_ret (results_row rfl rfl hB2.out.1 Tryz.underlying71 rfl (by kernel_rfl)) rfl ?_
          have hR2 : R = (l2, off) := by rw [HL.out]; exact lay_stop HX.out (by rw [← HY.out.2]; exact HBR.out)
          rw [hR2]
          have hw := hX3.out
          rw [zy1.out] at hw ⊢
          exact ⟨a4, c4, rfl, hw, hst.out.keeps⟩
        · have HBR := Lib.hid hbr
          clear hbr
          have d1 : decide (e.toNat < y9.toNat) = false := decide_eq_false (HBR.out)
          have c_B1_0 := hB1.out.cell 0 _ rfl
          have f_B1_0 := hB1.out.frz 0
          have c_B1_1 := hB1.out.cell 1 _ rfl
          have f_B1_1 := hB1.out.frz 1
          have l_B1 := hB1.out.lt
          have c_B2_0 := hB2.out.cell 0 _ rfl
          have f_B2_0 := hB2.out.frz 0
          have c_B2_1 := hB2.out.cell 1 _ rfl
          have f_B2_1 := hB2.out.frz 1
          have l_B2 := hB2.out.lt
          have e_0 := (hst.out.keeps.cell HGB.out (fun e => e) _).trans (View.cellPc HC.out k (m, wh, ln) HX.out).1
          have e_1 := (hst.out.keeps.cell HGB.out (fun e => e) _).trans (View.cellPc HC.out k (m, wh, ln) HX.out).2.1
          have e_2 := (hst.out.keeps.cell HGB.out (fun e => e) _).trans (View.cellPc HC.out k (m, wh, ln) HX.out).2.2
          have l_gv := Nat.lt_of_lt_of_le HGB.out hst.out.keeps.size
          obtain ⟨W4, hW4⟩ : ∃ W, W = wr.alloc (.cells #[.int .u64 (sz.toNat : Int), .bool false, .int .i64 0] 61) := ⟨_, rfl⟩
          obtain ⟨B3, eB3⟩ : ∃ B, B = wr.heap.size := ⟨_, rfl⟩
          replace hW4 := Lib.hid hW4
          replace eB3 := Lib.hid eB3
          go_wp2_with fail
          clear c_B1_0 f_B1_0 c_B1_1 f_B1_1 l_B1 c_B2_0 f_B2_0 c_B2_1 f_B2_1 l_B2 e_0 e_1 e_2 l_gv
          rw [← hW4.out]
          try rw [← eB3.out]
          have k3 : Keeps Nil wr W4 := by rw [hW4.out]; exact alloc_keeps _ _
          have e0B3 : B3 = wr.heap.size := by rw [eB3.out]
          have hB3 := Lib.hid (show Bx W4 Nil B3 #[.int .u64 (sz.toNat : Int), .bool false, .int .i64 0] 61 by rw [hW4.out]; exact Bx.new Nil.lt _ _ e0B3)
          have gB3 := Lib.hid (show w.heap.size ≤ B3 by rw [e0B3]; exact hst.out.keeps.size)
          have nB1B3 := Lib.hid (show B1 < B3 by rw [e0B3]; exact hB1.out.lt)
          have nB2B3 := Lib.hid (show B2 < B3 by rw [e0B3]; exact hB2.out.lt)
          replace hst := Lib.hid (hst.out.nil k3)
          replace hX2 := Lib.hid (hX2.out.keeps_nil k3)
          replace hB1 := Lib.hid (hB1.out.nil k3)
          replace hB2 := Lib.hid (hB2.out.nil k3)
          clear k3 e0B3
          refine (rWrite5_any hX2.out (fun k e => Nat.lt_of_lt_of_le (HS.out k e) hst.out.keeps.size) (good_small HG2.out hws) off ⟨sz, false, 0⟩ _ rfl).mono ?_
          rintro _ W5 ⟨a4, c4, rfl, hv, kn⟩
          have hX3 := Lib.hid hv
          clear hv
          replace hst := Lib.hid (hst.out.nil kn)
          replace hX2 := Lib.hid (hX2.out.keeps_nil kn)
          replace hB1 := Lib.hid (hB1.out.nil kn)
          replace hB2 := Lib.hid (hB2.out.nil kn)
          replace hB3 := Lib.hid (hB3.out.nil kn)
          clear kn
          have c_B1_0 := hB1.out.cell 0 _ rfl
          have f_B1_0 := hB1.out.frz 0
          have c_B1_1 := hB1.out.cell 1 _ rfl
          have f_B1_1 := hB1.out.frz 1
          have l_B1 := hB1.out.lt
          have c_B2_0 := hB2.out.cell 0 _ rfl
          have f_B2_0 := hB2.out.frz 0
          have c_B2_1 := hB2.out.cell 1 _ rfl
          have f_B2_1 := hB2.out.frz 1
          have l_B2 := hB2.out.lt
          have c_B3_0 := hB3.out.cell 0 _ rfl
          have f_B3_0 := hB3.out.frz 0
          have c_B3_1 := hB3.out.cell 1 _ rfl
          have f_B3_1 := hB3.out.frz 1
          have c_B3_2 := hB3.out.cell 2 _ rfl
          have f_B3_2 := hB3.out.frz 2
          have l_B3 := hB3.out.lt
          have e_0 := (hst.out.keeps.cell HGB.out (fun e => e) _).trans (View.cellPc HC.out k (m, wh, ln) HX.out).1
          have e_1 := (hst.out.keeps.cell HGB.out (fun e => e) _).trans (View.cellPc HC.out k (m, wh, ln) HX.out).2.1
          have e_2 := (hst.out.keeps.cell HGB.out (fun e => e) _).trans (View.cellPc HC.out k (m, wh, ln) HX.out).2.2
          have l_gv := Nat.lt_of_lt_of_le HGB.out hst.out.keeps.size
          have ne_B2_B1 : (B2 = B1) = False := eq_false (Nat.ne_of_gt nB1B2.out)
          have ne_B1_B2 : (B1 = B2) = False := eq_false (Ne.symm (Nat.ne_of_gt nB1B2.out))
          have ne_B3_B1 : (B3 = B1) = False := eq_false (Nat.ne_of_gt nB1B3.out)
          have ne_B1_B3 : (B1 = B3) = False := eq_false (Ne.symm (Nat.ne_of_gt nB1B3.out))
          have ne_gv_B1 : (gv = B1) = False := eq_false (Nat.ne_of_lt (Nat.lt_of_lt_of_le HGB.out gB1.out))
          obtain ⟨W6, hW6⟩ : ∃ W, W = ((W5.setCell ⟨B1, 0, none⟩ (.slice a1 n1 c1)).setCell ⟨B1, 1, none⟩ (.slice a4 (writeP ws l2 off ⟨sz, false, 0⟩).length c4)) := ⟨_, rfl⟩
          replace hW6 := Lib.hid hW6
          obtain ⟨W7, hW7⟩ : ∃ W, W = W6.alloc (.cells #[.slice a1 n1 c1, .slice a4 (writeP ws l2 off ⟨sz, false, 0⟩).length c4] 71) := ⟨_, rfl⟩
          obtain ⟨B4, eB4⟩ : ∃ B, B = W5.heap.size := ⟨_, rfl⟩
          replace hW7 := Lib.hid hW7
          replace eB4 := Lib.hid eB4
          go_wp2_with fail
          clear c_B1_0 f_B1_0 c_B1_1 f_B1_1 l_B1 c_B2_0 f_B2_0 c_B2_1 f_B2_1 l_B2 c_B3_0 f_B3_0 c_B3_1 f_B3_1 c_B3_2 f_B3_2 l_B3 e_0 e_1 e_2 l_gv ne_B2_B1 ne_B1_B2 ne_B3_B1 ne_B1_B3 ne_gv_B1
          rw [← hW6.out]
          rw [← hW7.out]
          try rw [← eB4.out]
          replace hX2 := Lib.hid (hX2.out.box hB1.out.1 (show Keeps (fun i => i = B1) W5 W6 by rw [hW6.out]; exact (keeps_setCell W5 ⟨B1, 0, none⟩ _).trans' (keeps_setCell _ ⟨B1, 1, none⟩ _)))
          replace hX3 := Lib.hid (hX3.out.box hB1.out.1 (show Keeps (fun i => i = B1) W5 W6 by rw [hW6.out]; exact (keeps_setCell W5 ⟨B1, 0, none⟩ _).trans' (keeps_setCell _ ⟨B1, 1, none⟩ _)))
          replace hst := Lib.hid (show Step _ Nil w W6 by rw [hW6.out]; exact ((hst.out.set gB1.out _ _).set gB1.out _ _))
          replace hB1 := Lib.hid (show Bx W6 Nil B1 #[.slice a1 n1 c1, .slice a4 (writeP ws l2 off ⟨sz, false, 0⟩).length c4] 71 by rw [hW6.out]; exact ((hB1.out.set _ _).set _ _))
          replace hB2 := Lib.hid (show Bx W6 Nil B2 #[.slice none 0 0, .slice none 0 0] 71 by rw [hW6.out]; exact ((hB2.out.other (Nat.ne_of_gt nB1B2.out) _ _).other (Nat.ne_of_gt nB1B2.out) _ _))
          replace hB3 := Lib.hid (show Bx W6 Nil B3 #[.int .u64 (sz.toNat : Int), .bool false, .int .i64 0] 61 by rw [hW6.out]; exact ((hB3.out.other (Nat.ne_of_gt nB1B3.out) _ _).other (Nat.ne_of_gt nB1B3.out) _ _))
          have k4 : Keeps Nil W6 W7 := by rw [hW7.out]; exact alloc_keeps _ _
          have e0B4 : B4 = W6.heap.size := by rw [eB4.out, hW6.out]; simp [World.setCell]
          have hB4 := Lib.hid (show Bx W7 Nil B4 #[.slice a1 n1 c1, .slice a4 (writeP ws l2 off ⟨sz, false, 0⟩).length c4] 71 by rw [hW7.out]; exact Bx.new Nil.lt _ _ e0B4)
          have gB4 := Lib.hid (show w.heap.size ≤ B4 by rw [e0B4]; exact hst.out.keeps.size)
          have nB1B4 := Lib.hid (show B1 < B4 by rw [e0B4]; exact hB1.out.lt)
          have nB2B4 := Lib.hid (show B2 < B4 by rw [e0B4]; exact hB2.out.lt)
          have nB3B4 := Lib.hid (show B3 < B4 by rw [e0B4]; exact hB3.out.lt)
          replace hst := Lib.hid (hst.out.nil k4)
          replace hX2 := Lib.hid (hX2.out.keeps_nil k4)
          replace hX3 := Lib.hid (hX3.out.keeps_nil k4)
          replace hB1 := Lib.hid (hB1.out.nil k4)
          replace hB2 := Lib.hid (hB2.out.nil k4)
          replace hB3 := Lib.hid (hB3.out.nil k4)
          clear k4 e0B4
          go_roundw
          case rel => exact ⟨⟨k + 1, y0, _, _, _, by omega, rfl, by go_num, Lib.hid hst.out.keeps, hB1, hX3, Lib.hid (by rw [← putPc_free HTG.out]; exact HG2.out.pc off (m, wh, ln)), Lib.hid (by rw [HL.out, lay_next HX.out (by rw [← HY.out.2]; exact HBR.out), putPc_free HTG.out, HY.out.1, HSZ.out.1])⟩, hB2⟩
          case measure => simp [intOf]; omega
      · have hv1 : 0 < vv := by omega
        clear hv0
        have HTG := Lib.hid (show tagP (m, wh, ln) = ⟨sz, true, (vv : Int) - 1⟩ by unfold tagP; rw [if_neg (show ¬ (m, wh, ln).2.1.toNat % 10 = 0 by have := HVV.out; dsimp only; omega), HSZ.out.1]; rw [HVV.out])
        obtain ⟨y0, hy0⟩ : ∃ y : UInt64, y = off + sz := ⟨_, rfl⟩
        obtain ⟨y9, hy9⟩ : ∃ y : UInt64, y = y0 + 48 := ⟨_, rfl⟩
        have qy0 : IntKind.u64.wrap ((off.toNat : Int) + (sz.toNat : Int)) = (y0.toNat : Int) := by rw [hy0]; exact u64_add off sz
        have qy9 : IntKind.u64.wrap ((y0.toNat : Int) + 48) = (y9.toNat : Int) := by rw [hy9]; exact u64_add y0 48
        have HY := Lib.hid (And.intro hy0 (show y9 = off + sizeP (m, wh, ln) + 48 by rw [hy9, hy0, HSZ.out.1]))
        clear hy0 hy9
        by_cases hbr : e.toNat < y9.toNat
        · have HBR := Lib.hid hbr
          clear hbr
          have d1 : decide (e.toNat < y9.toNat) = true := decide_eq_true (HBR.out)
          obtain ⟨y1, zy1⟩ : ∃ y : UInt64, y = e - off := ⟨_, rfl⟩
          have q1 : IntKind.u64.wrap ((e.toNat : Int) - (off.toNat : Int)) = (y1.toNat : Int) := by rw [zy1]; exact u64_sub e off
          replace zy1 := Lib.hid zy1
          have c_B1_0 := hB1.out.cell 0 _ rfl
          have f_B1_0 := hB1.out.frz 0
          have c_B1_1 := hB1.out.cell 1 _ rfl
          have f_B1_1 := hB1.out.frz 1
          have l_B1 := hB1.out.lt
          have c_B2_0 := hB2.out.cell 0 _ rfl
          have f_B2_0 := hB2.out.frz 0
          have c_B2_1 := hB2.out.cell 1 _ rfl
          have f_B2_1 := hB2.out.frz 1
          have l_B2 := hB2.out.lt
          have e_0 := (hst.out.keeps.cell HGB.out (fun e => e) _).trans (View.cellPc HC.out k (m, wh, ln) HX.out).1
          have e_1 := (hst.out.keeps.cell HGB.out (fun e => e) _).trans (View.cellPc HC.out k (m, wh, ln) HX.out).2.1
          have e_2 := (hst.out.keeps.cell HGB.out (fun e => e) _).trans (View.cellPc HC.out k (m, wh, ln) HX.out).2.2
          have l_gv := Nat.lt_of_lt_of_le HGB.out hst.out.keeps.size
          obtain ⟨W4, hW4⟩ : ∃ W, W = wr.alloc (.cells #[.int .u64 (sz.toNat : Int), .bool true, .int .i64 ((vv : Int) - 1)] 61) := ⟨_, rfl⟩
          obtain ⟨B3, eB3⟩ : ∃ B, B = wr.heap.size := ⟨_, rfl⟩
          replace hW4 := Lib.hid hW4
          replace eB3 := Lib.hid eB3
          go_wp2_with fail
          clear c_B1_0 f_B1_0 c_B1_1 f_B1_1 l_B1 c_B2_0 f_B2_0 c_B2_1 f_B2_1 l_B2 e_0 e_1 e_2 l_gv
          rw [← hW4.out]
          try rw [← eB3.out]
          have k3 : Keeps Nil wr W4 := by rw [hW4.out]; exact alloc_keeps _ _
          have e0B3 : B3 = wr.heap.size := by rw [eB3.out]
          have hB3 := Lib.hid (show Bx W4 Nil B3 #[.int .u64 (sz.toNat : Int), .bool true, .int .i64 ((vv : Int) - 1)] 61 by rw [hW4.out]; exact Bx.new Nil.lt _ _ e0B3)
          have gB3 := Lib.hid (show w.heap.size ≤ B3 by rw [e0B3]; exact hst.out.keeps.size)
          have nB1B3 := Lib.hid (show B1 < B3 by rw [e0B3]; exact hB1.out.lt)
          have nB2B3 := Lib.hid (show B2 < B3 by rw [e0B3]; exact hB2.out.lt)
          replace hst := Lib.hid (hst.out.nil k3)
          replace hX2 := Lib.hid (hX2.out.keeps_nil k3)
          replace hB1 := Lib.hid (hB1.out.nil k3)
          replace hB2 := Lib.hid (hB2.out.nil k3)
          clear k3 e0B3
          refine (rWrite5_any hX2.out (fun k e => Nat.lt_of_lt_of_le (HS.out k e) hst.out.keeps.size) (good_small HG2.out hws) off ⟨y1, false, 0⟩ _ rfl).mono ?_
          rintro _ W5 ⟨a4, c4, rfl, hv, kn⟩
          have hX3 := Lib.hid hv
          clear hv
          replace hst := Lib.hid (hst.out.nil kn)
          replace hX2 := Lib.hid (hX2.out.keeps_nil kn)
          replace hB1 := Lib.hid (hB1.out.nil kn)
          replace hB2 := Lib.hid (hB2.out.nil kn)
          replace hB3 := Lib.hid (hB3.out.nil kn)
          clear kn
          have c_B1_0 := hB1.out.cell 0 _ rfl
          have f_B1_0 := hB1.out.frz 0
          have c_B1_1 := hB1.out.cell 1 _ rfl
          have f_B1_1 := hB1.out.frz 1
          have l_B1 := hB1.out.lt
          have c_B2_0 := hB2.out.cell 0 _ rfl
          have f_B2_0 := hB2.out.frz 0
          have c_B2_1 := hB2.out.cell 1 _ rfl
          have f_B2_1 := hB2.out.frz 1
          have l_B2 := hB2.out.lt
          have c_B3_0 := hB3.out.cell 0 _ rfl
          have f_B3_0 := hB3.out.frz 0
          have c_B3_1 := hB3.out.cell 1 _ rfl
          have f_B3_1 := hB3.out.frz 1
          have c_B3_2 := hB3.out.cell 2 _ rfl
          have f_B3_2 := hB3.out.frz 2
          have l_B3 := hB3.out.lt
          have e_0 := (hst.out.keeps.cell HGB.out (fun e => e) _).trans (View.cellPc HC.out k (m, wh, ln) HX.out).1
          have e_1 := (hst.out.keeps.cell HGB.out (fun e => e) _).trans (View.cellPc HC.out k (m, wh, ln) HX.out).2.1
          have e_2 := (hst.out.keeps.cell HGB.out (fun e => e) _).trans (View.cellPc HC.out k (m, wh, ln) HX.out).2.2
          have l_gv := Nat.lt_of_lt_of_le HGB.out hst.out.keeps.size
          have ne_B1_B2 : (B1 = B2) = False := eq_false (Nat.ne_of_lt nB1B2.out)
          have ne_B2_B1 : (B2 = B1) = False := eq_false (Ne.symm (Nat.ne_of_lt nB1B2.out))
          have ne_B3_B2 : (B3 = B2) = False := eq_false (Nat.ne_of_gt nB2B3.out)
          have ne_B2_B3 : (B2 = B3) = False := eq_false (Ne.symm (Nat.ne_of_gt nB2B3.out))
          have ne_gv_B2 : (gv = B2) = False := eq_false (Nat.ne_of_lt (Nat.lt_of_lt_of_le HGB.out gB2.out))
          obtain ⟨W6, hW6⟩ : ∃ W, W = ((W5.setCell ⟨B2, 0, none⟩ (.slice a1 n1 c1)).setCell ⟨B2, 1, none⟩ (.slice a4 (writeP ws l2 off ⟨y1, false, 0⟩).length c4)) := ⟨_, rfl⟩
          replace hW6 := Lib.hid hW6
          obtain ⟨W7, hW7⟩ : ∃ W, W = W6.alloc (.cells #[.slice a1 n1 c1, .slice a4 (writeP ws l2 off ⟨y1, false, 0⟩).length c4] 71) := ⟨_, rfl⟩
          obtain ⟨B4, eB4⟩ : ∃ B, B = W5.heap.size := ⟨_, rfl⟩
          replace hW7 := Lib.hid hW7
          replace eB4 := Lib.hid eB4
          go_wp2_with fail
          clear c_B1_0 f_B1_0 c_B1_1 f_B1_1 l_B1 c_B2_0 f_B2_0 c_B2_1 f_B2_1 l_B2 c_B3_0 f_B3_0 c_B3_1 f_B3_1 c_B3_2 f_B3_2 l_B3 e_0 e_1 e_2 l_gv ne_B1_B2 ne_B2_B1 ne_B3_B2 ne_B2_B3 ne_gv_B2
          rw [← hW6.out]
          rw [← hW7.out]
          try rw [← eB4.out]
          replace hX2 := Lib.hid (hX2.out.box hB2.out.1 (show Keeps (fun i => i = B2) W5 W6 by rw [hW6.out]; exact (keeps_setCell W5 ⟨B2, 0, none⟩ _).trans' (keeps_setCell _ ⟨B2, 1, none⟩ _)))
          replace hX3 := Lib.hid (hX3.out.box hB2.out.1 (show Keeps (fun i => i = B2) W5 W6 by rw [hW6.out]; exact (keeps_setCell W5 ⟨B2, 0, none⟩ _).trans' (keeps_setCell _ ⟨B2, 1, none⟩ _)))
          replace hst := Lib.hid (show Step _ Nil w W6 by rw [hW6.out]; exact ((hst.out.set gB2.out _ _).set gB2.out _ _))
          replace hB1 := Lib.hid (show Bx W6 Nil B1 #[.slice a1 n1 c1, .slice a3 l2.length c3] 71 by rw [hW6.out]; exact ((hB1.out.other (Nat.ne_of_lt nB1B2.out) _ _).other (Nat.ne_of_lt nB1B2.out) _ _))
          replace hB2 := Lib.hid (show Bx W6 Nil B2 #[.slice a1 n1 c1, .slice a4 (writeP ws l2 off ⟨y1, false, 0⟩).length c4] 71 by rw [hW6.out]; exact ((hB2.out.set _ _).set _ _))
          replace hB3 := Lib.hid (show Bx W6 Nil B3 #[.int .u64 (sz.toNat : Int), .bool true, .int .i64 ((vv : Int) - 1)] 61 by rw [hW6.out]; exact ((hB3.out.other (Nat.ne_of_gt nB2B3.out) _ _).other (Nat.ne_of_gt nB2B3.out) _ _))
          have k4 : Keeps Nil W6 W7 := by rw [hW7.out]; exact alloc_keeps _ _
          have e0B4 : B4 = W6.heap.size := by rw [eB4.out, hW6.out]; simp [World.setCell]
          have hB4 := Lib.hid (show Bx W7 Nil B4 #[.slice a1 n1 c1, .slice a4 (writeP ws l2 off ⟨y1, false, 0⟩).length c4] 71 by rw [hW7.out]; exact Bx.new Nil.lt _ _ e0B4)
          have gB4 := Lib.hid (show w.heap.size ≤ B4 by rw [e0B4]; exact hst.out.keeps.size)
          have nB1B4 := Lib.hid (show B1 < B4 by rw [e0B4]; exact hB1.out.lt)
          have nB2B4 := Lib.hid (show B2 < B4 by rw [e0B4]; exact hB2.out.lt)
          have nB3B4 := Lib.hid (show B3 < B4 by rw [e0B4]; exact hB3.out.lt)
          replace hst := Lib.hid (hst.out.nil k4)
          replace hX2 := Lib.hid (hX2.out.keeps_nil k4)
          replace hX3 := Lib.hid (hX3.out.keeps_nil k4)
          replace hB1 := Lib.hid (hB1.out.nil k4)
          replace hB2 := Lib.hid (hB2.out.nil k4)
          replace hB3 := Lib.hid (hB3.out.nil k4)
          clear k4 e0B4
          refine bodyPost_ret (results_row rfl rfl hB2.out.1 Tryz.underlying71 rfl (by kernel_rfl)) rfl ?_
          have hR2 : R = (l2, off) := by rw [HL.out]; exact lay_stop HX.out (by rw [← HY.out.2]; exact HBR.out)
          rw [hR2]
          have hw := hX3.out
          rw [zy1.out] at hw ⊢
          exact ⟨a4, c4, rfl, hw, hst.out.keeps⟩
        · have HBR := Lib.hid hbr
          clear hbr
          obtain ⟨y7, hy7⟩ : ∃ y : UInt64, y = sz - 39 := ⟨_, rfl⟩
          have qy7 : IntKind.u64.wrap ((sz.toNat : Int) - 39) = (y7.toNat : Int) := by rw [hy7]; exact u64_sub sz 39
          have hy7n : y7.toNat = sz.toNat - 39 := by rw [hy7, UInt64.toNat_sub_of_le _ _ (by rw [UInt64.le_iff_toNat_le]; have := HSZ.out.2; simp; omega)]; rfl
          have hy7p : ((y7.toNat : Int) == 0) = false := by have := HSZ.out.2; simp; omega
          obtain ⟨rl, hrl⟩ : ∃ r, r = lenP (m, wh, ln) := ⟨_, rfl⟩
          have q_rl : (ln.toNat : Int) % (y7.toNat : Int) = (rl.toNat : Int) := by rw [hrl]; unfold lenP; rw [← HSZ.out.1, ← hy7, UInt64.toNat_ofNat']; have h1 := Nat.mod_le ln.toNat y7.toNat; have h2 := ln.toNat_lt; dsimp only; omega
          have q_rl2 : ((ln.toNat : Int)).tmod (y7.toNat : Int) = (rl.toNat : Int) := by rw [Int.tmod_eq_emod_of_nonneg (by omega)]; exact q_rl
          have q_ln : IntKind.u64.wrap (ln.toNat : Int) = (ln.toNat : Int) := by rw [IntWalk.u64_in _ (by have := ln.toNat_lt; omega)]
          have q_y7 : (y7.toNat = 0) = False := by have := HSZ.out.2; simp; omega
          have HRL := Lib.hid hrl
          clear hy7 hrl hy7n
          have d1 : decide (e.toNat < y9.toNat) = false := decide_eq_false (HBR.out)
          have c_B1_0 := hB1.out.cell 0 _ rfl
          have f_B1_0 := hB1.out.frz 0
          have c_B1_1 := hB1.out.cell 1 _ rfl
          have f_B1_1 := hB1.out.frz 1
          have l_B1 := hB1.out.lt
          have c_B2_0 := hB2.out.cell 0 _ rfl
          have f_B2_0 := hB2.out.frz 0
          have c_B2_1 := hB2.out.cell 1 _ rfl
          have f_B2_1 := hB2.out.frz 1
          have l_B2 := hB2.out.lt
          have e_0 := (hst.out.keeps.cell HGB.out (fun e => e) _).trans (View.cellPc HC.out k (m, wh, ln) HX.out).1
          have e_1 := (hst.out.keeps.cell HGB.out (fun e => e) _).trans (View.cellPc HC.out k (m, wh, ln) HX.out).2.1
          have e_2 := (hst.out.keeps.cell HGB.out (fun e => e) _).trans (View.cellPc HC.out k (m, wh, ln) HX.out).2.2
          have l_gv := Nat.lt_of_lt_of_le HGB.out hst.out.keeps.size
          obtain ⟨W4, hW4⟩ : ∃ W, W = wr.alloc (.cells #[.int .u64 (sz.toNat : Int), .bool true, .int .i64 ((vv : Int) - 1)] 61) := ⟨_, rfl⟩
          obtain ⟨B3, eB3⟩ : ∃ B, B = wr.heap.size := ⟨_, rfl⟩
          replace hW4 := Lib.hid hW4
          replace eB3 := Lib.hid eB3
          go_wp2_with fail
          clear c_B1_0 f_B1_0 c_B1_1 f_B1_1 l_B1 c_B2_0 f_B2_0 c_B2_1 f_B2_1 l_B2 e_0 e_1 e_2 l_gv
          rw [← hW4.out]
          try rw [← eB3.out]
          have k3 : Keeps Nil wr W4 := by rw [hW4.out]; exact alloc_keeps _ _
          have e0B3 : B3 = wr.heap.size := by rw [eB3.out]
          have hB3 := Lib.hid (show Bx W4 Nil B3 #[.int .u64 (sz.toNat : Int), .bool true, .int .i64 ((vv : Int) - 1)] 61 by rw [hW4.out]; exact Bx.new Nil.lt _ _ e0B3)
          have gB3 := Lib.hid (show w.heap.size ≤ B3 by rw [e0B3]; exact hst.out.keeps.size)
          have nB1B3 := Lib.hid (show B1 < B3 by rw [e0B3]; exact hB1.out.lt)
          have nB2B3 := Lib.hid (show B2 < B3 by rw [e0B3]; exact hB2.out.lt)
          replace hst := Lib.hid (hst.out.nil k3)
          replace hX2 := Lib.hid (hX2.out.keeps_nil k3)
          replace hB1 := Lib.hid (hB1.out.nil k3)
          replace hB2 := Lib.hid (hB2.out.nil k3)
          clear k3 e0B3
          refine (rWrite5_any hX2.out (fun k e => Nat.lt_of_lt_of_le (HS.out k e) hst.out.keeps.size) (good_small HG2.out hws) off ⟨sz, true, (vv : Int) - 1⟩ _ rfl).mono ?_
          rintro _ W5 ⟨a4, c4, rfl, hv, kn⟩
          have hX3 := Lib.hid hv
          clear hv
          replace hst := Lib.hid (hst.out.nil kn)
          replace hX2 := Lib.hid (hX2.out.keeps_nil kn)
          replace hB1 := Lib.hid (hB1.out.nil kn)
          replace hB2 := Lib.hid (hB2.out.nil kn)
          replace hB3 := Lib.hid (hB3.out.nil kn)
          clear kn
          have c_B1_0 := hB1.out.cell 0 _ rfl
          have f_B1_0 := hB1.out.frz 0
          have c_B1_1 := hB1.out.cell 1 _ rfl
          have f_B1_1 := hB1.out.frz 1
          have l_B1 := hB1.out.lt
          have c_B2_0 := hB2.out.cell 0 _ rfl
          have f_B2_0 := hB2.out.frz 0
          have c_B2_1 := hB2.out.cell 1 _ rfl
          have f_B2_1 := hB2.out.frz 1
          have l_B2 := hB2.out.lt
          have c_B3_0 := hB3.out.cell 0 _ rfl
          have f_B3_0 := hB3.out.frz 0
          have c_B3_1 := hB3.out.cell 1 _ rfl
          have f_B3_1 := hB3.out.frz 1
          have c_B3_2 := hB3.out.cell 2 _ rfl
          have f_B3_2 := hB3.out.frz 2
          have l_B3 := hB3.out.lt
          have e_0 := (hst.out.keeps.cell HGB.out (fun e => e) _).trans (View.cellPc HC.out k (m, wh, ln) HX.out).1
          have e_1 := (hst.out.keeps.cell HGB.out (fun e => e) _).trans (View.cellPc HC.out k (m, wh, ln) HX.out).2.1
          have e_2 := (hst.out.keeps.cell HGB.out (fun e => e) _).trans (View.cellPc HC.out k (m, wh, ln) HX.out).2.2
          have l_gv := Nat.lt_of_lt_of_le HGB.out hst.out.keeps.size
          obtain ⟨W6, hW6⟩ : ∃ W, W = W5.alloc (.cells #[.slice a1 n1 c1, .slice a4 (writeP ws l2 off ⟨sz, true, (vv : Int) - 1⟩).length c4] 71) := ⟨_, rfl⟩
          obtain ⟨B4, eB4⟩ : ∃ B, B = W5.heap.size := ⟨_, rfl⟩
          replace hW6 := Lib.hid hW6
          replace eB4 := Lib.hid eB4
          go_wp2_with fail
          clear c_B1_0 f_B1_0 c_B1_1 f_B1_1 l_B1 c_B2_0 f_B2_0 c_B2_1 f_B2_1 l_B2 c_B3_0 f_B3_0 c_B3_1 f_B3_1 c_B3_2 f_B3_2 l_B3 e_0 e_1 e_2 l_gv
          rw [← hW6.out]
          try rw [← eB4.out]
          have k4 : Keeps Nil W5 W6 := by rw [hW6.out]; exact alloc_keeps _ _
          have e0B4 : B4 = W5.heap.size := by rw [eB4.out]
          have hB4 := Lib.hid (show Bx W6 Nil B4 #[.slice a1 n1 c1, .slice a4 (writeP ws l2 off ⟨sz, true, (vv : Int) - 1⟩).length c4] 71 by rw [hW6.out]; exact Bx.new Nil.lt _ _ e0B4)
          have gB4 := Lib.hid (show w.heap.size ≤ B4 by rw [e0B4]; exact hst.out.keeps.size)
          have nB1B4 := Lib.hid (show B1 < B4 by rw [e0B4]; exact hB1.out.lt)
          have nB2B4 := Lib.hid (show B2 < B4 by rw [e0B4]; exact hB2.out.lt)
          have nB3B4 := Lib.hid (show B3 < B4 by rw [e0B4]; exact hB3.out.lt)
          replace hst := Lib.hid (hst.out.nil k4)
          replace hX2 := Lib.hid (hX2.out.keeps_nil k4)
          replace hX3 := Lib.hid (hX3.out.keeps_nil k4)
          replace hB1 := Lib.hid (hB1.out.nil k4)
          replace hB2 := Lib.hid (hB2.out.nil k4)
          replace hB3 := Lib.hid (hB3.out.nil k4)
          clear k4 e0B4
          obtain ⟨W7, hW7⟩ : ∃ W, W = W6.drew := ⟨_, rfl⟩
          replace hW7 := Lib.hid hW7
          have kn : Keeps Nil W6 W7 := by rw [hW7.out]; exact keeps_drew _
          replace hst := Lib.hid (hst.out.nil kn)
          replace hX2 := Lib.hid (hX2.out.keeps_nil kn)
          replace hX3 := Lib.hid (hX3.out.keeps_nil kn)
          replace hB1 := Lib.hid (hB1.out.nil kn)
          replace hB2 := Lib.hid (hB2.out.nil kn)
          replace hB3 := Lib.hid (hB3.out.nil kn)
          replace hB4 := Lib.hid (hB4.out.nil kn)
          clear kn
          refine wp_region_held_drew (S := fun w' => w'.cell? ⟨B1, 0, none⟩ = some (.slice a1 n1 c1) ∧ w'.cell? ⟨B1, 1, none⟩ = some (.slice a3 l2.length c3) ∧ w'.cell? ⟨B2, 0, none⟩ = some (.slice none 0 0) ∧ w'.cell? ⟨B2, 1, none⟩ = some (.slice none 0 0) ∧ w'.cell? ⟨B3, 0, none⟩ = some (.int .u64 (sz.toNat : Int)) ∧ w'.cell? ⟨B3, 1, none⟩ = some (.bool true) ∧ w'.cell? ⟨B3, 2, none⟩ = some (.int .i64 ((vv : Int) - 1)) ∧ w'.cell? ⟨gv, ov + k * 3, none⟩ = some (.int .u8 (m.toNat : Int)) ∧ w'.cell? ⟨gv, ov + k * 3 + 1, none⟩ = some (.int .u8 (wh.toNat : Int)) ∧ w'.cell? ⟨gv, ov + k * 3 + 2, none⟩ = some (.int .u16 (ln.toNat : Int))) (by kernel_rfl) (by rw [← hW7.out]; exact ⟨hB1.out.cell 0 _ rfl, hB1.out.cell 1 _ rfl, hB2.out.cell 0 _ rfl, hB2.out.cell 1 _ rfl, hB3.out.cell 0 _ rfl, hB3.out.cell 1 _ rfl, hB3.out.cell 2 _ rfl, (hst.out.keeps.cell HGB.out (fun e => e) _).trans (View.cellPc HC.out k (m, wh, ln) HX.out).1, (hst.out.keeps.cell HGB.out (fun e => e) _).trans (View.cellPc HC.out k (m, wh, ln) HX.out).2.1, (hst.out.keeps.cell HGB.out (fun e => e) _).trans (View.cellPc HC.out k (m, wh, ln) HX.out).2.2⟩) (fun hHeld => ?_)
          rw [← hW7.out] at hHeld ⊢
          refine wpAnyH_take (i := 1) (oi := _) (v := ?m11_v) rfl (by kernel_rfl) (by kernel_rfl) (by kernel_rfl) (fun _ _ _ h => h) (Or.inl ⟨by kernel_rfl, ?m11_h⟩) hHeld ?m11_r
          case m11_h => (intro w hSw; (try dsimp only at hSw); go_simp; try with_reducible rfl)
          try simp only [Act.put, List.getElem_toArray, List.getElem_cons_succ, List.getElem_cons_zero, List.setIfInBounds_toArray, List.set_cons_zero, List.set_cons_succ]
          obtain ⟨y1, zy1⟩ : ∃ y : UInt64, y = off + 8 := ⟨_, rfl⟩
          have q1 : IntKind.u64.wrap ((off.toNat : Int) + 8) = (y1.toNat : Int) := by rw [zy1]; exact u64_add off 8
          replace zy1 := Lib.hid zy1
          refine wpAnyH_take (i := 2) (oi := _) (v := ?m12_v) rfl (by kernel_rfl) (by kernel_rfl) (by kernel_rfl) (fun _ _ _ h => h) (Or.inl ⟨by kernel_rfl, ?m12_h⟩) hHeld ?m12_r
          case m12_h => (intro w hSw; (try dsimp only at hSw); go_simp; try with_reducible rfl)
          try simp only [Act.put, List.getElem_toArray, List.getElem_cons_succ, List.getElem_cons_zero, List.setIfInBounds_toArray, List.set_cons_zero, List.set_cons_succ]
          refine wpAnyH_take (i := 3) (oi := _) (v := ?m13_v) rfl (by kernel_rfl) (by kernel_rfl) (by kernel_rfl) (fun _ _ _ h => h) (Or.inl ⟨by kernel_rfl, ?m13_h⟩) hHeld ?m13_r
          case m13_h => (intro w hSw; (try dsimp only at hSw); go_simp; try with_reducible rfl)
          try simp only [Act.put, List.getElem_toArray, List.getElem_cons_succ, List.getElem_cons_zero, List.setIfInBounds_toArray, List.set_cons_zero, List.set_cons_succ]
          refine wpAnyH_take (i := 4) (oi := _) (v := ?m14_v) rfl (by kernel_rfl) (by kernel_rfl) (by kernel_rfl) (fun _ _ _ h => h) (Or.inl ⟨by kernel_rfl, ?m14_h⟩) hHeld ?m14_r
          case m14_h => (intro w hSw; (try dsimp only at hSw); go_simp; try with_reducible rfl)
          try simp only [Act.put, List.getElem_toArray, List.getElem_cons_succ, List.getElem_cons_zero, List.setIfInBounds_toArray, List.set_cons_zero, List.set_cons_succ]
          refine wpAnyH_take (i := 5) (oi := _) (v := ?m15_v) rfl (by kernel_rfl) (by kernel_rfl) (by kernel_rfl) (fun _ _ _ h => h) (Or.inl ⟨by kernel_rfl, ?m15_h⟩) hHeld ?m15_r
          case m15_h => (intro w hSw; (try dsimp only at hSw); go_simp; try with_reducible rfl)
          try simp only [Act.put, List.getElem_toArray, List.getElem_cons_succ, List.getElem_cons_zero, List.setIfInBounds_toArray, List.set_cons_zero, List.set_cons_succ]
          refine wpAnyH_take (i := 6) (oi := _) (v := ?m16_v) rfl (by kernel_rfl) (by kernel_rfl) (by kernel_rfl) (fun _ _ _ h => h) (Or.inl ⟨by kernel_rfl, ?m16_h⟩) hHeld ?m16_r
          case m16_h => (intro w hSw; (try dsimp only at hSw); go_simp; try with_reducible rfl)
          try simp only [Act.put, List.getElem_toArray, List.getElem_cons_succ, List.getElem_cons_zero, List.setIfInBounds_toArray, List.set_cons_zero, List.set_cons_succ]
          refine wpAnyH_take (i := 7) (oi := _) (v := ?m17_v) rfl (by kernel_rfl) (by kernel_rfl) (by kernel_rfl) (fun _ _ _ h => h) (Or.inl ⟨by kernel_rfl, ?m17_h⟩) hHeld ?m17_r
          case m17_h => (intro w hSw; (try dsimp only at hSw); go_simp; try with_reducible rfl)
          try simp only [Act.put, List.getElem_toArray, List.getElem_cons_succ, List.getElem_cons_zero, List.setIfInBounds_toArray, List.set_cons_zero, List.set_cons_succ]
          refine wpAnyH_take (i := 8) (oi := _) (v := ?m18_v) rfl (by kernel_rfl) (by kernel_rfl) (by kernel_rfl) (fun _ _ _ h => h) (Or.inl ⟨by kernel_rfl, ?m18_h⟩) hHeld ?m18_r
          case m18_h => (intro w hSw; (try dsimp only at hSw); go_simp; try with_reducible rfl)
          try simp only [Act.put, List.getElem_toArray, List.getElem_cons_succ, List.getElem_cons_zero, List.setIfInBounds_toArray, List.set_cons_zero, List.set_cons_succ]
          refine wpAnyH_take (i := 9) (oi := _) (v := ?m19_v) rfl (by kernel_rfl) (by kernel_rfl) (by kernel_rfl) (fun _ _ _ h => h) (Or.inl ⟨by kernel_rfl, ?m19_h⟩) hHeld ?m19_r
          case m19_h => (intro w hSw; (try dsimp only at hSw); go_simp; try with_reducible rfl)
          try simp only [Act.put, List.getElem_toArray, List.getElem_cons_succ, List.getElem_cons_zero, List.setIfInBounds_toArray, List.set_cons_zero, List.set_cons_succ]
          refine wpAnyH_take (i := 10) (oi := _) (v := ?m20_v) rfl (by kernel_rfl) (by kernel_rfl) (by kernel_rfl) (fun _ _ _ h => h) (Or.inl ⟨by kernel_rfl, ?m20_h⟩) hHeld ?m20_r
          case m20_h => (intro w hSw; (try dsimp only at hSw); go_simp; try with_reducible rfl)
          try simp only [Act.put, List.getElem_toArray, List.getElem_cons_succ, List.getElem_cons_zero, List.setIfInBounds_toArray, List.set_cons_zero, List.set_cons_succ]
          refine wpAnyH_take (i := 11) (oi := _) (v := ?m21_v) rfl (by kernel_rfl) (by kernel_rfl) (by kernel_rfl) (fun _ _ _ h => h) (Or.inl ⟨by kernel_rfl, ?m21_h⟩) hHeld ?m21_r
          case m21_h => (intro w hSw; (try dsimp only at hSw); go_simp; try with_reducible rfl)
          try simp only [Act.put, List.getElem_toArray, List.getElem_cons_succ, List.getElem_cons_zero, List.setIfInBounds_toArray, List.set_cons_zero, List.set_cons_succ]
          refine wpAnyH_take (i := 12) (oi := _) (v := ?m22_v) rfl (by kernel_rfl) (by kernel_rfl) (by kernel_rfl) (fun _ _ _ h => h) (Or.inl ⟨by kernel_rfl, ?m22_h⟩) hHeld ?m22_r
          case m22_h => (intro w hSw; (try dsimp only at hSw); go_simp; try with_reducible rfl)
          try simp only [Act.put, List.getElem_toArray, List.getElem_cons_succ, List.getElem_cons_zero, List.setIfInBounds_toArray, List.set_cons_zero, List.set_cons_succ]
          refine wpAnyH_ready (rs := [0]) (by kernel_rfl) (by simp) ?_
          refine (AllReadyH.cons (o := _) rfl (fun K hK => ?_) AllReadyH.nil)
          have c_B1_0 := hB1.out.cell 0 _ rfl
          have f_B1_0 := hB1.out.frz 0
          have c_B1_1 := hB1.out.cell 1 _ rfl
          have f_B1_1 := hB1.out.frz 1
          have l_B1 := hB1.out.lt
          have c_B2_0 := hB2.out.cell 0 _ rfl
          have f_B2_0 := hB2.out.frz 0
          have c_B2_1 := hB2.out.cell 1 _ rfl
          have f_B2_1 := hB2.out.frz 1
          have l_B2 := hB2.out.lt
          have c_B3_0 := hB3.out.cell 0 _ rfl
          have f_B3_0 := hB3.out.frz 0
          have c_B3_1 := hB3.out.cell 1 _ rfl
          have f_B3_1 := hB3.out.frz 1
          have c_B3_2 := hB3.out.cell 2 _ rfl
          have f_B3_2 := hB3.out.frz 2
          have l_B3 := hB3.out.lt
          have c_B4_0 := hB4.out.cell 0 _ rfl
          have f_B4_0 := hB4.out.frz 0
          have c_B4_1 := hB4.out.cell 1 _ rfl
          have f_B4_1 := hB4.out.frz 1
          have l_B4 := hB4.out.lt
          have e_0 := (hst.out.keeps.cell HGB.out (fun e => e) _).trans (View.cellPc HC.out k (m, wh, ln) HX.out).1
          have e_1 := (hst.out.keeps.cell HGB.out (fun e => e) _).trans (View.cellPc HC.out k (m, wh, ln) HX.out).2.1
          have e_2 := (hst.out.keeps.cell HGB.out (fun e => e) _).trans (View.cellPc HC.out k (m, wh, ln) HX.out).2.2
          have l_gv := Nat.lt_of_lt_of_le HGB.out hst.out.keeps.size
          go_simp
          clear c_B1_0 f_B1_0 c_B1_1 f_B1_1 l_B1 c_B2_0 f_B2_0 c_B2_1 f_B2_1 l_B2 c_B3_0 f_B3_0 c_B3_1 f_B3_1 c_B3_2 f_B3_2 l_B3 c_B4_0 f_B4_0 c_B4_1 f_B4_1 l_B4 e_0 e_1 e_2 l_gv
          refine hK.out _ _ (⟨hB1.out.cell 0 _ rfl, hB1.out.cell 1 _ rfl, hB2.out.cell 0 _ rfl, hB2.out.cell 1 _ rfl, hB3.out.cell 0 _ rfl, hB3.out.cell 1 _ rfl, hB3.out.cell 2 _ rfl, (hst.out.keeps.cell HGB.out (fun e => e) _).trans (View.cellPc HC.out k (m, wh, ln) HX.out).1, (hst.out.keeps.cell HGB.out (fun e => e) _).trans (View.cellPc HC.out k (m, wh, ln) HX.out).2.1, (hst.out.keeps.cell HGB.out (fun e => e) _).trans (View.cellPc HC.out k (m, wh, ln) HX.out).2.2⟩) (fun hHeld => ?_)
          clear hK K
          try simp only [Act.put, List.getElem_toArray, List.getElem_cons_succ, List.getElem_cons_zero, List.setIfInBounds_toArray, List.set_cons_zero, List.set_cons_succ]
          refine wpAnyH_ready (rs := [13]) (by kernel_rfl) (by simp) ?_
          refine (AllReadyH.cons (o := _) rfl (fun K hK => ?_) AllReadyH.nil)
          go_simp
          refine (hX3.out.store (fun k e => Nat.lt_of_lt_of_le (HS.out k e) hst.out.keeps.size) (by have := good_small (HG2.out.write off ⟨sz, true, (vv : Int) - 1⟩) hws; omega) y1 rl _ _ rfl rfl).mono ?_
          rintro _ W8 ⟨v, rfl, hv, kn⟩
          obtain ⟨a5, c5, rfl⟩ := hv.valB
          have hX4 := Lib.hid hv
          clear hv
          replace hst := Lib.hid (hst.out.nil kn)
          replace hX2 := Lib.hid (hX2.out.keeps_nil kn)
          replace hX3 := Lib.hid (hX3.out.keeps_nil kn)
          replace hB1 := Lib.hid (hB1.out.nil kn)
          replace hB2 := Lib.hid (hB2.out.nil kn)
          replace hB3 := Lib.hid (hB3.out.nil kn)
          replace hB4 := Lib.hid (hB4.out.nil kn)
          clear kn
          refine hK.out _ _ (⟨hB1.out.cell 0 _ rfl, hB1.out.cell 1 _ rfl, hB2.out.cell 0 _ rfl, hB2.out.cell 1 _ rfl, hB3.out.cell 0 _ rfl, hB3.out.cell 1 _ rfl, hB3.out.cell 2 _ rfl, (hst.out.keeps.cell HGB.out (fun e => e) _).trans (View.cellPc HC.out k (m, wh, ln) HX.out).1, (hst.out.keeps.cell HGB.out (fun e => e) _).trans (View.cellPc HC.out k (m, wh, ln) HX.out).2.1, (hst.out.keeps.cell HGB.out (fun e => e) _).trans (View.cellPc HC.out k (m, wh, ln) HX.out).2.2⟩) (fun hHeld => ?_)
          clear hK K
          try simp only [Act.put, List.getElem_toArray, List.getElem_cons_succ, List.getElem_cons_zero, List.setIfInBounds_toArray, List.set_cons_zero, List.set_cons_succ]
          refine wpAnyH_ready (rs := [14]) (by kernel_rfl) (by simp) ?_
          refine (AllReadyH.cons (o := _) rfl (fun K hK => ?_) AllReadyH.nil)
          have c_B1_0 := hB1.out.cell 0 _ rfl
          have f_B1_0 := hB1.out.frz 0
          have c_B1_1 := hB1.out.cell 1 _ rfl
          have f_B1_1 := hB1.out.frz 1
          have l_B1 := hB1.out.lt
          have c_B2_0 := hB2.out.cell 0 _ rfl
          have f_B2_0 := hB2.out.frz 0
          have c_B2_1 := hB2.out.cell 1 _ rfl
          have f_B2_1 := hB2.out.frz 1
          have l_B2 := hB2.out.lt
          have c_B3_0 := hB3.out.cell 0 _ rfl
          have f_B3_0 := hB3.out.frz 0
          have c_B3_1 := hB3.out.cell 1 _ rfl
          have f_B3_1 := hB3.out.frz 1
          have c_B3_2 := hB3.out.cell 2 _ rfl
          have f_B3_2 := hB3.out.frz 2
          have l_B3 := hB3.out.lt
          have c_B4_0 := hB4.out.cell 0 _ rfl
          have f_B4_0 := hB4.out.frz 0
          have c_B4_1 := hB4.out.cell 1 _ rfl
          have f_B4_1 := hB4.out.frz 1
          have l_B4 := hB4.out.lt
          have e_0 := (hst.out.keeps.cell HGB.out (fun e => e) _).trans (View.cellPc HC.out k (m, wh, ln) HX.out).1
          have e_1 := (hst.out.keeps.cell HGB.out (fun e => e) _).trans (View.cellPc HC.out k (m, wh, ln) HX.out).2.1
          have e_2 := (hst.out.keeps.cell HGB.out (fun e => e) _).trans (View.cellPc HC.out k (m, wh, ln) HX.out).2.2
          have l_gv := Nat.lt_of_lt_of_le HGB.out hst.out.keeps.size
          obtain ⟨W9, hW9⟩ : ∃ W, W = ((W8.setCell ⟨B4, 0, none⟩ (.slice a1 n1 c1)).setCell ⟨B4, 1, none⟩ (.slice a5 (txStore ws (writeP ws l2 off ⟨sz, true, (vv : Int) - 1⟩) y1 rl).length c5)) := ⟨_, rfl⟩
          replace hW9 := Lib.hid hW9
          go_simp
          clear c_B1_0 f_B1_0 c_B1_1 f_B1_1 l_B1 c_B2_0 f_B2_0 c_B2_1 f_B2_1 l_B2 c_B3_0 f_B3_0 c_B3_1 f_B3_1 c_B3_2 f_B3_2 l_B3 c_B4_0 f_B4_0 c_B4_1 f_B4_1 l_B4 e_0 e_1 e_2 l_gv
          rw [← hW9.out]
          replace hX2 := Lib.hid (hX2.out.box hB4.out.1 (show Keeps (fun i => i = B4) W8 W9 by rw [hW9.out]; exact (keeps_setCell W8 ⟨B4, 0, none⟩ _).trans' (keeps_setCell _ ⟨B4, 1, none⟩ _)))
          replace hX3 := Lib.hid (hX3.out.box hB4.out.1 (show Keeps (fun i => i = B4) W8 W9 by rw [hW9.out]; exact (keeps_setCell W8 ⟨B4, 0, none⟩ _).trans' (keeps_setCell _ ⟨B4, 1, none⟩ _)))
          replace hX4 := Lib.hid (hX4.out.box hB4.out.1 (show Keeps (fun i => i = B4) W8 W9 by rw [hW9.out]; exact (keeps_setCell W8 ⟨B4, 0, none⟩ _).trans' (keeps_setCell _ ⟨B4, 1, none⟩ _)))
          replace hst := Lib.hid (show Step _ Nil w W9 by rw [hW9.out]; exact ((hst.out.set gB4.out _ _).set gB4.out _ _))
          replace hB1 := Lib.hid (show Bx W9 Nil B1 #[.slice a1 n1 c1, .slice a3 l2.length c3] 71 by rw [hW9.out]; exact ((hB1.out.other (Nat.ne_of_lt nB1B4.out) _ _).other (Nat.ne_of_lt nB1B4.out) _ _))
          replace hB2 := Lib.hid (show Bx W9 Nil B2 #[.slice none 0 0, .slice none 0 0] 71 by rw [hW9.out]; exact ((hB2.out.other (Nat.ne_of_lt nB2B4.out) _ _).other (Nat.ne_of_lt nB2B4.out) _ _))
          replace hB3 := Lib.hid (show Bx W9 Nil B3 #[.int .u64 (sz.toNat : Int), .bool true, .int .i64 ((vv : Int) - 1)] 61 by rw [hW9.out]; exact ((hB3.out.other (Nat.ne_of_lt nB3B4.out) _ _).other (Nat.ne_of_lt nB3B4.out) _ _))
          replace hB4 := Lib.hid (show Bx W9 Nil B4 #[.slice a1 n1 c1, .slice a5 (txStore ws (writeP ws l2 off ⟨sz, true, (vv : Int) - 1⟩) y1 rl).length c5] 71 by rw [hW9.out]; exact ((hB4.out.set _ _).set _ _))
          refine hK.out _ _ (⟨hB1.out.cell 0 _ rfl, hB1.out.cell 1 _ rfl, hB2.out.cell 0 _ rfl, hB2.out.cell 1 _ rfl, hB3.out.cell 0 _ rfl, hB3.out.cell 1 _ rfl, hB3.out.cell 2 _ rfl, (hst.out.keeps.cell HGB.out (fun e => e) _).trans (View.cellPc HC.out k (m, wh, ln) HX.out).1, (hst.out.keeps.cell HGB.out (fun e => e) _).trans (View.cellPc HC.out k (m, wh, ln) HX.out).2.1, (hst.out.keeps.cell HGB.out (fun e => e) _).trans (View.cellPc HC.out k (m, wh, ln) HX.out).2.2⟩) (fun hHeld => ?_)
          clear hK K
          try simp only [Act.put, List.getElem_toArray, List.getElem_cons_succ, List.getElem_cons_zero, List.setIfInBounds_toArray, List.set_cons_zero, List.set_cons_succ]
          refine wpAnyH_done (by kernel_rfl) ?_ _
          clear hHeld
          have c_B1_0 := hB1.out.cell 0 _ rfl
          have f_B1_0 := hB1.out.frz 0
          have c_B1_1 := hB1.out.cell 1 _ rfl
          have f_B1_1 := hB1.out.frz 1
          have l_B1 := hB1.out.lt
          have c_B2_0 := hB2.out.cell 0 _ rfl
          have f_B2_0 := hB2.out.frz 0
          have c_B2_1 := hB2.out.cell 1 _ rfl
          have f_B2_1 := hB2.out.frz 1
          have l_B2 := hB2.out.lt
          have c_B3_0 := hB3.out.cell 0 _ rfl
          have f_B3_0 := hB3.out.frz 0
          have c_B3_1 := hB3.out.cell 1 _ rfl
          have f_B3_1 := hB3.out.frz 1
          have c_B3_2 := hB3.out.cell 2 _ rfl
          have f_B3_2 := hB3.out.frz 2
          have l_B3 := hB3.out.lt
          have c_B4_0 := hB4.out.cell 0 _ rfl
          have f_B4_0 := hB4.out.frz 0
          have c_B4_1 := hB4.out.cell 1 _ rfl
          have f_B4_1 := hB4.out.frz 1
          have l_B4 := hB4.out.lt
          have e_0 := (hst.out.keeps.cell HGB.out (fun e => e) _).trans (View.cellPc HC.out k (m, wh, ln) HX.out).1
          have e_1 := (hst.out.keeps.cell HGB.out (fun e => e) _).trans (View.cellPc HC.out k (m, wh, ln) HX.out).2.1
          have e_2 := (hst.out.keeps.cell HGB.out (fun e => e) _).trans (View.cellPc HC.out k (m, wh, ln) HX.out).2.2
          have l_gv := Nat.lt_of_lt_of_le HGB.out hst.out.keeps.size
          have ne_B2_B1 : (B2 = B1) = False := eq_false (Nat.ne_of_gt nB1B2.out)
          have ne_B1_B2 : (B1 = B2) = False := eq_false (Ne.symm (Nat.ne_of_gt nB1B2.out))
          have ne_B3_B1 : (B3 = B1) = False := eq_false (Nat.ne_of_gt nB1B3.out)
          have ne_B1_B3 : (B1 = B3) = False := eq_false (Ne.symm (Nat.ne_of_gt nB1B3.out))
          have ne_B4_B1 : (B4 = B1) = False := eq_false (Nat.ne_of_gt nB1B4.out)
          have ne_B1_B4 : (B1 = B4) = False := eq_false (Ne.symm (Nat.ne_of_gt nB1B4.out))
          have ne_gv_B1 : (gv = B1) = False := eq_false (Nat.ne_of_lt (Nat.lt_of_lt_of_le HGB.out gB1.out))
          obtain ⟨W10, hW10⟩ : ∃ W, W = ((W9.setCell ⟨B1, 0, none⟩ (.slice a1 n1 c1)).setCell ⟨B1, 1, none⟩ (.slice a5 (txStore ws (writeP ws l2 off ⟨sz, true, (vv : Int) - 1⟩) y1 rl).length c5)) := ⟨_, rfl⟩
          replace hW10 := Lib.hid hW10
          go_wp2_with fail
          clear c_B1_0 f_B1_0 c_B1_1 f_B1_1 l_B1 c_B2_0 f_B2_0 c_B2_1 f_B2_1 l_B2 c_B3_0 f_B3_0 c_B3_1 f_B3_1 c_B3_2 f_B3_2 l_B3 c_B4_0 f_B4_0 c_B4_1 f_B4_1 l_B4 e_0 e_1 e_2 l_gv ne_B2_B1 ne_B1_B2 ne_B3_B1 ne_B1_B3 ne_B4_B1 ne_B1_B4 ne_gv_B1
          rw [← hW10.out]
          replace hX2 := Lib.hid (hX2.out.box hB1.out.1 (show Keeps (fun i => i = B1) W9 W10 by rw [hW10.out]; exact (keeps_setCell W9 ⟨B1, 0, none⟩ _).trans' (keeps_setCell _ ⟨B1, 1, none⟩ _)))
          replace hX3 := Lib.hid (hX3.out.box hB1.out.1 (show Keeps (fun i => i = B1) W9 W10 by rw [hW10.out]; exact (keeps_setCell W9 ⟨B1, 0, none⟩ _).trans' (keeps_setCell _ ⟨B1, 1, none⟩ _)))
          replace hX4 := Lib.hid (hX4.out.box hB1.out.1 (show Keeps (fun i => i = B1) W9 W10 by rw [hW10.out]; exact (keeps_setCell W9 ⟨B1, 0, none⟩ _).trans' (keeps_setCell _ ⟨B1, 1, none⟩ _)))
          replace hst := Lib.hid (show Step _ Nil w W10 by rw [hW10.out]; exact ((hst.out.set gB1.out _ _).set gB1.out _ _))
          replace hB1 := Lib.hid (show Bx W10 Nil B1 #[.slice a1 n1 c1, .slice a5 (txStore ws (writeP ws l2 off ⟨sz, true, (vv : Int) - 1⟩) y1 rl).length c5] 71 by rw [hW10.out]; exact ((hB1.out.set _ _).set _ _))
          replace hB2 := Lib.hid (show Bx W10 Nil B2 #[.slice none 0 0, .slice none 0 0] 71 by rw [hW10.out]; exact ((hB2.out.other (Nat.ne_of_gt nB1B2.out) _ _).other (Nat.ne_of_gt nB1B2.out) _ _))
          replace hB3 := Lib.hid (show Bx W10 Nil B3 #[.int .u64 (sz.toNat : Int), .bool true, .int .i64 ((vv : Int) - 1)] 61 by rw [hW10.out]; exact ((hB3.out.other (Nat.ne_of_gt nB1B3.out) _ _).other (Nat.ne_of_gt nB1B3.out) _ _))
          replace hB4 := Lib.hid (show Bx W10 Nil B4 #[.slice a1 n1 c1, .slice a5 (txStore ws (writeP ws l2 off ⟨sz, true, (vv : Int) - 1⟩) y1 rl).length c5] 71 by rw [hW10.out]; exact ((hB4.out.other (Nat.ne_of_gt nB1B4.out) _ _).other (Nat.ne_of_gt nB1B4.out) _ _))
          go_roundw
          case rel => exact ⟨⟨k + 1, y0, _, _, _, by omega, rfl, by go_num, Lib.hid hst.out.keeps, hB1, hX4, Lib.hid (by rw [← putPc_used HTG.out zy1.out HRL.out]; exact HG2.out.pc off (m, wh, ln)), Lib.hid (by rw [HL.out, lay_next HX.out (by rw [← HY.out.2]; exact HBR.out), putPc_used HTG.out zy1.out HRL.out, HY.out.1, HSZ.out.1])⟩, hB2⟩
          case measure => simp [intOf]; omega
    · skip
      obtain ⟨y1, zy1⟩ : ∃ y : UInt64, y = e - off := ⟨_, rfl⟩
      have q1 : IntKind.u64.wrap ((e.toNat : Int) - (off.toNat : Int)) = (y1.toNat : Int) := by rw [zy1]; exact u64_sub e off
      replace zy1 := Lib.hid zy1
      have c_B1_0 := hB1.out.cell 0 _ rfl
      have f_B1_0 := hB1.out.frz 0
      have c_B1_1 := hB1.out.cell 1 _ rfl
      have f_B1_1 := hB1.out.frz 1
      have l_B1 := hB1.out.lt
      have c_B2_0 := hB2.out.cell 0 _ rfl
      have f_B2_0 := hB2.out.frz 0
      have c_B2_1 := hB2.out.cell 1 _ rfl
      have f_B2_1 := hB2.out.frz 1
      have l_B2 := hB2.out.lt
      go_wp2_with fail
      clear c_B1_0 f_B1_0 c_B1_1 f_B1_1 l_B1 c_B2_0 f_B2_0 c_B2_1 f_B2_1 l_B2
      refine (rWrite5_any hX2.out (fun k e => Nat.lt_of_lt_of_le (HS.out k e) hst.out.keeps.size) (good_small HG2.out hws) off ⟨y1, false, 0⟩ _ rfl).mono ?_
      rintro _ W4 ⟨a4, c4, rfl, hv, kn⟩
      have hX3 := Lib.hid hv
      clear hv
      replace hst := Lib.hid (hst.out.nil kn)
      replace hX2 := Lib.hid (hX2.out.keeps_nil kn)
      replace hB1 := Lib.hid (hB1.out.nil kn)
      replace hB2 := Lib.hid (hB2.out.nil kn)
      clear kn
      have c_B1_0 := hB1.out.cell 0 _ rfl
      have f_B1_0 := hB1.out.frz 0
      have c_B1_1 := hB1.out.cell 1 _ rfl
      have f_B1_1 := hB1.out.frz 1
      have l_B1 := hB1.out.lt
      have c_B2_0 := hB2.out.cell 0 _ rfl
      have f_B2_0 := hB2.out.frz 0
      have c_B2_1 := hB2.out.cell 1 _ rfl
      have f_B2_1 := hB2.out.frz 1
      have l_B2 := hB2.out.lt
      have ne_B1_B2 : (B1 = B2) = False := eq_false (Nat.ne_of_lt nB1B2.out)
      have ne_B2_B1 : (B2 = B1) = False := eq_false (Ne.symm (Nat.ne_of_lt nB1B2.out))
      obtain ⟨W5, hW5⟩ : ∃ W, W = ((W4.setCell ⟨B2, 0, none⟩ (.slice a1 n1 c1)).setCell ⟨B2, 1, none⟩ (.slice a4 (writeP ws l2 off ⟨y1, false, 0⟩).length c4)) := ⟨_, rfl⟩
      replace hW5 := Lib.hid hW5
      obtain ⟨W6, hW6⟩ : ∃ W, W = W5.alloc (.cells #[.slice a1 n1 c1, .slice a4 (writeP ws l2 off ⟨y1, false, 0⟩).length c4] 71) := ⟨_, rfl⟩
      obtain ⟨B3, eB3⟩ : ∃ B, B = W4.heap.size := ⟨_, rfl⟩
      replace hW6 := Lib.hid hW6
      replace eB3 := Lib.hid eB3
      go_wp2_with fail
      clear c_B1_0 f_B1_0 c_B1_1 f_B1_1 l_B1 c_B2_0 f_B2_0 c_B2_1 f_B2_1 l_B2 ne_B1_B2 ne_B2_B1
      rw [← hW5.out]
      rw [← hW6.out]
      try rw [← eB3.out]
      replace hX2 := Lib.hid (hX2.out.box hB2.out.1 (show Keeps (fun i => i = B2) W4 W5 by rw [hW5.out]; exact (keeps_setCell W4 ⟨B2, 0, none⟩ _).trans' (keeps_setCell _ ⟨B2, 1, none⟩ _)))
      replace hX3 := Lib.hid (hX3.out.box hB2.out.1 (show Keeps (fun i => i = B2) W4 W5 by rw [hW5.out]; exact (keeps_setCell W4 ⟨B2, 0, none⟩ _).trans' (keeps_setCell _ ⟨B2, 1, none⟩ _)))
      replace hst := Lib.hid (show Step _ Nil w W5 by rw [hW5.out]; exact ((hst.out.set gB2.out _ _).set gB2.out _ _))
      replace hB1 := Lib.hid (show Bx W5 Nil B1 #[.slice a1 n1 c1, .slice a3 l2.length c3] 71 by rw [hW5.out]; exact ((hB1.out.other (Nat.ne_of_lt nB1B2.out) _ _).other (Nat.ne_of_lt nB1B2.out) _ _))
      replace hB2 := Lib.hid (show Bx W5 Nil B2 #[.slice a1 n1 c1, .slice a4 (writeP ws l2 off ⟨y1, false, 0⟩).length c4] 71 by rw [hW5.out]; exact ((hB2.out.set _ _).set _ _))
      have k3 : Keeps Nil W5 W6 := by rw [hW6.out]; exact alloc_keeps _ _
      have e0B3 : B3 = W5.heap.size := by rw [eB3.out, hW5.out]; simp [World.setCell]
      have hB3 := Lib.hid (show Bx W6 Nil B3 #[.slice a1 n1 c1, .slice a4 (writeP ws l2 off ⟨y1, false, 0⟩).length c4] 71 by rw [hW6.out]; exact Bx.new Nil.lt _ _ e0B3)
      have gB3 := Lib.hid (show w.heap.size ≤ B3 by rw [e0B3]; exact hst.out.keeps.size)
      have nB1B3 := Lib.hid (show B1 < B3 by rw [e0B3]; exact hB1.out.lt)
      have nB2B3 := Lib.hid (show B2 < B3 by rw [e0B3]; exact hB2.out.lt)
      replace hst := Lib.hid (hst.out.nil k3)
      replace hX2 := Lib.hid (hX2.out.keeps_nil k3)
      replace hX3 := Lib.hid (hX3.out.keeps_nil k3)
      replace hB1 := Lib.hid (hB1.out.nil k3)
      replace hB2 := Lib.hid (hB2.out.nil k3)
      clear k3 e0B3
      refine bodyPost_ret (results_row rfl rfl hB2.out.1 Tryz.underlying71 rfl (by kernel_rfl)) rfl ?_
      have hR2 : R = (l2, off) := by rw [HL.out]; exact lay_end (by have := HN.out; omega)
      rw [hR2]
      have hw := hX3.out
      rw [zy1.out] at hw ⊢
      exact ⟨a4, c4, rfl, hw, hst.out.keeps⟩
end Go.Proofs.YtefpbljekfkefaaGreat
