/- Taken, Awake10, Open10: written short. -/
import Derived.Test.YtefpbljekfkefaaGreatS27
import Derived.Test.YtefpbljekfkefaaGreatS01
import Derived.Test.YtefpbljekfkefaaGreatS10
import Derived.Test.YtefpbljekfkefaaGreatS11
set_option maxRecDepth 100000
set_option maxHeartbeats 8000000
namespace Go.Proofs.YtefpbljekfkefaaGreat
section
open Go.RowKit PT
abbrev AskV := UInt8 × UInt8 × UInt16
theorem ask_one (b : AskV) : ∀ u ∈ [Value.int .u8 (b.1.toNat : Int), .int .u8 (b.2.1.toNat : Int), .int .u16 (b.2.2.toNat : Int)], u.oneCell' = true := fun u hu => by
 simp at hu
 rcases hu with rfl | rfl | rfl <;> rfl
abbrev kAs : Kind AskV := { slice := 90, elem := 110, size := 3, bytes := 4, zero := .agg #[.int .u8 0, .int .u8 0, .int .u16 0], enc := fun b => [.int .u8 (b.1.toNat : Int), .int .u8 (b.2.1.toNat : Int), .int .u16 (b.2.2.toNat : Int)], len := fun _ => rfl, one := ask_one, und := Tryz.underlying90, info := by kernel_rfl, zcells := rfl, pos := by decide, small := by decide }
theorem cellAs {w : World} {b off : Nat} {l : List AskV} (h : ∀ i j, j < kAs.size → i < l.length → w.cell? ⟨b, off + (i * kAs.size + j), none⟩ = (l[i]?).bind (fun x => (kAs.enc x)[j]?)) (i : Nat) (x : AskV) (hx : l[i]? = some x) :
  w.cell? ⟨b, off + i * 3, none⟩ = some (.int .u8 (x.1.toNat : Int)) ∧ w.cell? ⟨b, off + i * 3 + 1, none⟩ = some (.int .u8 (x.2.1.toNat : Int)) ∧ w.cell? ⟨b, off + i * 3 + 2, none⟩ = some (.int .u16 (x.2.2.toNat : Int)) := by
 have hi : i < l.length := (List.getElem?_eq_some_iff.1 hx).1
 have hk : kAs.size = 3 := rfl
 refine ⟨?_, ?_, ?_⟩
 · have := h i 0 (by rw [hk]; decide) hi; rw [hx] at this; simpa [hk] using this
 · have := h i 1 (by rw [hk]; decide) hi; rw [hx] at this; simpa [hk, Nat.add_assoc] using this
 · have := h i 2 (by rw [hk]; decide) hi; rw [hx] at this; simpa [hk, Nat.add_assoc] using this
def askO (q : AskV) : Int := ((q.1.toNat % 9 : Nat) : Int)
def askN (q : AskV) : UInt64 := UInt64.ofNat (q.2.2.toNat % 300)
def askA (q : AskV) : UInt64 := UInt64.ofNat (16 * 2 ^ (q.2.1.toNat % 4))
def askS (h : HeapV) (q : AskV) : HeapV := (takeV h (askO q) (askN q) (askA q)).1
theorem askA_nat (q : AskV) : (askA q).toNat = 16 * 2 ^ (q.2.1.toNat % 4) := by
 have h : q.2.1.toNat % 4 = 0 ∨ q.2.1.toNat % 4 = 1 ∨ q.2.1.toNat % 4 = 2 ∨ q.2.1.toNat % 4 = 3 := by omega
 unfold askA
 rcases h with h | h | h | h <;> rw [h] <;> rfl
theorem askN_nat (q : AskV) : (askN q).toNat = q.2.2.toNat % 300 := by
 unfold askN
 rw [UInt64.toNat_ofNat']; omega
def heap0 : HeapV := ([blk0], fun _ => [])
def takenV (l : List AskV) : HeapV := (l.take 20).foldl askS heap0
theorem fold_tile : ∀ (l : List AskV) (h : HeapV), Tile 3776 h.1 4800 → Tile 3776 (l.foldl askS h).1 4800
 | [], _, ht => ht
 | _ :: l, _, ht => fold_tile l _ (takeV_tile ht (Nat.le_refl _))
theorem takenV_tile (l : List AskV) : Tile 3776 (takenV l).1 4800 := fold_tile _ _ init_tile
theorem fold_step {l : List AskV} {k : Nat} {q : AskV} (h : l[k]? = some q) : (l.take (k + 1)).foldl askS heap0 = askS ((l.take k).foldl askS heap0) q := by rw [take_succ' h, List.foldl_append]; rfl
def SB (S : Nat → Prop) (a b : Nat) : Nat → Prop := fun k => S k ∨ k = a ∨ k = b
theorem Step.add {S S' : Nat → Prop} {w w' : World} {a b : Nat} (h : Step S S' w w') : Step (SB S a b) (SB S' a b) w w' :=
  ⟨h.keeps.mono (fun _ _ e => .inl e), fun k e => e.elim (fun e => (h.grow k e).imp .inl id) (fun e => .inl (.inr e))⟩
theorem View.more {α : Type} {K : Kind α} {S S2 : Nat → Prop} {w : World} {v : Value} {l : List α} (h : View K S w v l) (hS : ∀ k, S2 k → S k ∨ w.heap.size ≤ k) : View K S2 w v l := by
 rcases h with h | ⟨b, off, cap, hv, hc, hm, hb, hn, hcell⟩
 · exact .inl h
 · exact .inr ⟨b, off, cap, hv, hc, hm, hb, fun e => (hS b e).elim hn (fun e => absurd hb (Nat.not_lt.2 e)), hcell⟩
theorem taken10 {w : World} {vl : Value} {l : List AskV} (hl : Look kAs w vl l) :
    Calls Tryz.prog 59 #[vl] w fun e' w' => ∃ t hv S f K, e' = .returned (.tuple #[.pointer (some ⟨t, 0, none⟩), hv, .bool true]) ∧
      TxF w' t f 4800 S ∧ Wd f 4800 (takenV l).1 (takenV l).2 K ∧ HeapX S w' 4800 hv (takenV l) ∧ Step Nil S w w' := by
  obtain ⟨al, lcap, rfl, hlm⟩ := hl.val
  obtain ⟨n0, hn0⟩ : ∃ n, n = l.length := ⟨_, rfl⟩
  have hnm : n0 ≤ 9223372036854775807 := by rw [hn0]; unfold maxLen at hlm; omega
  have HL := qH hl
  rw [← hn0]
  have HN := qH hn0
  obtain ⟨N, hN⟩ : ∃ n, n = min n0 20 := ⟨_, rfl⟩
  have HNN := qH hN
  clear hl hlm hn0 hN
  have hst := qH (Step.refl Nil w)
  go_enter Tryz.func59, Tryz.ntmps59
  obtain ⟨W1, hW1⟩ := nm (w.alloc (.cells #[.int .u64 0, .slice none 0 0, .slice none 0 0, .slice none 0 0, .slice none 0 0, .slice none 0 0, .slice none 0 0, .slice none 0 0, .slice none 0 0, .slice none 0 0] 30))
  obtain ⟨B1, eB1⟩ := nm (w.heap.size)
  go_wp2_with fail
  rw [← hW1.out]
  try rw [← eB1.out]
  have k1 := kA hW1
  have e0B1 := eB1.out
  have hB1 := zB hW1 (Bx.new Nil.lt _ _ e0B1)
  have gB1 := gZ e0B1 hst
  replace hst := sN hst k1
  clear k1 e0B1
  refine (formedN10 _).mono ?_
  rintro _ W2 ⟨t, xb, xo, xc, xa, xd, S1, rfl, hT, kn⟩
  replace hT := qH hT
  replace hst := sT hst kn
  replace hB1 := bS hB1 kn
  have hW := qH init_wd
  clear kn
  obtain ⟨W3, hW3⟩ := nm (W2.alloc (.cells #[.slice (some ⟨xb, xo, none⟩) 600 xc, .slice xa 0 xd] 71))
  obtain ⟨B2, eB2⟩ := nm (W2.heap.size)
  go_wp2_with fail
  rw [← hW3.out]
  try rw [← eB2.out]
  have k2 := kA hW3
  have e0B2 := eB2.out
  have hB2 := zB hW3 (Bx.new hT.out.lt _ _ e0B2)
  have gB2 := gZ e0B2 hst
  have nB1B2 := nZ e0B2 hB1
  replace hst := sN hst k2
  replace hT := qH (hT.out.nil k2)
  replace hB1 := bN hB1 k2
  clear k2 e0B2
  refine (New10 (S := fun k => S1 k ∨ k = B1) _ (fun k e => e.elim (hT.out.lt k) (fun e => by rw [e]; exact hB1.out.lt))).mono ?_
  rintro _ W4 ⟨hv, rfl, hX, kn⟩
  obtain ⟨ab, cl, LA, LN, LC, rfl, hv0, hLv⟩ := hX
  obtain ⟨H, hH⟩ : ∃ x, x = ([blk0] : List BlockV) := ⟨_, rfl⟩
  obtain ⟨Ls, hLs⟩ : ∃ x : Nat → List UInt64, x = (fun _ => []) := ⟨_, rfl⟩
  simp only at hv0 hLv ⊢
  rw [← hH] at hW hv0 ⊢
  replace hLv : ∀ c, c < 8 → View kU (fun k => S1 k ∨ k = B1) W4 (.slice (LA c) (LN c) (LC c)) (Ls c) := by rw [hLs]; exact hLv
  rw [← hLs] at hW
  obtain ⟨M, hM⟩ : ∃ x, x = H.length := ⟨_, rfl⟩
  rw [← hM] at hv0 ⊢
  obtain ⟨NB, hNB⟩ : ∃ x, x = (W4).heap.size := ⟨_, rfl⟩
  have hX := qH (And.intro (hv0.more (S2 := SB S1 B1 NB) (fun k e => by rcases e with e | e | e; exact .inl (.inl e); exact .inl (.inr e); exact .inr (by omega))) (fun c hc => (hLv c hc).more (S2 := SB S1 B1 NB) (fun k e => by rcases e with e | e | e; exact .inl (.inl e); exact .inl (.inr e); exact .inr (by omega))))
  replace hM := qH hM
  replace hNB := qH hNB
  have HHL := qH (show (H, Ls) = heap0 by rw [hH, hLs]; rfl)
  clear hv0 hLv hH hLs
  replace hst := sN hst kn
  replace hT := qH (hT.out.nil kn)
  replace hB1 := bN hB1 kn
  replace hB2 := bN hB2 kn
  clear kn
  obtain ⟨W5, hW5⟩ := nm (W4.alloc (.cells #[.int .u64 4800, .slice ab M cl, .slice (LA 0) (LN 0) (LC 0), .slice (LA 1) (LN 1) (LC 1), .slice (LA 2) (LN 2) (LC 2), .slice (LA 3) (LN 3) (LC 3), .slice (LA 4) (LN 4) (LC 4), .slice (LA 5) (LN 5) (LC 5), .slice (LA 6) (LN 6) (LC 6), .slice (LA 7) (LN 7) (LC 7)] 30))
  obtain ⟨B3, eB3⟩ := nm (W4.heap.size)
  go_wp2_with fail
  rw [← hW5.out]
  try rw [← eB3.out]
  have k3 := kA hW5
  have e0B3 := eB3.out
  have hB3 := zB hW5 (Bx.new hT.out.lt _ _ e0B3)
  have gB3 := gZ e0B3 hst
  have nB1B3 := nZ e0B3 hB1
  have nB2B3 := nZ e0B3 hB2
  replace hst := sN hst k3
  replace hX := qH (And.intro (hX.out.1.keeps_nil k3) (fun c hc => (hX.out.2 c hc).keeps_nil k3))
  replace hT := qH (hT.out.nil k3)
  replace hB1 := bN hB1 k3
  replace hB2 := bN hB2 k3
  clear k3 e0B3
  clear hB2
  have hNB2 : NB = B3 := by rw [hNB.out, eB3.out]
  rw [hNB2] at hX
  clear hNB2
  go_wp2_with fail
  go_loopw [8] (fun i wr => ∃ (k : Nat) (Sa : Nat → Prop) (f : UInt64 → UInt64) (K : UInt64 → UInt64 → Prop) (H : List BlockV) (Ls : Nat → List UInt64) (ab : Option Addr) (M cl : Nat) (LA : Nat → Option Addr) (LN LC : Nat → Nat), k ≤ N ∧ i = .int .i64 (k : Int) ∧ Hid (Step Nil Sa w wr) ∧ Hid (TxF wr t f 4800 Sa) ∧ Hid (Wd f 4800 H Ls K) ∧ Hid ((H, Ls) = (l.take k).foldl askS heap0) ∧ Hid (M = H.length) ∧ Hid (View kRB (SB Sa B1 B3) wr (.slice ab M cl) H ∧ ∀ c, c < 8 → View kU (SB Sa B1 B3) wr (.slice (LA c) (LN c) (LC c)) (Ls c)) ∧ Hid (Bx wr Sa B3 #[.int .u64 4800, .slice ab M cl, .slice (LA 0) (LN 0) (LC 0), .slice (LA 1) (LN 1) (LC 1), .slice (LA 2) (LN 2) (LC 2), .slice (LA 3) (LN 3) (LC 3), .slice (LA 4) (LN 4) (LC 4), .slice (LA 5) (LN 5) (LC 5), .slice (LA 6) (LN 6) (LC 6), .slice (LA 7) (LN 7) (LC 7)] 30) ∧ Hid (Bx wr Sa B1 #[.int .u64 0, .slice none 0 0, .slice none 0 0, .slice none 0 0, .slice none 0 0, .slice none 0 0, .slice none 0 0, .slice none 0 0, .slice none 0 0, .slice none 0 0] 30)) (fun i _ => N - (intOf i).toNat)
  case atStart => exact ⟨0, _, _, _, H, Ls, ab, M, cl, LA, LN, LC, Nat.zero_le _, rfl, hst, hT, hW, HHL, hM, hX, hB3, hB1⟩
  case round =>
    clear hst hT hW HHL hM hX hB1 hB3 hNB
    obtain ⟨k, Sa, f, K, H, Ls, ab, M, cl, LA, LN, LC, hk, rfl, hst, hT, hW, HHL, hM, hX, hB3, hB1⟩ := hrel
    have HTL := qH (show Tile 3776 H (4800 : UInt64).toNat by have h := fold_tile (l.take k) heap0 init_tile; rw [← HHL.out] at h; exact h)
    by_cases hlt : k < N
    · have hN2 := HNN.out
      have hkn : k < n0 := by omega
      have hk20 : (k : Int) < 20 := by omega
      have hk20n : k < 20 := by omega
      obtain ⟨gb, go, cap, e1, hcp, hcm, hgb, _, hcell⟩ : ∃ gb go cap, (.slice al n0 lcap : Value) = .slice (some ⟨gb, go, none⟩) n0 cap ∧ n0 ≤ cap ∧ cap ≤ maxLen ∧ gb < w.heap.size ∧ True ∧ ∀ i j, j < kAs.size → i < l.length → w.cell? ⟨gb, go + (i * kAs.size + j), none⟩ = (l[i]?).bind (fun x => (kAs.enc x)[j]?) := by
        rcases HL.out with h | ⟨_, h⟩
        · obtain ⟨gb, go, cap, e1, h1, h2, h3, _, h4⟩ := h.pos (by rw [← HN.out]; omega)
          rw [← HN.out] at e1 h1
          exact ⟨gb, go, cap, e1, h1, h2, h3, trivial, h4⟩
        · have := HN.out; rw [h] at this; simp at this; omega
      simp only [Value.slice.injEq] at e1
      obtain ⟨rfl, _, rfl⟩ := e1
      obtain ⟨⟨qo, qa, qn⟩, hx⟩ : ∃ x, l[k]? = some x := ⟨l[k]'(by rw [← HN.out]; exact hkn), by simp⟩
      have HX := qH hx
      have HLT := qH hlt
      have HC := qH hcell
      have HGB := qH hgb
      obtain ⟨on, hon⟩ : ∃ x, x = askO (qo, qa, qn) := ⟨_, rfl⟩
      obtain ⟨o, ho⟩ : ∃ x, x = qo.toNat % 9 := ⟨_, rfl⟩
      obtain ⟨n, hn⟩ : ∃ x, x = askN (qo, qa, qn) := ⟨_, rfl⟩
      obtain ⟨s, hs⟩ : ∃ x, x = qa.toNat % 4 := ⟨_, rfl⟩
      obtain ⟨a, ha⟩ : ∃ x, x = askA (qo, qa, qn) := ⟨_, rfl⟩
      have hs4 : s ≤ 3 := by omega
      have eon : on = (o : Int) := by rw [hon, ho]; rfl
      subst eon
      have enn : n.toNat = qn.toNat % 300 := by rw [hn]; exact askN_nat _
      have ean : a.toNat = 16 * 2 ^ s := by rw [ha, hs]; exact askA_nat _
      have q_a0 : (16 : Int) * 2 ^ s = (a.toNat : Int) := by rw [ean]; simp
      have q_a : IntKind.u64.wrap ((16 : Int) * 2 ^ s) = (a.toNat : Int) := by rw [q_a0]; exact IntWalk.u64_in _ (by have := a.toNat_lt; omega)
      clear q_a0 ean
      have q_o : (qo.toNat : Int) % 9 = (o : Int) := by omega
      have q_n : (qn.toNat : Int) % 300 = (n.toNat : Int) := by omega
      have q_s : (qa.toNat : Int) % 4 = (s : Int) := by omega
      have q_w1 : IntKind.i64.wrap (o : Int) = (o : Int) := IntWalk.i64_in _ (by omega)
      have q_w2 : IntKind.u64.wrap (n.toNat : Int) = (n.toNat : Int) := IntWalk.u64_in _ (by omega)
      have q_w3 : IntKind.u64.wrap (s : Int) = (s : Int) := IntWalk.u64_in _ (by omega)
      have HASK := qH (And.intro hon (And.intro hn ha))
      clear hon ho hn hs ha enn hcm hcell hgb hx hN2
      have e_q0 := eX hst HGB (cellAs HC.out k _ HX.out).1
      have e_q1 := eX hst HGB (cellAs HC.out k _ HX.out).2.1
      have e_q2 := eX hst HGB (cellAs HC.out k _ HX.out).2.2
      have l_gb := Nat.lt_of_lt_of_le HGB.out hst.out.keeps.size
      go_wp2_with fail
      clear e_q0 e_q1 e_q2 l_gb
      obtain ⟨⟨⟨H2, Ls2⟩, p, cd⟩, htv⟩ : ∃ v, v = takeV (H, Ls) (o : Int) n a := ⟨_, rfl⟩
      have hta := Take_any (h := (H, Ls)) hT.out hW.out HTL.out (by decide) (o : Int) n a
      have HLL := qH (fun c hc => hW.out.lens c hc)
      rw [← htv] at hta
      have HTV := qH htv
      clear htv
      refine (hta).mono ?_
      clear hta
      rintro _ W6 ⟨rfl, f2, S2, K2, hT2, hW2, kn⟩
      replace hst := sT hst kn
      replace hX := qH (And.intro (hX.out.1.steps (Step.add kn)) (fun c hc => (hX.out.2 c hc).steps (Step.add kn)))
      replace hB1 := bS hB1 kn
      replace hB3 := bS hB3 kn
      replace hT := qH hT2
      replace hW := qH hW2
      clear kn hT2 hW2
      have c_B3_0 := cB hB3 0
      have c_B3_1 := cB hB3 1
      have c_B3_2 := cB hB3 2
      have c_B3_3 := cB hB3 3
      have c_B3_4 := cB hB3 4
      have c_B3_5 := cB hB3 5
      have c_B3_6 := cB hB3 6
      have c_B3_7 := cB hB3 7
      have c_B3_8 := cB hB3 8
      have c_B3_9 := cB hB3 9
      have l_B3 := hB3.out.lt
      have e_q0 := eX hst HGB (cellAs HC.out k _ HX.out).1
      have e_q1 := eX hst HGB (cellAs HC.out k _ HX.out).2.1
      have e_q2 := eX hst HGB (cellAs HC.out k _ HX.out).2.2
      have l_gb := Nat.lt_of_lt_of_le HGB.out hst.out.keeps.size
      go_wp2_with fail
      clear c_B3_0 c_B3_1 c_B3_2 c_B3_3 c_B3_4 c_B3_5 c_B3_6 c_B3_7 c_B3_8 c_B3_9 l_B3 e_q0 e_q1 e_q2 l_gb
      have htb := rTake_any (S := SB S2 B1 B3) (h := (H, Ls)) (e := 4800) (E := 4800) ⟨ab, cl, LA, LN, LC, rfl, (show View kRB _ _ (.slice ab H.length cl) H by rw [← hM.out]; exact hX.out.1), hX.out.2⟩ (fun k e => by rcases e with e | e | e; exact hT.out.lt k e; (rw [e]; exact hB1.out.lt); (rw [e]; exact hB3.out.lt)) HTL.out (by decide) HLL.out (o : Int) n a
      simp only at htb
      rw [← hM.out, ← HTV.out] at htb
      refine (htb).mono ?_
      clear htb
      rintro _ W7 ⟨hv, rfl, hX2, kn⟩
      obtain ⟨ab2, cl2, LA2, LN2, LC2, rfl, hv2, hLv2⟩ := hX2
      simp only at hv2 hLv2 ⊢
      obtain ⟨M2, hM2⟩ : ∃ x, x = H2.length := ⟨_, rfl⟩
      rw [← hM2] at hv2 ⊢
      replace hM2 := qH hM2
      have hX3 := qH (And.intro hv2 hLv2)
      clear hX hv2 hLv2
      replace hst := sN hst kn
      replace hT := qH (hT.out.nil kn)
      replace hB1 := bN hB1 kn
      replace hB3 := bN hB3 kn
      clear kn
      have c_B3_0 := cB hB3 0
      have c_B3_1 := cB hB3 1
      have c_B3_2 := cB hB3 2
      have c_B3_3 := cB hB3 3
      have c_B3_4 := cB hB3 4
      have c_B3_5 := cB hB3 5
      have c_B3_6 := cB hB3 6
      have c_B3_7 := cB hB3 7
      have c_B3_8 := cB hB3 8
      have c_B3_9 := cB hB3 9
      have l_B3 := hB3.out.lt
      have e_q0 := eX hst HGB (cellAs HC.out k _ HX.out).1
      have e_q1 := eX hst HGB (cellAs HC.out k _ HX.out).2.1
      have e_q2 := eX hst HGB (cellAs HC.out k _ HX.out).2.2
      have l_gb := Nat.lt_of_lt_of_le HGB.out hst.out.keeps.size
      have ne_B1_B3 := nH nB1B3
      have ne_B3_B1 := nG nB1B3
      obtain ⟨W8, hW8⟩ := nm (((((((((((W7.setCell ⟨B3, 0, none⟩ (.int .u64 4800)).setCell ⟨B3, 1, none⟩ (.slice ab2 M2 cl2)).setCell ⟨B3, 2, none⟩ (.slice (LA2 0) (LN2 0) (LC2 0))).setCell ⟨B3, 3, none⟩ (.slice (LA2 1) (LN2 1) (LC2 1))).setCell ⟨B3, 4, none⟩ (.slice (LA2 2) (LN2 2) (LC2 2))).setCell ⟨B3, 5, none⟩ (.slice (LA2 3) (LN2 3) (LC2 3))).setCell ⟨B3, 6, none⟩ (.slice (LA2 4) (LN2 4) (LC2 4))).setCell ⟨B3, 7, none⟩ (.slice (LA2 5) (LN2 5) (LC2 5))).setCell ⟨B3, 8, none⟩ (.slice (LA2 6) (LN2 6) (LC2 6))).setCell ⟨B3, 9, none⟩ (.slice (LA2 7) (LN2 7) (LC2 7))))
      obtain ⟨W9, hW9⟩ := nm (W8.alloc (.cells #[.int .u64 4800, .slice ab2 M2 cl2, .slice (LA2 0) (LN2 0) (LC2 0), .slice (LA2 1) (LN2 1) (LC2 1), .slice (LA2 2) (LN2 2) (LC2 2), .slice (LA2 3) (LN2 3) (LC2 3), .slice (LA2 4) (LN2 4) (LC2 4), .slice (LA2 5) (LN2 5) (LC2 5), .slice (LA2 6) (LN2 6) (LC2 6), .slice (LA2 7) (LN2 7) (LC2 7)] 30))
      obtain ⟨B4, eB4⟩ := nm (W7.heap.size)
      go_wp2_with fail
      all_goals first | (rename_i h; exact (hB3.out.frz_no h).elim) | skip
      clear c_B3_0 c_B3_1 c_B3_2 c_B3_3 c_B3_4 c_B3_5 c_B3_6 c_B3_7 c_B3_8 c_B3_9 l_B3 e_q0 e_q1 e_q2 l_gb ne_B1_B3 ne_B3_B1
      rw [← hW8.out]
      rw [← hW9.out]
      try rw [← eB4.out]
      replace hX3 := qH (And.intro (hX3.out.1.keeps (show Keeps (fun k => k = B3) W7 W8 by rw [hW8.out]; exact keeps_set10 _ _ _ _ _ _ _ _ _ _ _ _) (fun g e => .inr (.inr e))) (fun c hc => (hX3.out.2 c hc).keeps (show Keeps (fun k => k = B3) W7 W8 by rw [hW8.out]; exact keeps_set10 _ _ _ _ _ _ _ _ _ _ _ _) (fun g e => .inr (.inr e))))
      replace hst := zS hW8 (hst.out.set10 gB3.out)
      replace hT := qH (show TxF W8 t f2 4800 S2 by rw [hW8.out]; exact hT.out.set10 hB3.out.2)
      replace hB1 := zB hW8 (hB1.out.other10 (Nat.ne_of_lt nB1B3.out))
      replace hB3 := zB hW8 (hB3.out.set10 )
      have k4 := kA hW9
      have e0B4 : B4 = W8.heap.size := by rw [eB4.out, hW8.out]; simp [World.setCell]
      have hB4 := zB hW9 (Bx.new hT.out.lt _ _ e0B4)
      have gB4 := gZ e0B4 hst
      have nB1B4 := nZ e0B4 hB1
      have nB3B4 := nZ e0B4 hB3
      replace hst := sN hst k4
      replace hX3 := qH (And.intro (hX3.out.1.keeps_nil k4) (fun c hc => (hX3.out.2 c hc).keeps_nil k4))
      replace hT := qH (hT.out.nil k4)
      replace hB1 := bN hB1 k4
      replace hB3 := bN hB3 k4
      clear k4 e0B4
      refine ⟨?_, ?measure⟩
      refine ⟨_, _, _, _, _, _, _, _, _, _, _, _, _, _, _, _, _, _, _, _, _, _, _, _, _, _, _, _, _, _, _, _, _, _, _, _, _, _, _, _, _, _, _, _, _, _, _, _, _, _, _, _, _, _, _, _, _, _, _, _, _, _, _, _, _, _, _, _, _, _, _, ?rel, rfl⟩
      case rel => exact ⟨k + 1, _, _, _, H2, Ls2, ab2, M2, cl2, LA2, LN2, LC2, by have := HLT.out; omega, by go_num, hst, hT, hW, qH (by rw [fold_step HX.out, ← HHL.out]; unfold askS; rw [← HASK.out.1, ← HASK.out.2.1, ← HASK.out.2.2, ← HTV.out]), hM2, hX3, hB3, hB1⟩
      case measure => simp [intOf]; have := HLT.out; omega
    · have hkN : k = N := by omega
      have hN2 := HNN.out
      have hHL : (H, Ls) = takenV l := by
        rw [HHL.out]; unfold takenV
        by_cases h : n0 ≤ 20
        · rw [List.take_of_length_le (by rw [← HN.out]; omega), List.take_of_length_le (by rw [← HN.out]; omega)]
        · rw [show k = 20 by omega]
      have HHT := qH hHL
      have hd : ¬ (k < n0 ∧ k < 20) := by omega
      clear hHL
      by_cases hkn : k < n0
      · have hk20 : ¬ (k : Int) < 20 := by omega
        have hk20n : ¬ k < 20 := by omega
        clear hd hN2 hkN
        go_wp2_with fail
        obtain ⟨W6, hW6⟩ := nm (wr.drew)
        have kn := kD hW6
        replace hst := sN hst kn
        replace hX := qH (And.intro (hX.out.1.keeps_nil kn) (fun c hc => (hX.out.2 c hc).keeps_nil kn))
        replace hT := qH (hT.out.nil kn)
        replace hB1 := bN hB1 kn
        replace hB3 := bN hB3 kn
        clear kn
        refine wp_region_held_drew (S := fun w' => w'.cell? ⟨B3, 0, none⟩ = some (.int .u64 4800) ∧ w'.cell? ⟨B3, 1, none⟩ = some (.slice ab M cl) ∧ w'.cell? ⟨B3, 2, none⟩ = some (.slice (LA 0) (LN 0) (LC 0)) ∧ w'.cell? ⟨B3, 3, none⟩ = some (.slice (LA 1) (LN 1) (LC 1)) ∧ w'.cell? ⟨B3, 4, none⟩ = some (.slice (LA 2) (LN 2) (LC 2)) ∧ w'.cell? ⟨B3, 5, none⟩ = some (.slice (LA 3) (LN 3) (LC 3)) ∧ w'.cell? ⟨B3, 6, none⟩ = some (.slice (LA 4) (LN 4) (LC 4)) ∧ w'.cell? ⟨B3, 7, none⟩ = some (.slice (LA 5) (LN 5) (LC 5)) ∧ w'.cell? ⟨B3, 8, none⟩ = some (.slice (LA 6) (LN 6) (LC 6)) ∧ w'.cell? ⟨B3, 9, none⟩ = some (.slice (LA 7) (LN 7) (LC 7))) (by kernel_rfl) (by rw [← hW6.out]; exact ⟨cB hB3 0, cB hB3 1, cB hB3 2, cB hB3 3, cB hB3 4, cB hB3 5, cB hB3 6, cB hB3 7, cB hB3 8, cB hB3 9⟩) (fun hHeld => ?_)
        rw [← hW6.out] at hHeld ⊢
        refine fT 0 rfl hHeld ?_
        try simp only [Act.put, List.getElem_toArray, List.getElem_cons_zero, List.setIfInBounds_toArray, List.set_cons_zero, List.set_cons_succ]
        refine fT 1 rfl hHeld ?_; try simp only [sP,sQ]
        refine fT 2 rfl hHeld ?_; try simp only [sP,sQ]
        refine wpAnyH_ready (rs := [3]) (by kernel_rfl) (by simp) ?_
        refine (AllReadyH.cons (o := _) rfl (fun K hK => ?_) AllReadyH.nil)
        obtain ⟨W7, hW7⟩ := nm (W6.setRow B1 #[.int .u64 4800, .slice ab M cl, .slice (LA 0) (LN 0) (LC 0), .slice (LA 1) (LN 1) (LC 1), .slice (LA 2) (LN 2) (LC 2), .slice (LA 3) (LN 3) (LC 3), .slice (LA 4) (LN 4) (LC 4), .slice (LA 5) (LN 5) (LC 5), .slice (LA 6) (LN 6) (LC 6), .slice (LA 7) (LN 7) (LC 7)])
        rw [if_pos (by rfl)]
        refine wp_store_row _ _ _ rfl rfl rfl hB1.out.1 (by kernel_rfl) rfl (by simp [Value.oneCell']) ?_
        try rw [← hW7.out]
        replace hX := qH (And.intro (hX.out.1.keeps (show Keeps (fun k => k = B1) W6 W7 by rw [hW7.out]; exact keeps_setRow _ _ _) (fun g e => .inr (.inl e))) (fun c hc => (hX.out.2 c hc).keeps (show Keeps (fun k => k = B1) W6 W7 by rw [hW7.out]; exact keeps_setRow _ _ _) (fun g e => .inr (.inl e))))
        replace hst := zS hW7 (hst.out.row gB1.out _)
        replace hT := qH (show TxF W7 t f 4800 Sa by rw [hW7.out]; exact hT.out.row hB1.out.2 _)
        replace hB1 := qH (show Bx W7 Sa B1 #[.int .u64 4800, .slice ab M cl, .slice (LA 0) (LN 0) (LC 0), .slice (LA 1) (LN 1) (LC 1), .slice (LA 2) (LN 2) (LC 2), .slice (LA 3) (LN 3) (LC 3), .slice (LA 4) (LN 4) (LC 4), .slice (LA 5) (LN 5) (LC 5), .slice (LA 6) (LN 6) (LC 6), .slice (LA 7) (LN 7) (LC 7)] 30 by rw [hW7.out]; exact hB1.out.row _)
        replace hB3 := zB hW7 (hB3.out.rowo (Nat.ne_of_gt nB1B3.out) _)
        refine hK.out _ _ (⟨cB hB3 0, cB hB3 1, cB hB3 2, cB hB3 3, cB hB3 4, cB hB3 5, cB hB3 6, cB hB3 7, cB hB3 8, cB hB3 9⟩) (fun hHeld => ?_)
        clear hK K
        try simp only [Act.put, List.getElem_toArray, List.getElem_cons_succ, List.getElem_cons_zero]
        refine fT 4 rfl hHeld ?_; try simp only [sP,sQ]
        refine fD ?_
        clear hHeld
        have c_B1_0 := cB hB1 0
        have c_B1_1 := cB hB1 1
        have c_B1_2 := cB hB1 2
        have c_B1_3 := cB hB1 3
        have c_B1_4 := cB hB1 4
        have c_B1_5 := cB hB1 5
        have c_B1_6 := cB hB1 6
        have c_B1_7 := cB hB1 7
        have c_B1_8 := cB hB1 8
        have c_B1_9 := cB hB1 9
        have l_B1 := hB1.out.lt
        have c_B3_0 := cB hB3 0
        have c_B3_1 := cB hB3 1
        have c_B3_2 := cB hB3 2
        have c_B3_3 := cB hB3 3
        have c_B3_4 := cB hB3 4
        have c_B3_5 := cB hB3 5
        have c_B3_6 := cB hB3 6
        have c_B3_7 := cB hB3 7
        have c_B3_8 := cB hB3 8
        have c_B3_9 := cB hB3 9
        have l_B3 := hB3.out.lt
        go_wp2_with fail
        clear c_B1_0 c_B1_1 c_B1_2 c_B1_3 c_B1_4 c_B1_5 c_B1_6 c_B1_7 c_B1_8 c_B1_9 l_B1 c_B3_0 c_B3_1 c_B3_2 c_B3_3 c_B3_4 c_B3_5 c_B3_6 c_B3_7 c_B3_8 c_B3_9 l_B3
        refine bodyPost_ret (results_tmp_row_tmp rfl rfl hB1.out.1 Tryz.underlying30 rfl (by kernel_rfl)) rfl ?_
        refine ⟨t, _, _, _, _, rfl, hT.out, by rw [← HHT.out]; exact hW.out, ⟨ab, cl, LA, LN, LC, ?_, ?_, fun c hc => ?_⟩, hst.out⟩
        · rw [← HHT.out, ← hM.out]; rfl
        · rw [← HHT.out]; show View kRB _ _ (.slice ab H.length cl) H; rw [← hM.out]; exact hX.out.1.more (fun k e => .inl (.inl e))
        · rw [← HHT.out]; exact (hX.out.2 c hc).more (fun k e => .inl (.inl e))
      · skip
        go_wp2_with fail
        obtain ⟨W6, hW6⟩ := nm (wr.drew)
        have kn := kD hW6
        replace hst := sN hst kn
        replace hX := qH (And.intro (hX.out.1.keeps_nil kn) (fun c hc => (hX.out.2 c hc).keeps_nil kn))
        replace hT := qH (hT.out.nil kn)
        replace hB1 := bN hB1 kn
        replace hB3 := bN hB3 kn
        clear kn
        refine wp_region_held_drew (S := fun w' => w'.cell? ⟨B3, 0, none⟩ = some (.int .u64 4800) ∧ w'.cell? ⟨B3, 1, none⟩ = some (.slice ab M cl) ∧ w'.cell? ⟨B3, 2, none⟩ = some (.slice (LA 0) (LN 0) (LC 0)) ∧ w'.cell? ⟨B3, 3, none⟩ = some (.slice (LA 1) (LN 1) (LC 1)) ∧ w'.cell? ⟨B3, 4, none⟩ = some (.slice (LA 2) (LN 2) (LC 2)) ∧ w'.cell? ⟨B3, 5, none⟩ = some (.slice (LA 3) (LN 3) (LC 3)) ∧ w'.cell? ⟨B3, 6, none⟩ = some (.slice (LA 4) (LN 4) (LC 4)) ∧ w'.cell? ⟨B3, 7, none⟩ = some (.slice (LA 5) (LN 5) (LC 5)) ∧ w'.cell? ⟨B3, 8, none⟩ = some (.slice (LA 6) (LN 6) (LC 6)) ∧ w'.cell? ⟨B3, 9, none⟩ = some (.slice (LA 7) (LN 7) (LC 7))) (by kernel_rfl) (by rw [← hW6.out]; exact ⟨cB hB3 0, cB hB3 1, cB hB3 2, cB hB3 3, cB hB3 4, cB hB3 5, cB hB3 6, cB hB3 7, cB hB3 8, cB hB3 9⟩) (fun hHeld => ?_)
        rw [← hW6.out] at hHeld ⊢
        refine fT 0 rfl hHeld ?_
        try simp only [Act.put, List.getElem_toArray, List.getElem_cons_zero, List.setIfInBounds_toArray, List.set_cons_zero, List.set_cons_succ]
        refine fT 1 rfl hHeld ?_; try simp only [sP,sQ]
        refine fT 2 rfl hHeld ?_; try simp only [sP,sQ]
        refine wpAnyH_ready (rs := [3]) (by kernel_rfl) (by simp) ?_
        refine (AllReadyH.cons (o := _) rfl (fun K hK => ?_) AllReadyH.nil)
        obtain ⟨W7, hW7⟩ := nm (W6.setRow B1 #[.int .u64 4800, .slice ab M cl, .slice (LA 0) (LN 0) (LC 0), .slice (LA 1) (LN 1) (LC 1), .slice (LA 2) (LN 2) (LC 2), .slice (LA 3) (LN 3) (LC 3), .slice (LA 4) (LN 4) (LC 4), .slice (LA 5) (LN 5) (LC 5), .slice (LA 6) (LN 6) (LC 6), .slice (LA 7) (LN 7) (LC 7)])
        rw [if_pos (by rfl)]
        refine wp_store_row _ _ _ rfl rfl rfl hB1.out.1 (by kernel_rfl) rfl (by simp [Value.oneCell']) ?_
        try rw [← hW7.out]
        replace hX := qH (And.intro (hX.out.1.keeps (show Keeps (fun k => k = B1) W6 W7 by rw [hW7.out]; exact keeps_setRow _ _ _) (fun g e => .inr (.inl e))) (fun c hc => (hX.out.2 c hc).keeps (show Keeps (fun k => k = B1) W6 W7 by rw [hW7.out]; exact keeps_setRow _ _ _) (fun g e => .inr (.inl e))))
        replace hst := zS hW7 (hst.out.row gB1.out _)
        replace hT := qH (show TxF W7 t f 4800 Sa by rw [hW7.out]; exact hT.out.row hB1.out.2 _)
        replace hB1 := qH (show Bx W7 Sa B1 #[.int .u64 4800, .slice ab M cl, .slice (LA 0) (LN 0) (LC 0), .slice (LA 1) (LN 1) (LC 1), .slice (LA 2) (LN 2) (LC 2), .slice (LA 3) (LN 3) (LC 3), .slice (LA 4) (LN 4) (LC 4), .slice (LA 5) (LN 5) (LC 5), .slice (LA 6) (LN 6) (LC 6), .slice (LA 7) (LN 7) (LC 7)] 30 by rw [hW7.out]; exact hB1.out.row _)
        replace hB3 := zB hW7 (hB3.out.rowo (Nat.ne_of_gt nB1B3.out) _)
        refine hK.out _ _ (⟨cB hB3 0, cB hB3 1, cB hB3 2, cB hB3 3, cB hB3 4, cB hB3 5, cB hB3 6, cB hB3 7, cB hB3 8, cB hB3 9⟩) (fun hHeld => ?_)
        clear hK K
        try simp only [Act.put, List.getElem_toArray, List.getElem_cons_succ, List.getElem_cons_zero]
        refine fT 4 rfl hHeld ?_; try simp only [sP,sQ]
        refine fD ?_
        clear hHeld
        have c_B1_0 := cB hB1 0
        have c_B1_1 := cB hB1 1
        have c_B1_2 := cB hB1 2
        have c_B1_3 := cB hB1 3
        have c_B1_4 := cB hB1 4
        have c_B1_5 := cB hB1 5
        have c_B1_6 := cB hB1 6
        have c_B1_7 := cB hB1 7
        have c_B1_8 := cB hB1 8
        have c_B1_9 := cB hB1 9
        have l_B1 := hB1.out.lt
        have c_B3_0 := cB hB3 0
        have c_B3_1 := cB hB3 1
        have c_B3_2 := cB hB3 2
        have c_B3_3 := cB hB3 3
        have c_B3_4 := cB hB3 4
        have c_B3_5 := cB hB3 5
        have c_B3_6 := cB hB3 6
        have c_B3_7 := cB hB3 7
        have c_B3_8 := cB hB3 8
        have c_B3_9 := cB hB3 9
        have l_B3 := hB3.out.lt
        go_wp2_with fail
        clear c_B1_0 c_B1_1 c_B1_2 c_B1_3 c_B1_4 c_B1_5 c_B1_6 c_B1_7 c_B1_8 c_B1_9 l_B1 c_B3_0 c_B3_1 c_B3_2 c_B3_3 c_B3_4 c_B3_5 c_B3_6 c_B3_7 c_B3_8 c_B3_9 l_B3
        refine bodyPost_ret (results_tmp_row_tmp rfl rfl hB1.out.1 Tryz.underlying30 rfl (by kernel_rfl)) rfl ?_
        refine ⟨t, _, _, _, _, rfl, hT.out, by rw [← HHT.out]; exact hW.out, ⟨ab, cl, LA, LN, LC, ?_, ?_, fun c hc => ?_⟩, hst.out⟩
        · rw [← HHT.out, ← hM.out]; rfl
        · rw [← HHT.out]; show View kRB _ _ (.slice ab H.length cl) H; rw [← hM.out]; exact hX.out.1.more (fun k e => .inl (.inl e))
        · rw [← HHT.out]; exact (hX.out.2 c hc).more (fun k e => .inl (.inl e))
theorem aw10_1 : (takenV [(1, 0, 8)]).1 = [⟨3776, ⟨48, true, 1⟩, 8⟩, ⟨3824, ⟨976, false, 0⟩, 0⟩] := by kernel_rfl
theorem aw10_2 : cFitV [⟨3776, ⟨48, true, 1⟩, 8⟩, ⟨3824, ⟨976, false, 0⟩, 0⟩] 8 16 = .tuple #[.agg #[.int .u64 3824, .int .u64 0, .int .u64 48], .int .i64 0] := by kernel_rfl
theorem plc_eq (a b c a2 b2 c2 : Int) (w : World) : (Op.equalIn 10000 57 (.agg #[.int .u64 a, .int .u64 b, .int .u64 c]) (.agg #[.int .u64 a2, .int .u64 b2, .int .u64 c2])).run Tryz.prog w = .ok ((a == a2) && ((b == b2) && ((c == c2) && true))) w := by
 refine equalIn_fields (d := 9999) Tryz.underlying57 (by kernel_rfl) ?_
 refine eqFields_one (by decide) (a := .int .u64 a) (b := .int .u64 a2) (by kernel_rfl) (by kernel_rfl) (equalIn_int (d := 9998) Tryz.underlying25) ?_
 refine eqFields_one (by decide) (a := .int .u64 b) (b := .int .u64 b2) (by kernel_rfl) (by kernel_rfl) (equalIn_int (d := 9998) Tryz.underlying25) ?_
 exact eqFields_one (by decide) (a := .int .u64 c) (b := .int .u64 c2) (by kernel_rfl) (by kernel_rfl) (equalIn_int (d := 9998) Tryz.underlying25) eqFields_none
theorem plc_yes (a b c : Int) (w : World) : (binOp .eql 57 (.agg #[.int .u64 a, .int .u64 b, .int .u64 c]) (.agg #[.int .u64 a, .int .u64 b, .int .u64 c])).run Tryz.prog w = .ok (.bool true) w := by
  rw [run_eql_struct, plc_eq]; simp [Result.andThen]
theorem plc_gd : Tryz.prog.eqGuardType Tryz.prog.depth 57 = false := by kernel_rfl
theorem ask_view {S : Nat → Prop} {w : World} {B : Nat} {T : TypeId} (h : Bx w S B #[.int .u8 1, .int .u8 0, .int .u16 8] T) : View kAs S w (.slice (some ⟨B, 0, none⟩) 1 1) [(1, 0, 8)] :=
 .inr ⟨B, 0, 1, rfl, Nat.le_refl _, by decide, h.lt, h.2, fun i j hj hi => by
  have hi' : i = 0 := by have : i < 1 := hi; omega
  subst hi'
  have hj' : j = 0 ∨ j = 1 ∨ j = 2 := by have : j < 3 := hj; omega
  rcases hj' with rfl | rfl | rfl
  · exact h.cell 0 _ rfl
  · exact h.cell 1 _ rfl
  · exact h.cell 2 _ rfl⟩
theorem awake10 (w : World) : Calls Tryz.prog 58 #[] w fun e w' => e = .returned (.bool true) ∧ Keeps Nil w w' := by
 have hgd := plc_gd
 have hst := qH (Step.refl Nil w)
 go_enter Tryz.func58, Tryz.ntmps58
 obtain ⟨W1, hW1⟩ := nm (w.alloc (.cells #[.int .u8 1, .int .u8 0, .int .u16 8] 110))
 obtain ⟨B1, eB1⟩ := nm (w.heap.size)
 go_wp2_with fail
 rw [← hW1.out]
 try rw [← eB1.out]
 have k1 := kA hW1
 have e0B1 := eB1.out
 have hB1 := zB hW1 (Bx.new Nil.lt _ _ e0B1)
 have gB1 := gZ e0B1 hst
 replace hst := sN hst k1
 clear k1 e0B1
 refine (taken10 (ask_view hB1.out).look).mono ?_
 rintro _ W2 ⟨t, hv, S1, f, K, rfl, hT, hW, hX, kn⟩
 obtain ⟨⟨H, Ls⟩, hh⟩ : ∃ h, h = takenV [(1, 0, 8)] := ⟨_, rfl⟩
 rw [← hh] at hW hX
 have hH : H = [⟨3776, ⟨48, true, 1⟩, 8⟩, ⟨3824, ⟨976, false, 0⟩, 0⟩] := (congrArg Prod.fst hh).trans aw10_1
 have htl := takenV_tile [(1, 0, 8)]
 rw [← hh] at htl
 obtain ⟨ab, cl, LA, LN, LC, rfl, hv0, hLv⟩ := hX
 simp only at hW htl hv0 hLv ⊢
 have hM : H.length = 2 := by rw [hH]; rfl
 rw [hM] at hv0 ⊢
 have HM := qH hM
 have HH := qH hH
 have hX := qH (And.intro hv0 hLv)
 have HT := qH htl
 have HL8 := qH (show f 3784 = 8 from (hW.tags ⟨3776, ⟨48, true, 1⟩, 8⟩ (by rw [hH]; simp)).2.2 rfl)
 replace hT := qH hT
 replace hW := qH hW
 replace hst := sT hst kn
 replace hB1 := bS hB1 kn
 clear kn hv0 hLv hM hH htl hh
 obtain ⟨W3, hW3⟩ := nm (W2.alloc (.cells #[.int .u64 4800, .slice ab 2 cl, .slice (LA 0) (LN 0) (LC 0), .slice (LA 1) (LN 1) (LC 1), .slice (LA 2) (LN 2) (LC 2), .slice (LA 3) (LN 3) (LC 3), .slice (LA 4) (LN 4) (LC 4), .slice (LA 5) (LN 5) (LC 5), .slice (LA 6) (LN 6) (LC 6), .slice (LA 7) (LN 7) (LC 7)] 30))
 obtain ⟨B2, eB2⟩ := nm (W2.heap.size)
 go_wp2_with fail
 rw [← hW3.out]
 try rw [← eB2.out]
 have k2 := kA hW3
 have e0B2 := eB2.out
 have hB2 := zB hW3 (Bx.new hT.out.lt _ _ e0B2)
 have gB2 := gZ e0B2 hst
 have nB1B2 := nZ e0B2 hB1
 replace hst := sN hst k2
 replace hX := qH (And.intro (hX.out.1.keeps_nil k2) (fun c hc => (hX.out.2 c hc).keeps_nil k2))
 replace hT := qH (hT.out.nil k2)
 replace hB1 := bN hB1 k2
 clear k2 e0B2
 refine (Fit_any 8 16 hT.out.readsK hT.out.lt (HT.out.lay (Nat.le_refl _)) hW.out).mono ?_
 rintro _ W4 ⟨rfl, kn⟩
 rw [HH.out, aw10_2]
 replace hst := sN hst kn
 replace hX := qH (And.intro (hX.out.1.keeps_nil kn) (fun c hc => (hX.out.2 c hc).keeps_nil kn))
 replace hT := qH (hT.out.nil kn)
 replace hB1 := bN hB1 kn
 replace hB2 := bN hB2 kn
 clear kn
 have c_B2_0 := cB hB2 0
 have c_B2_1 := cB hB2 1
 have c_B2_2 := cB hB2 2
 have c_B2_3 := cB hB2 3
 have c_B2_4 := cB hB2 4
 have c_B2_5 := cB hB2 5
 have c_B2_6 := cB hB2 6
 have c_B2_7 := cB hB2 7
 have c_B2_8 := cB hB2 8
 have c_B2_9 := cB hB2 9
 have l_B2 := hB2.out.lt
 obtain ⟨W5, hW5⟩ := nm (W4.alloc (.cells #[.int .u64 3824, .int .u64 0, .int .u64 48] 57))
 obtain ⟨B3, eB3⟩ := nm (W4.heap.size)
 go_wp2_with fail
 clear c_B2_0 c_B2_1 c_B2_2 c_B2_3 c_B2_4 c_B2_5 c_B2_6 c_B2_7 c_B2_8 c_B2_9 l_B2
 rw [← hW5.out]
 try rw [← eB3.out]
 have k3 := kA hW5
 have e0B3 := eB3.out
 have hB3 := zB hW5 (Bx.new hT.out.lt _ _ e0B3)
 have gB3 := gZ e0B3 hst
 have nB1B3 := nZ e0B3 hB1
 have nB2B3 := nZ e0B3 hB2
 replace hst := sN hst k3
 replace hX := qH (And.intro (hX.out.1.keeps_nil k3) (fun c hc => (hX.out.2 c hc).keeps_nil k3))
 replace hT := qH (hT.out.nil k3)
 replace hB1 := bN hB1 k3
 replace hB2 := bN hB2 k3
 clear k3 e0B3
 refine (sound10 (h := (H, Ls)) hT.out hW.out HT.out (by decide) ⟨ab, cl, LA, LN, LC, by rw [HM.out]; rfl, by rw [HM.out]; exact hX.out.1, hX.out.2⟩).mono ?_
 rintro _ W6 ⟨rfl, kn⟩
 replace hst := sN hst kn
 replace hX := qH (And.intro (hX.out.1.keeps_nil kn) (fun c hc => (hX.out.2 c hc).keeps_nil kn))
 replace hT := qH (hT.out.nil kn)
 replace hB1 := bN hB1 kn
 replace hB2 := bN hB2 kn
 replace hB3 := bN hB3 kn
 clear kn
 have qs1 : ∀ w, (binOp .eql 57 (.agg #[.int .u64 3824, .int .u64 0, .int .u64 48]) (.agg #[.int .u64 3824, .int .u64 0, .int .u64 48])).run Tryz.prog w = .ok (.bool true) w := fun w => plc_yes 3824 0 48 w
 have c_B3_0 := cB hB3 0
 have c_B3_1 := cB hB3 1
 have c_B3_2 := cB hB3 2
 have l_B3 := hB3.out.lt
 go_wp2_with fail
 clear c_B3_0 c_B3_1 c_B3_2 l_B3
 refine (hT.out.reads.loadC 3784 _ rfl).mono ?_
 rintro _ W7 ⟨rfl, kn⟩
 rw [HL8.out, show ((8 : UInt64).toNat : Int) = 8 from rfl]
 replace hst := sN hst kn
 replace hX := qH (And.intro (hX.out.1.keeps_nil kn) (fun c hc => (hX.out.2 c hc).keeps_nil kn))
 replace hT := qH (hT.out.nil kn)
 replace hB1 := bN hB1 kn
 replace hB2 := bN hB2 kn
 replace hB3 := bN hB3 kn
 clear kn
 go_wp2_with fail
 go_ret
 exact ⟨rfl, hst.out.keeps⟩
end
section
open Go.ChangeShapes Go.WideShapes Go.ChangeAt Go.RowKit Go.Deep Go.Joins
section
variable {H : Type} {enc : TypeId × Value → H} {W : World} {spare : Nat → Bool} {held : Bool} {base : Nat}
theorem dec_ask (fuel : Nat) (cs : List Value) (x : DataW H × List MemPlace) (h : DataW.trod enc Tryz.prog W base spare held fuel 110 cs = some x) : ∃ a : AskV, cs = kAs.enc a := by
 have hC : Tryz.prog.cellsOf 110 = 3 := by kernel_rfl
 have h8 : Tryz.prog.cellsOf 5 = 1 := by kernel_rfl
 have h16 : Tryz.prog.cellsOf 49 = 1 := by kernel_rfl
 obtain ⟨y0, y1, y2, n, _, hl, h0, h1, h2⟩ := trod_struct3 Tryz.underlying110 h
 rw [hC] at hl
 match cs, hl with
 | [c0, c1, c2], _ =>
   obtain ⟨n0, e0, _, w0⟩ := DataW.trod_int Tryz.underlying5 h0
   obtain ⟨n1, e1, _, w1⟩ := DataW.trod_int Tryz.underlying5 h1
   obtain ⟨n2, e2, _, w2⟩ := DataW.trod_int Tryz.underlying49 h2
   obtain ⟨z0, rfl⟩ := u8_some w0
   obtain ⟨z1, rfl⟩ := u8_some w1
   obtain ⟨z2, rfl⟩ := u16_some w2
   have q0 : c0 = .int .u8 (z0.toNat : Int) := by simpa [h8] using e0
   have q1 : c1 = .int .u8 (z1.toNat : Int) := by simpa [h8] using e1
   have q2 : c2 = .int .u16 (z2.toNat : Int) := by simpa [h16] using e2
   exact ⟨(z0, z1, z2), by rw [q0, q1, q2]⟩
end
end
end Go.Proofs.YtefpbljekfkefaaGreat
