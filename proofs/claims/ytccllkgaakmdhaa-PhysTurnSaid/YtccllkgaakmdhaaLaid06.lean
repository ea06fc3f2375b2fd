/- carracklaw06.laid: blocks laid in a formatted segment, in both ways. -/
import Derived.Test.YtccllkgaakmdhaaFormed06
import Derived.Test.YtccllkgaakmdhaaLayR
namespace Go.Proofs.Ytccllkgaakmdhaa
open Go.RowKit

theorem Look.take {α : Type} {K : Kind α} {w : World} {a : Option Addr} {n c m : Nat} {l : List α} (h : Look K w (.slice a n c) l) (hm : m ≤ l.length) : Look K w (.slice a m c) (l.take m) := by
  by_cases h0 : m = 0
  · subst h0; exact .inr ⟨⟨a, c, rfl⟩, rfl⟩
  · obtain ⟨b, off, cap, e, h1, h2, h3, h4, h5⟩ := h.pos (by omega)
    simp only [Value.slice.injEq] at e
    obtain ⟨rfl, rfl, rfl⟩ := e
    have hl : (l.take m).length = m := by rw [List.length_take]; omega
    refine .inl (.inr ⟨b, off, c, by rw [hl], by rw [hl]; omega, h2, h3, h4, fun i j hj hi => ?_⟩)
    rw [h5 i j hj (by omega), List.getElem?_take_of_lt (by omega)]
/-- what is thought of behind stores, on top of what is -/
def thQ (ws : List UInt64) (l : List Put) (k : List Put) : List Put := k.foldl (fun acc x => txStore ws acc x.1 x.2) l
theorem thQ_take {ws : List UInt64} {l k : List Put} {i : Nat} {x : Put} (h : k[i]? = some x) : thQ ws l (k.take (i + 1)) = txStore ws (thQ ws l (k.take i)) x.1 x.2 := by rw [take_succ' h]; simp [thQ]
theorem GoodP.thQ {ws : List UInt64} {l : List Put} (h : GoodP ws l) (k : List Put) : GoodP ws (thQ ws l k) := GoodP.fold k h
theorem GoodP.lay {ws : List UInt64} {e : UInt64} : ∀ (ps : List PieceV) {l : List Put} {off : UInt64}, GoodP ws l → GoodP ws (layP ws e ps l off).1
  | [], _, _, h => h
  | p :: ps, l, off, h => by
    unfold layP; split
    · exact h
    · exact GoodP.lay ps (h.pc off p)
theorem GoodP.layAll {ws : List UInt64} {l : List Put} (h : GoodP ws l) (ps : List PieceV) : GoodP ws (layAll ws l ps) := (GoodP.lay ps h).write _ _
/-- what is thought of, where blocks are laid, and then other words -/
def laidP (ws : List UInt64) (ps : List PieceV) (ks : List Put) : List Put := thQ ws (layAll ws [] (ps.take 20)) (ks.take 10)
theorem good_laid (ws : List UInt64) (ps : List PieceV) (ks : List Put) : GoodP ws (laidP ws ps ks) := ((GoodP.nil ws).layAll _).thQ _
/-- what is stored once each, in turn, is thought of so -/
theorem thP_self_aux {ws : List UInt64} (hb : List Put) : ∀ (acc : List Put), (keysP (acc ++ hb)).Nodup → (∀ x ∈ hb, inB ws x.1 = true) → hb.foldl (fun acc x => txStore ws acc x.1 x.2) acc = acc ++ hb := by
  induction hb with
  | nil => intro acc _ _; simp
  | cons x hb ih =>
    intro acc hn hi
    have h1 : txStore ws acc x.1 x.2 = acc ++ [x] := by
      unfold txStore
      rw [if_pos (hi x (by simp)), storeP_new (loadP_none.2 (fun hm => by
        simp only [keysP, List.map_append, List.map_cons] at hn
        exact (List.nodup_append.1 hn).2.2 x.1 hm x.1 (by simp) rfl))]
    rw [List.foldl_cons, h1, ih (acc ++ [x]) (by simpa using hn) (fun y hy => hi y (by simp [hy]))]
    simp
theorem thP_self {ws : List UInt64} {l : List Put} (h : GoodP ws l) : thP ws l = l := by
  have := thP_self_aux l [] (by simpa using h.1) h.2
  simpa [thP] using this
theorem thP_full {ws : List UInt64} {l : List Put} {k : Nat} (h : GoodP ws l) (hk : l.length ≤ k) : thP ws (l.take k) = l := by rw [List.take_of_length_le hk, thP_self h]

theorem formedF06 {w : World} {vl : Value} {l : List Put} (size : UInt64) (h : Look kP w vl l) (x : Int) (hx : x = (size.toNat : Int)) :
    Calls Try.prog 73 #[.int .u64 x, vl] w fun e w' =>
      ∃ t ab ao ac a2 c2 S, e = .returned (.tuple #[.pointer (some ⟨t, 0, none⟩), .agg #[.slice (some ⟨ab, ao, none⟩) 600 ac, .slice a2 (thP (formW size) (l.take 60)).length c2]]) ∧
        TxF w' t (txLoad (formW size) (thP (formW size) (l.take 60))) 4800 S ∧ TxV S w' (.slice (some ⟨ab, ao, none⟩) 600 ac) (.slice a2 (thP (formW size) (l.take 60)).length c2) (formW size) (thP (formW size) (l.take 60)) ∧ Step Nil S w w' := by
  refine (formed06' size h x hx).mono ?_
  rintro e w' ⟨s, t, ab, ao, ac, a2, n2, c2, rfl, L⟩
  obtain ⟨S, h1, h2, h3⟩ := L.txF (good_thP _ _)
  obtain ⟨a, c, e⟩ := h3.valB
  cases e
  have hl := formW_length size
  rw [hl] at h1
  exact ⟨t, ab, ao, ac, a2, c2, S, rfl, h1, h3, h2⟩
theorem formedN06 {w : World} (size : UInt64) (x : Int) (hx : x = (size.toNat : Int)) :
    Calls Try.prog 73 #[.int .u64 x, .slice none 0 0] w fun e w' =>
      ∃ t ab ao ac a2 c2 S, e = .returned (.tuple #[.pointer (some ⟨t, 0, none⟩), .agg #[.slice (some ⟨ab, ao, none⟩) 600 ac, .slice a2 0 c2]]) ∧
        TxF w' t (txLoad (formW size) []) 4800 S ∧ TxV S w' (.slice (some ⟨ab, ao, none⟩) 600 ac) (.slice a2 0 c2) (formW size) [] ∧ Step Nil S w w' := formedF06 (l := []) size Look.nil x hx

set_option maxRecDepth 100000 in
set_option maxHeartbeats 4000000 in
theorem laid06_any {w : World} {vl vk : Value} {ps : List PieceV} {ks : List Put} (hl : Look kPc w vl ps) (hk : Look kP w vk ks) :
    Calls Try.prog 77 #[vl, vk] w fun e w' =>
      ∃ t ab ao ac a2 c2 S, e = .returned (.tuple #[.pointer (some ⟨t, 0, none⟩), .agg #[.slice (some ⟨ab, ao, none⟩) 600 ac, .slice a2 (laidP (formW 4480) ps ks).length c2]]) ∧
        TxF w' t (txLoad (formW 4480) (laidP (formW 4480) ps ks)) 4800 S ∧ TxV S w' (.slice (some ⟨ab, ao, none⟩) 600 ac) (.slice a2 (laidP (formW 4480) ps ks).length c2) (formW 4480) (laidP (formW 4480) ps ks) ∧ Step Nil S w w' := by
  obtain ⟨ws, hws⟩ : ∃ ws, ws = formW 4480 := ⟨_, rfl⟩
  have hwl : ws.length = 600 := by rw [hws]; exact formW_length _
  rw [← hws]
  obtain ⟨al, cl, rfl, hlm⟩ := hl.val
  obtain ⟨ak, ck, rfl, hkm⟩ := hk.val
  obtain ⟨N, hN⟩ : ∃ N, N = ps.length := ⟨_, rfl⟩
  obtain ⟨M, hM⟩ : ∃ M, M = ks.length := ⟨_, rfl⟩
  have hMm : M ≤ 9223372036854775807 := by rw [hM]; unfold maxLen at hkm; omega
  rw [← hN] at hl ⊢
  rw [← hM] at hk ⊢
  obtain ⟨P1, hP1⟩ : ∃ P, P = layAll ws [] (ps.take 20) := ⟨_, rfl⟩
  obtain ⟨P2, hP2⟩ : ∃ P, P = thQ ws P1 (ks.take 10) := ⟨_, rfl⟩
  have hLP : laidP ws ps ks = P2 := by unfold laidP; rw [hP2, hP1]
  rw [hLP]
  have hg1 : GoodP ws P1 := by rw [hP1]; exact (GoodP.nil ws).layAll _
  have hg2 : GoodP ws P2 := by rw [hP2]; exact hg1.thQ _
  have hlen2 : P2.length ≤ 600 := by rw [← hwl]; exact good_length hg2
  have HL := Lib.hid hl
  have HK := Lib.hid hk
  have HN := Lib.hid (And.intro hN hM)
  have HW := Lib.hid (And.intro hws hwl)
  have HP := Lib.hid (And.intro hP1 hP2)
  have HG := Lib.hid (And.intro hg1 hg2)
  clear hl hk hlm hkm hN hM hws hwl hP1 hP2 hLP hg1 hg2
  by_cases hlong : 20 < N
  · have hc20 : 20 ≤ cl := by
      obtain ⟨b, of, cap, e, h1, _⟩ := HL.out.pos (by have := HN.out.1; omega)
      simp only [Value.slice.injEq] at e
      have := HN.out.1; omega
    have HLL := Lib.hid (HL.out.take (m := 20) (by have := HN.out.1; omega))
    have hst := Lib.hid (Step.refl Nil w)
    go_enter Try.func77, Try.ntmps77
    obtain ⟨W1, hW1⟩ : ∃ W, W = w.alloc (.cells #[.slice none 0 0, .slice none 0 0] 28) := ⟨_, rfl⟩
    obtain ⟨B1, eB1⟩ : ∃ B, B = w.heap.size := ⟨_, rfl⟩
    replace hW1 := Lib.hid hW1
    replace eB1 := Lib.hid eB1
    go_wp2_with fail
    rw [← hW1.out]
    try rw [← eB1.out]
    have k1 : Keeps Nil w W1 := by rw [hW1.out]; exact alloc_keeps _ _
    have e0B1 : B1 = w.heap.size := by rw [eB1.out]
    have hB1 := Lib.hid (show Bx W1 Nil B1 #[.slice none 0 0, .slice none 0 0] 28 by rw [hW1.out]; exact Bx.new Nil.lt _ _ e0B1)
    have gB1 := Lib.hid (show w.heap.size ≤ B1 by rw [e0B1]; exact hst.out.keeps.size)
    replace hst := Lib.hid (hst.out.nil k1)
    clear k1 e0B1
    refine (formedN06 4480 _ (by rfl)).mono ?_
    rintro _ W2 ⟨t, ab, ao, ac, a2, c2, S1, rfl, hT, hX, kn⟩
    replace hT := Lib.hid hT
    replace hX := Lib.hid hX
    replace hT := hT.out; replace hX := hX.out
    rw [← HW.out.1] at hT hX
    replace hT := Lib.hid hT; replace hX := Lib.hid hX
    replace hst := Lib.hid (hst.out.trans kn)
    replace hB1 := Lib.hid (hB1.out.steps kn)
    clear kn
    have c_B1_0 := hB1.out.cell 0 _ rfl
    have f_B1_0 := hB1.out.frz 0
    have c_B1_1 := hB1.out.cell 1 _ rfl
    have f_B1_1 := hB1.out.frz 1
    have l_B1 := hB1.out.lt
    obtain ⟨W3, hW3⟩ : ∃ W, W = W2.alloc (.cells #[.slice (some ⟨ab, ao, none⟩) 600 ac, .slice a2 0 c2] 28) := ⟨_, rfl⟩
    obtain ⟨B2, eB2⟩ : ∃ B, B = W2.heap.size := ⟨_, rfl⟩
    replace hW3 := Lib.hid hW3
    replace eB2 := Lib.hid eB2
    go_wp2_with fail
    clear c_B1_0 f_B1_0 c_B1_1 f_B1_1 l_B1
    rw [← hW3.out]
    try rw [← eB2.out]
    have k2 : Keeps Nil W2 W3 := by rw [hW3.out]; exact alloc_keeps _ _
    have e0B2 : B2 = W2.heap.size := by rw [eB2.out]
    have hB2 := Lib.hid (show Bx W3 S1 B2 #[.slice (some ⟨ab, ao, none⟩) 600 ac, .slice a2 0 c2] 28 by rw [hW3.out]; exact Bx.new hT.out.lt _ _ e0B2)
    have gB2 := Lib.hid (show w.heap.size ≤ B2 by rw [e0B2]; exact hst.out.keeps.size)
    have nB1B2 := Lib.hid (show B1 < B2 by rw [e0B2]; exact hB1.out.lt)
    replace hst := Lib.hid (hst.out.nil k2)
    replace hX := Lib.hid (hX.out.keeps_nil k2)
    replace hT := Lib.hid (hT.out.nil k2)
    replace hB1 := Lib.hid (hB1.out.nil k2)
    clear k2 e0B2
    refine (rLay_any hX.out hT.out.lt (GoodP.nil ws) (HLL.out.keeps_nil hst.out.keeps)).mono ?_
    rintro _ W4 ⟨a3, c3, rfl, hv, kn⟩
    rw [← HP.out.1] at hv ⊢
    have hX1 := Lib.hid hv
    clear hv
    replace hst := Lib.hid (hst.out.nil kn)
    replace hX := Lib.hid (hX.out.keeps_nil kn)
    replace hT := Lib.hid (hT.out.nil kn)
    replace hB1 := Lib.hid (hB1.out.nil kn)
    replace hB2 := Lib.hid (hB2.out.nil kn)
    clear kn
    have c_B1_0 := hB1.out.cell 0 _ rfl
    have f_B1_0 := hB1.out.frz 0
    have c_B1_1 := hB1.out.cell 1 _ rfl
    have f_B1_1 := hB1.out.frz 1
    have l_B1 := hB1.out.lt
    have c_B2_0 := hB2.out.cell 0 _ rfl
    have f_B2_0 := hB2.out.frz 0
    have c_B2_1 := hB2.out.cell 1 _ rfl
    have f_B2_1 := hB2.out.frz 1
    have l_B2 := hB2.out.lt
    have ne_B1_B2 : (B1 = B2) = False := eq_false (Nat.ne_of_lt nB1B2.out)
    have ne_B2_B1 : (B2 = B1) = False := eq_false (Ne.symm (Nat.ne_of_lt nB1B2.out))
    obtain ⟨W5, hW5⟩ : ∃ W, W = ((W4.setCell ⟨B2, 0, none⟩ (.slice (some ⟨ab, ao, none⟩) 600 ac)).setCell ⟨B2, 1, none⟩ (.slice a3 P1.length c3)) := ⟨_, rfl⟩
    replace hW5 := Lib.hid hW5
    go_wp2_with fail
    clear c_B1_0 f_B1_0 c_B1_1 f_B1_1 l_B1 c_B2_0 f_B2_0 c_B2_1 f_B2_1 l_B2 ne_B1_B2 ne_B2_B1
    rw [← hW5.out]
    replace hX := Lib.hid (hX.out.box hB2.out.1 (show Keeps (fun i => i = B2) W4 W5 by rw [hW5.out]; exact (keeps_setCell W4 ⟨B2, 0, none⟩ _).trans' (keeps_setCell _ ⟨B2, 1, none⟩ _)))
    replace hX1 := Lib.hid (hX1.out.box hB2.out.1 (show Keeps (fun i => i = B2) W4 W5 by rw [hW5.out]; exact (keeps_setCell W4 ⟨B2, 0, none⟩ _).trans' (keeps_setCell _ ⟨B2, 1, none⟩ _)))
    replace hst := Lib.hid (show Step _ S1 w W5 by rw [hW5.out]; exact ((hst.out.set gB2.out _ _).set gB2.out _ _))
    replace hT := Lib.hid (show TxF W5 t (txLoad ws []) 4800 S1 by rw [hW5.out]; exact ((hT.out.set hB2.out.2 _ _).set hB2.out.2 _ _))
    replace hB1 := Lib.hid (show Bx W5 S1 B1 #[.slice none 0 0, .slice none 0 0] 28 by rw [hW5.out]; exact ((hB1.out.other (Nat.ne_of_lt nB1B2.out) _ _).other (Nat.ne_of_lt nB1B2.out) _ _))
    replace hB2 := Lib.hid (show Bx W5 S1 B2 #[.slice (some ⟨ab, ao, none⟩) 600 ac, .slice a3 P1.length c3] 28 by rw [hW5.out]; exact ((hB2.out.set _ _).set _ _))
    have c_B1_0 := hB1.out.cell 0 _ rfl
    have f_B1_0 := hB1.out.frz 0
    have c_B1_1 := hB1.out.cell 1 _ rfl
    have f_B1_1 := hB1.out.frz 1
    have l_B1 := hB1.out.lt
    have c_B2_0 := hB2.out.cell 0 _ rfl
    have f_B2_0 := hB2.out.frz 0
    have c_B2_1 := hB2.out.cell 1 _ rfl
    have f_B2_1 := hB2.out.frz 1
    have l_B2 := hB2.out.lt
    go_wp2_with fail
    clear c_B1_0 f_B1_0 c_B1_1 f_B1_1 l_B1 c_B2_0 f_B2_0 c_B2_1 f_B2_1 l_B2
    go_loopw [8] (fun i wr => (∃ (k : Nat) (Q : List Put) (a4 : Option Addr) (c4 : Nat), k ≤ M ∧ k ≤ 10 ∧ i = .int .i64 (k : Int) ∧ Hid (Step Nil S1 w wr) ∧ Hid (TxF wr t (txLoad ws []) 4800 S1) ∧ Hid (Bx wr S1 B2 #[.slice (some ⟨ab, ao, none⟩) 600 ac, .slice a4 Q.length c4] 28) ∧ Hid (TxV S1 wr (.slice (some ⟨ab, ao, none⟩) 600 ac) (.slice a4 Q.length c4) ws Q) ∧ Hid (Q = thQ ws P1 (ks.take k)) ∧ Hid (GoodP ws Q)) ∧ Hid (Bx wr S1 B1 #[.slice none 0 0, .slice none 0 0] 28)) (fun i _ => 20 - (intOf i).toNat)
    case atStart => exact ⟨⟨0, P1, _, _, by omega, by omega, rfl, hst, hT, hB2, hX1, Lib.hid rfl, Lib.hid HG.out.1⟩, hB1⟩
    case round =>
      clear hB1
      obtain ⟨hrel, hB1⟩ := hrel
      clear hst hT hB2 hX hX1
      obtain ⟨k, Q, a4, c4, hk, hk10, rfl, hst, hT, hB2, hX2, HQ1, HQ⟩ := hrel
      by_cases hlt : k < M ∧ k < 10
      · obtain ⟨hl1, hl2⟩ := hlt
        obtain ⟨gk, ok, ck2, hvv, _, _, hgk, _, hcell⟩ := HK.out.pos (by have := HN.out.2; omega)
        simp only [Value.slice.injEq] at hvv
        obtain ⟨rfl, hvn, rfl⟩ := hvv
        clear hvn
        obtain ⟨⟨y1, y2⟩, hy⟩ : ∃ y, ks[k]? = some y := ⟨ks[k]'(by have := HN.out.2; omega), by simp⟩
        have HYK := Lib.hid hy
        have HY := Lib.hid (View.cellP hcell k _ hy)
        have HGK := Lib.hid hgk
        clear hcell hy hgk
        have c_B1_0 := hB1.out.cell 0 _ rfl
        have f_B1_0 := hB1.out.frz 0
        have c_B1_1 := hB1.out.cell 1 _ rfl
        have f_B1_1 := hB1.out.frz 1
        have l_B1 := hB1.out.lt
        have c_B2_0 := hB2.out.cell 0 _ rfl
        have f_B2_0 := hB2.out.frz 0
        have c_B2_1 := hB2.out.cell 1 _ rfl
        have f_B2_1 := hB2.out.frz 1
        have l_B2 := hB2.out.lt
        have e_0 := (hst.out.keeps.cell HGK.out (fun e => e) _).trans HY.out.1
        have e_1 := (hst.out.keeps.cell HGK.out (fun e => e) _).trans HY.out.2
        have l_gk := Nat.lt_of_lt_of_le HGK.out hst.out.keeps.size
        go_wp2_with fail
        clear c_B1_0 f_B1_0 c_B1_1 f_B1_1 l_B1 c_B2_0 f_B2_0 c_B2_1 f_B2_1 l_B2 e_0 e_1 l_gk
        obtain ⟨W6, hW6⟩ : ∃ W, W = wr.drew := ⟨_, rfl⟩
        replace hW6 := Lib.hid hW6
        have kn : Keeps Nil wr W6 := by rw [hW6.out]; exact keeps_drew _
        replace hst := Lib.hid (hst.out.nil kn)
        replace hX2 := Lib.hid (hX2.out.keeps_nil kn)
        replace hT := Lib.hid (hT.out.nil kn)
        replace hB1 := Lib.hid (hB1.out.nil kn)
        replace hB2 := Lib.hid (hB2.out.nil kn)
        clear kn
        refine wp_region_held_drew (S := fun w' => w'.cell? ⟨B1, 0, none⟩ = some (.slice none 0 0) ∧ w'.cell? ⟨B1, 1, none⟩ = some (.slice none 0 0) ∧ w'.cell? ⟨gk, ok + k * 2, none⟩ = some (.int .u64 (y1.toNat : Int)) ∧ w'.cell? ⟨gk, ok + k * 2 + 1, none⟩ = some (.int .u64 (y2.toNat : Int))) (by kernel_rfl) (by rw [← hW6.out]; exact ⟨hB1.out.cell 0 _ rfl, hB1.out.cell 1 _ rfl, (hst.out.keeps.cell HGK.out (fun e => e) _).trans HY.out.1, (hst.out.keeps.cell HGK.out (fun e => e) _).trans HY.out.2⟩) (fun hHeld => ?_)
        rw [← hW6.out] at hHeld ⊢
        refine wpAnyH_take (i := 1) (oi := _) (v := ?m1_v) rfl (by kernel_rfl) (by kernel_rfl) (by kernel_rfl) (fun _ _ _ h => h) (Or.inl ⟨by kernel_rfl, ?m1_h⟩) hHeld ?m1_r
        case m1_h => (intro w hSw; (try dsimp only at hSw); go_simp; try with_reducible rfl)
        try simp only [Act.put, List.getElem_toArray, List.getElem_cons_succ, List.getElem_cons_zero, List.setIfInBounds_toArray, List.set_cons_zero, List.set_cons_succ]
        refine wpAnyH_take (i := 2) (oi := _) (v := ?m2_v) rfl (by kernel_rfl) (by kernel_rfl) (by kernel_rfl) (fun _ _ _ h => h) (Or.inl ⟨by kernel_rfl, ?m2_h⟩) hHeld ?m2_r
        case m2_h => (intro w hSw; (try dsimp only at hSw); go_simp; try with_reducible rfl)
        try simp only [Act.put, List.getElem_toArray, List.getElem_cons_succ, List.getElem_cons_zero, List.setIfInBounds_toArray, List.set_cons_zero, List.set_cons_succ]
        refine wpAnyH_take (i := 3) (oi := _) (v := ?m3_v) rfl (by kernel_rfl) (by kernel_rfl) (by kernel_rfl) (fun _ _ _ h => h) (Or.inl ⟨by kernel_rfl, ?m3_h⟩) hHeld ?m3_r
        case m3_h => (intro w hSw; (try dsimp only at hSw); go_simp; try with_reducible rfl)
        try simp only [Act.put, List.getElem_toArray, List.getElem_cons_succ, List.getElem_cons_zero, List.setIfInBounds_toArray, List.set_cons_zero, List.set_cons_succ]
        refine wpAnyH_take (i := 4) (oi := _) (v := ?m4_v) rfl (by kernel_rfl) (by kernel_rfl) (by kernel_rfl) (fun _ _ _ h => h) (Or.inl ⟨by kernel_rfl, ?m4_h⟩) hHeld ?m4_r
        case m4_h => (intro w hSw; (try dsimp only at hSw); go_simp; try with_reducible rfl)
        try simp only [Act.put, List.getElem_toArray, List.getElem_cons_succ, List.getElem_cons_zero, List.setIfInBounds_toArray, List.set_cons_zero, List.set_cons_succ]
        refine wpAnyH_take (i := 5) (oi := _) (v := ?m5_v) rfl (by kernel_rfl) (by kernel_rfl) (by kernel_rfl) (fun _ _ _ h => h) (Or.inl ⟨by kernel_rfl, ?m5_h⟩) hHeld ?m5_r
        case m5_h => (intro w hSw; (try dsimp only at hSw); go_simp; try with_reducible rfl)
        try simp only [Act.put, List.getElem_toArray, List.getElem_cons_succ, List.getElem_cons_zero, List.setIfInBounds_toArray, List.set_cons_zero, List.set_cons_succ]
        refine wpAnyH_take (i := 6) (oi := _) (v := ?m6_v) rfl (by kernel_rfl) (by kernel_rfl) (by kernel_rfl) (fun _ _ _ h => h) (Or.inl ⟨by kernel_rfl, ?m6_h⟩) hHeld ?m6_r
        case m6_h => (intro w hSw; (try dsimp only at hSw); go_simp; try with_reducible rfl)
        try simp only [Act.put, List.getElem_toArray, List.getElem_cons_succ, List.getElem_cons_zero, List.setIfInBounds_toArray, List.set_cons_zero, List.set_cons_succ]
        refine wpAnyH_take (i := 7) (oi := _) (v := ?m7_v) rfl (by kernel_rfl) (by kernel_rfl) (by kernel_rfl) (fun _ _ _ h => h) (Or.inl ⟨by kernel_rfl, ?m7_h⟩) hHeld ?m7_r
        case m7_h => (intro w hSw; (try dsimp only at hSw); go_simp; try with_reducible rfl)
        try simp only [Act.put, List.getElem_toArray, List.getElem_cons_succ, List.getElem_cons_zero, List.setIfInBounds_toArray, List.set_cons_zero, List.set_cons_succ]
        refine wpAnyH_take (i := 8) (oi := _) (v := ?m8_v) rfl (by kernel_rfl) (by kernel_rfl) (by kernel_rfl) (fun _ _ _ h => h) (Or.inl ⟨by kernel_rfl, ?m8_h⟩) hHeld ?m8_r
        case m8_h => (intro w hSw; (try dsimp only at hSw); go_simp; try with_reducible rfl)
        try simp only [Act.put, List.getElem_toArray, List.getElem_cons_succ, List.getElem_cons_zero, List.setIfInBounds_toArray, List.set_cons_zero, List.set_cons_succ]
        refine wpAnyH_take (i := 9) (oi := _) (v := ?m9_v) rfl (by kernel_rfl) (by kernel_rfl) (by kernel_rfl) (fun _ _ _ h => h) (Or.inl ⟨by kernel_rfl, ?m9_h⟩) hHeld ?m9_r
        case m9_h => (intro w hSw; (try dsimp only at hSw); go_simp; try with_reducible rfl)
        try simp only [Act.put, List.getElem_toArray, List.getElem_cons_succ, List.getElem_cons_zero, List.setIfInBounds_toArray, List.set_cons_zero, List.set_cons_succ]
        refine wpAnyH_take (i := 10) (oi := _) (v := ?m10_v) rfl (by kernel_rfl) (by kernel_rfl) (by kernel_rfl) (fun _ _ _ h => h) (Or.inl ⟨by kernel_rfl, ?m10_h⟩) hHeld ?m10_r
        case m10_h => (intro w hSw; (try dsimp only at hSw); go_simp; try with_reducible rfl)
        try simp only [Act.put, List.getElem_toArray, List.getElem_cons_succ, List.getElem_cons_zero, List.setIfInBounds_toArray, List.set_cons_zero, List.set_cons_succ]
        refine wpAnyH_ready (rs := [0]) (by kernel_rfl) (by simp) ?_
        refine (AllReadyH.cons (o := _) rfl (fun K hK => ?_) AllReadyH.nil)
        have c_B1_0 := hB1.out.cell 0 _ rfl
        have f_B1_0 := hB1.out.frz 0
        have c_B1_1 := hB1.out.cell 1 _ rfl
        have f_B1_1 := hB1.out.frz 1
        have l_B1 := hB1.out.lt
        have c_B2_0 := hB2.out.cell 0 _ rfl
        have f_B2_0 := hB2.out.frz 0
        have c_B2_1 := hB2.out.cell 1 _ rfl
        have f_B2_1 := hB2.out.frz 1
        have l_B2 := hB2.out.lt
        have e_0 := (hst.out.keeps.cell HGK.out (fun e => e) _).trans HY.out.1
        have e_1 := (hst.out.keeps.cell HGK.out (fun e => e) _).trans HY.out.2
        have l_gk := Nat.lt_of_lt_of_le HGK.out hst.out.keeps.size
        go_simp
        clear c_B1_0 f_B1_0 c_B1_1 f_B1_1 l_B1 c_B2_0 f_B2_0 c_B2_1 f_B2_1 l_B2 e_0 e_1 l_gk
        refine hK.out _ _ (⟨hB1.out.cell 0 _ rfl, hB1.out.cell 1 _ rfl, (hst.out.keeps.cell HGK.out (fun e => e) _).trans HY.out.1, (hst.out.keeps.cell HGK.out (fun e => e) _).trans HY.out.2⟩) (fun hHeld => ?_)
        clear hK K
        try simp only [Act.put, List.getElem_toArray, List.getElem_cons_succ, List.getElem_cons_zero, List.setIfInBounds_toArray, List.set_cons_zero, List.set_cons_succ]
        refine wpAnyH_ready (rs := [11]) (by kernel_rfl) (by simp) ?_
        refine (AllReadyH.cons (o := _) rfl (fun K hK => ?_) AllReadyH.nil)
        go_simp
        refine (hX2.out.store hT.out.lt (by have := good_small HQ.out (by rw [HW.out.2]; decide); omega) y1 y2 _ _ rfl rfl).mono ?_
        rintro _ W7 ⟨v, rfl, hv, kn⟩
        obtain ⟨a5, c5, rfl⟩ := hv.valB
        have hX3 := Lib.hid hv
        clear hv
        replace hst := Lib.hid (hst.out.nil kn)
        replace hX2 := Lib.hid (hX2.out.keeps_nil kn)
        replace hT := Lib.hid (hT.out.nil kn)
        replace hB1 := Lib.hid (hB1.out.nil kn)
        replace hB2 := Lib.hid (hB2.out.nil kn)
        clear kn
        refine hK.out _ _ (⟨hB1.out.cell 0 _ rfl, hB1.out.cell 1 _ rfl, (hst.out.keeps.cell HGK.out (fun e => e) _).trans HY.out.1, (hst.out.keeps.cell HGK.out (fun e => e) _).trans HY.out.2⟩) (fun hHeld => ?_)
        clear hK K
        try simp only [Act.put, List.getElem_toArray, List.getElem_cons_succ, List.getElem_cons_zero, List.setIfInBounds_toArray, List.set_cons_zero, List.set_cons_succ]
        refine wpAnyH_ready (rs := [12]) (by kernel_rfl) (by simp) ?_
        refine (AllReadyH.cons (o := _) rfl (fun K hK => ?_) AllReadyH.nil)
        have c_B1_0 := hB1.out.cell 0 _ rfl
        have f_B1_0 := hB1.out.frz 0
        have c_B1_1 := hB1.out.cell 1 _ rfl
        have f_B1_1 := hB1.out.frz 1
        have l_B1 := hB1.out.lt
        have c_B2_0 := hB2.out.cell 0 _ rfl
        have f_B2_0 := hB2.out.frz 0
        have c_B2_1 := hB2.out.cell 1 _ rfl
        have f_B2_1 := hB2.out.frz 1
        have l_B2 := hB2.out.lt
        have e_0 := (hst.out.keeps.cell HGK.out (fun e => e) _).trans HY.out.1
        have e_1 := (hst.out.keeps.cell HGK.out (fun e => e) _).trans HY.out.2
        have l_gk := Nat.lt_of_lt_of_le HGK.out hst.out.keeps.size
        obtain ⟨W8, hW8⟩ : ∃ W, W = ((W7.setCell ⟨B2, 0, none⟩ (.slice (some ⟨ab, ao, none⟩) 600 ac)).setCell ⟨B2, 1, none⟩ (.slice a5 (txStore ws Q y1 y2).length c5)) := ⟨_, rfl⟩
        replace hW8 := Lib.hid hW8
        go_simp
        clear c_B1_0 f_B1_0 c_B1_1 f_B1_1 l_B1 c_B2_0 f_B2_0 c_B2_1 f_B2_1 l_B2 e_0 e_1 l_gk
        rw [← hW8.out]
        replace hX2 := Lib.hid (hX2.out.box hB2.out.1 (show Keeps (fun i => i = B2) W7 W8 by rw [hW8.out]; exact (keeps_setCell W7 ⟨B2, 0, none⟩ _).trans' (keeps_setCell _ ⟨B2, 1, none⟩ _)))
        replace hX3 := Lib.hid (hX3.out.box hB2.out.1 (show Keeps (fun i => i = B2) W7 W8 by rw [hW8.out]; exact (keeps_setCell W7 ⟨B2, 0, none⟩ _).trans' (keeps_setCell _ ⟨B2, 1, none⟩ _)))
        replace hst := Lib.hid (show Step _ S1 w W8 by rw [hW8.out]; exact ((hst.out.set gB2.out _ _).set gB2.out _ _))
        replace hT := Lib.hid (show TxF W8 t (txLoad ws []) 4800 S1 by rw [hW8.out]; exact ((hT.out.set hB2.out.2 _ _).set hB2.out.2 _ _))
        replace hB1 := Lib.hid (show Bx W8 S1 B1 #[.slice none 0 0, .slice none 0 0] 28 by rw [hW8.out]; exact ((hB1.out.other (Nat.ne_of_lt nB1B2.out) _ _).other (Nat.ne_of_lt nB1B2.out) _ _))
        replace hB2 := Lib.hid (show Bx W8 S1 B2 #[.slice (some ⟨ab, ao, none⟩) 600 ac, .slice a5 (txStore ws Q y1 y2).length c5] 28 by rw [hW8.out]; exact ((hB2.out.set _ _).set _ _))
        refine hK.out _ _ (⟨hB1.out.cell 0 _ rfl, hB1.out.cell 1 _ rfl, (hst.out.keeps.cell HGK.out (fun e => e) _).trans HY.out.1, (hst.out.keeps.cell HGK.out (fun e => e) _).trans HY.out.2⟩) (fun hHeld => ?_)
        clear hK K
        try simp only [Act.put, List.getElem_toArray, List.getElem_cons_succ, List.getElem_cons_zero, List.setIfInBounds_toArray, List.set_cons_zero, List.set_cons_succ]
        refine wpAnyH_done (by kernel_rfl) ?_ _
        clear hHeld
        have c_B1_0 := hB1.out.cell 0 _ rfl
        have f_B1_0 := hB1.out.frz 0
        have c_B1_1 := hB1.out.cell 1 _ rfl
        have f_B1_1 := hB1.out.frz 1
        have l_B1 := hB1.out.lt
        have c_B2_0 := hB2.out.cell 0 _ rfl
        have f_B2_0 := hB2.out.frz 0
        have c_B2_1 := hB2.out.cell 1 _ rfl
        have f_B2_1 := hB2.out.frz 1
        have l_B2 := hB2.out.lt
        have e_0 := (hst.out.keeps.cell HGK.out (fun e => e) _).trans HY.out.1
        have e_1 := (hst.out.keeps.cell HGK.out (fun e => e) _).trans HY.out.2
        have l_gk := Nat.lt_of_lt_of_le HGK.out hst.out.keeps.size
        go_wp2_with fail
        clear c_B1_0 f_B1_0 c_B1_1 f_B1_1 l_B1 c_B2_0 f_B2_0 c_B2_1 f_B2_1 l_B2 e_0 e_1 l_gk
        go_roundw
        case rel => exact ⟨⟨k + 1, _, _, _, by omega, by omega, by go_num, hst, hT, hB2, hX3, Lib.hid (by rw [HQ1.out, thQ_take HYK.out]), Lib.hid (HQ.out.store y1 y2)⟩, hB1⟩
        case measure => simp [intOf]; omega
      · have hcut : (¬ k < M ∧ 0 ≤ k) ∨ (k < M ∧ ¬ k < 10) := by omega
        clear hlt
        have hQ2 : Q = P2 := by rw [HQ1.out, HP.out.2]; congr 1; exact take_cap ks k 10 (by have := HN.out.2; omega) hk10 (by have := HN.out.2; omega)
        subst hQ2
        rcases hcut with ⟨hn1, hn2⟩ | ⟨hn1, hn2⟩
        · skip
          have c_B1_0 := hB1.out.cell 0 _ rfl
          have f_B1_0 := hB1.out.frz 0
          have c_B1_1 := hB1.out.cell 1 _ rfl
          have f_B1_1 := hB1.out.frz 1
          have l_B1 := hB1.out.lt
          have c_B2_0 := hB2.out.cell 0 _ rfl
          have f_B2_0 := hB2.out.frz 0
          have c_B2_1 := hB2.out.cell 1 _ rfl
          have f_B2_1 := hB2.out.frz 1
          have l_B2 := hB2.out.lt
          go_wp2_with fail
          clear c_B1_0 f_B1_0 c_B1_1 f_B1_1 l_B1 c_B2_0 f_B2_0 c_B2_1 f_B2_1 l_B2
          have c_B1_0 := hB1.out.cell 0 _ rfl
          have f_B1_0 := hB1.out.frz 0
          have c_B1_1 := hB1.out.cell 1 _ rfl
          have f_B1_1 := hB1.out.frz 1
          have l_B1 := hB1.out.lt
          have c_B2_0 := hB2.out.cell 0 _ rfl
          have f_B2_0 := hB2.out.frz 0
          have c_B2_1 := hB2.out.cell 1 _ rfl
          have f_B2_1 := hB2.out.frz 1
          have l_B2 := hB2.out.lt
          go_wp2_with fail
          clear c_B1_0 f_B1_0 c_B1_1 f_B1_1 l_B1 c_B2_0 f_B2_0 c_B2_1 f_B2_1 l_B2
          go_loopw [9] (fun i wr => ∃ (k : Nat) (S2 : Nat → Prop), k ≤ Q.length ∧ i = .int .i64 (k : Int) ∧ Hid (Step Nil S2 w wr) ∧ Hid (TxF wr t (txLoad ws (thP ws (Q.take k))) 4800 S2) ∧ Hid (TxV S2 wr (.slice (some ⟨ab, ao, none⟩) 600 ac) (.slice a4 Q.length c4) ws Q) ∧ Hid (Bx wr S2 B1 #[.slice none 0 0, .slice none 0 0] 28) ∧ Hid (Bx wr S2 B2 #[.slice (some ⟨ab, ao, none⟩) 600 ac, .slice a4 Q.length c4] 28)) (fun i _ => Q.length - (intOf i).toNat)
          case atStart => exact ⟨0, _, Nat.zero_le _, rfl, hst, hT, hX2, hB1, hB2⟩
          case round =>
            clear hst hT hX2 hB1 hB2
            obtain ⟨k, S2, hk, rfl, hst, hT, hX2, hB1, hB2⟩ := hrel
            by_cases hlt : k < Q.length
            · obtain ⟨gq, oq, cq, hvv, _, _, _, _, _⟩ := hX2.out.2.2.2.pos (by omega)
              simp only [Value.slice.injEq] at hvv
              obtain ⟨rfl, _, rfl⟩ := hvv
              obtain ⟨⟨y1, y2⟩, hy⟩ : ∃ y, Q[k]? = some y := ⟨Q[k]'(by omega), by simp⟩
              have HYK := Lib.hid hy
              clear hy
              have c_B1_0 := hB1.out.cell 0 _ rfl
              have f_B1_0 := hB1.out.frz 0
              have c_B1_1 := hB1.out.cell 1 _ rfl
              have f_B1_1 := hB1.out.frz 1
              have l_B1 := hB1.out.lt
              have c_B2_0 := hB2.out.cell 0 _ rfl
              have f_B2_0 := hB2.out.frz 0
              have c_B2_1 := hB2.out.cell 1 _ rfl
              have f_B2_1 := hB2.out.frz 1
              have l_B2 := hB2.out.lt
              have e_0 := (View.cellP hX2.out.2.2.2.at.2.2.2.2.2 k (y1, y2) HYK.out).1
              have e_1 := (View.cellP hX2.out.2.2.2.at.2.2.2.2.2 k (y1, y2) HYK.out).2
              have l_gq := hX2.out.2.2.2.at.2.2.2.1
              go_wp2_with fail
              clear c_B1_0 f_B1_0 c_B1_1 f_B1_1 l_B1 c_B2_0 f_B2_0 c_B2_1 f_B2_1 l_B2 e_0 e_1 l_gq
              obtain ⟨W6, hW6⟩ : ∃ W, W = wr.drew := ⟨_, rfl⟩
              replace hW6 := Lib.hid hW6
              have kn : Keeps Nil wr W6 := by rw [hW6.out]; exact keeps_drew _
              replace hst := Lib.hid (hst.out.nil kn)
              replace hX2 := Lib.hid (hX2.out.keeps_nil kn)
              replace hT := Lib.hid (hT.out.nil kn)
              replace hB1 := Lib.hid (hB1.out.nil kn)
              replace hB2 := Lib.hid (hB2.out.nil kn)
              clear kn
              refine wp_region_held_drew (S := fun w' => w'.cell? ⟨B1, 0, none⟩ = some (.slice none 0 0) ∧ w'.cell? ⟨B1, 1, none⟩ = some (.slice none 0 0) ∧ w'.cell? ⟨B2, 0, none⟩ = some (.slice (some ⟨ab, ao, none⟩) 600 ac) ∧ w'.cell? ⟨B2, 1, none⟩ = some (.slice (some ⟨gq, oq, none⟩) Q.length c4) ∧ w'.cell? ⟨gq, oq + k * 2, none⟩ = some (.int .u64 (y1.toNat : Int)) ∧ w'.cell? ⟨gq, oq + k * 2 + 1, none⟩ = some (.int .u64 (y2.toNat : Int))) (by kernel_rfl) (by rw [← hW6.out]; exact ⟨hB1.out.cell 0 _ rfl, hB1.out.cell 1 _ rfl, hB2.out.cell 0 _ rfl, hB2.out.cell 1 _ rfl, (View.cellP hX2.out.2.2.2.at.2.2.2.2.2 k (y1, y2) HYK.out).1, (View.cellP hX2.out.2.2.2.at.2.2.2.2.2 k (y1, y2) HYK.out).2⟩) (fun hHeld => ?_)
              rw [← hW6.out] at hHeld ⊢
              refine wpAnyH_take (i := 0) (oi := _) (v := ?m11_v) rfl (by kernel_rfl) (by kernel_rfl) (by kernel_rfl) (fun _ _ _ h => h) (Or.inl ⟨by kernel_rfl, ?m11_h⟩) hHeld ?m11_r
              case m11_h => (intro w hSw; (try dsimp only at hSw); go_simp; try with_reducible rfl)
              try simp only [Act.put, List.getElem_toArray, List.getElem_cons_succ, List.getElem_cons_zero, List.setIfInBounds_toArray, List.set_cons_zero, List.set_cons_succ]
              refine wpAnyH_take (i := 1) (oi := _) (v := ?m12_v) rfl (by kernel_rfl) (by kernel_rfl) (by kernel_rfl) (fun _ _ _ h => h) (Or.inl ⟨by kernel_rfl, ?m12_h⟩) hHeld ?m12_r
              case m12_h => (intro w hSw; (try dsimp only at hSw); go_simp; try with_reducible rfl)
              try simp only [Act.put, List.getElem_toArray, List.getElem_cons_succ, List.getElem_cons_zero, List.setIfInBounds_toArray, List.set_cons_zero, List.set_cons_succ]
              refine wpAnyH_take (i := 2) (oi := _) (v := ?m13_v) rfl (by kernel_rfl) (by kernel_rfl) (by kernel_rfl) (fun _ _ _ h => h) (Or.inl ⟨by kernel_rfl, ?m13_h⟩) hHeld ?m13_r
              case m13_h => (intro w hSw; (try dsimp only at hSw); go_simp; try with_reducible rfl)
              try simp only [Act.put, List.getElem_toArray, List.getElem_cons_succ, List.getElem_cons_zero, List.setIfInBounds_toArray, List.set_cons_zero, List.set_cons_succ]
              refine wpAnyH_take (i := 3) (oi := _) (v := ?m14_v) rfl (by kernel_rfl) (by kernel_rfl) (by kernel_rfl) (fun _ _ _ h => h) (Or.inl ⟨by kernel_rfl, ?m14_h⟩) hHeld ?m14_r
              case m14_h => (intro w hSw; (try dsimp only at hSw); go_simp; try with_reducible rfl)
              try simp only [Act.put, List.getElem_toArray, List.getElem_cons_succ, List.getElem_cons_zero, List.setIfInBounds_toArray, List.set_cons_zero, List.set_cons_succ]
              refine wpAnyH_take (i := 4) (oi := _) (v := ?m15_v) rfl (by kernel_rfl) (by kernel_rfl) (by kernel_rfl) (fun _ _ _ h => h) (Or.inl ⟨by kernel_rfl, ?m15_h⟩) hHeld ?m15_r
              case m15_h => (intro w hSw; (try dsimp only at hSw); go_simp; try with_reducible rfl)
              try simp only [Act.put, List.getElem_toArray, List.getElem_cons_succ, List.getElem_cons_zero, List.setIfInBounds_toArray, List.set_cons_zero, List.set_cons_succ]
              refine wpAnyH_take (i := 5) (oi := _) (v := ?m16_v) rfl (by kernel_rfl) (by kernel_rfl) (by kernel_rfl) (fun _ _ _ h => h) (Or.inl ⟨by kernel_rfl, ?m16_h⟩) hHeld ?m16_r
              case m16_h => (intro w hSw; (try dsimp only at hSw); go_simp; try with_reducible rfl)
              try simp only [Act.put, List.getElem_toArray, List.getElem_cons_succ, List.getElem_cons_zero, List.setIfInBounds_toArray, List.set_cons_zero, List.set_cons_succ]
              refine wpAnyH_take (i := 6) (oi := _) (v := ?m17_v) rfl (by kernel_rfl) (by kernel_rfl) (by kernel_rfl) (fun _ _ _ h => h) (Or.inl ⟨by kernel_rfl, ?m17_h⟩) hHeld ?m17_r
              case m17_h => (intro w hSw; (try dsimp only at hSw); go_simp; try with_reducible rfl)
              try simp only [Act.put, List.getElem_toArray, List.getElem_cons_succ, List.getElem_cons_zero, List.setIfInBounds_toArray, List.set_cons_zero, List.set_cons_succ]
              refine wpAnyH_take (i := 7) (oi := _) (v := ?m18_v) rfl (by kernel_rfl) (by kernel_rfl) (by kernel_rfl) (fun _ _ _ h => h) (Or.inl ⟨by kernel_rfl, ?m18_h⟩) hHeld ?m18_r
              case m18_h => (intro w hSw; (try dsimp only at hSw); go_simp; try with_reducible rfl)
              try simp only [Act.put, List.getElem_toArray, List.getElem_cons_succ, List.getElem_cons_zero, List.setIfInBounds_toArray, List.set_cons_zero, List.set_cons_succ]
              refine wpAnyH_take (i := 8) (oi := _) (v := ?m19_v) rfl (by kernel_rfl) (by kernel_rfl) (by kernel_rfl) (fun _ _ _ h => h) (Or.inl ⟨by kernel_rfl, ?m19_h⟩) hHeld ?m19_r
              case m19_h => (intro w hSw; (try dsimp only at hSw); go_simp; try with_reducible rfl)
              try simp only [Act.put, List.getElem_toArray, List.getElem_cons_succ, List.getElem_cons_zero, List.setIfInBounds_toArray, List.set_cons_zero, List.set_cons_succ]
              refine wpAnyH_take (i := 9) (oi := _) (v := ?m20_v) rfl (by kernel_rfl) (by kernel_rfl) (by kernel_rfl) (fun _ _ _ h => h) (Or.inl ⟨by kernel_rfl, ?m20_h⟩) hHeld ?m20_r
              case m20_h => (intro w hSw; (try dsimp only at hSw); go_simp; try with_reducible rfl)
              try simp only [Act.put, List.getElem_toArray, List.getElem_cons_succ, List.getElem_cons_zero, List.setIfInBounds_toArray, List.set_cons_zero, List.set_cons_succ]
              refine wpAnyH_take (i := 10) (oi := _) (v := ?m21_v) rfl (by kernel_rfl) (by kernel_rfl) (by kernel_rfl) (fun _ _ _ h => h) (Or.inl ⟨by kernel_rfl, ?m21_h⟩) hHeld ?m21_r
              case m21_h => (intro w hSw; (try dsimp only at hSw); go_simp; try with_reducible rfl)
              try simp only [Act.put, List.getElem_toArray, List.getElem_cons_succ, List.getElem_cons_zero, List.setIfInBounds_toArray, List.set_cons_zero, List.set_cons_succ]
              refine wpAnyH_take (i := 11) (oi := _) (v := ?m22_v) rfl (by kernel_rfl) (by kernel_rfl) (by kernel_rfl) (fun _ _ _ h => h) (Or.inl ⟨by kernel_rfl, ?m22_h⟩) hHeld ?m22_r
              case m22_h => (intro w hSw; (try dsimp only at hSw); go_simp; try with_reducible rfl)
              try simp only [Act.put, List.getElem_toArray, List.getElem_cons_succ, List.getElem_cons_zero, List.setIfInBounds_toArray, List.set_cons_zero, List.set_cons_succ]
              refine wpAnyH_take (i := 12) (oi := _) (v := ?m23_v) rfl (by kernel_rfl) (by kernel_rfl) (by kernel_rfl) (fun _ _ _ h => h) (Or.inl ⟨by kernel_rfl, ?m23_h⟩) hHeld ?m23_r
              case m23_h => (intro w hSw; (try dsimp only at hSw); go_simp; try with_reducible rfl)
              try simp only [Act.put, List.getElem_toArray, List.getElem_cons_succ, List.getElem_cons_zero, List.setIfInBounds_toArray, List.set_cons_zero, List.set_cons_succ]
              refine wpAnyH_ready (rs := [13]) (by kernel_rfl) (by simp) ?_
              refine (AllReadyH.cons (o := _) rfl (fun K hK => ?_) AllReadyH.nil)
              go_simp
              refine (hT.out.store y1 y2 _ _ rfl rfl).mono ?_
              rintro _ W7 ⟨rfl, S1, hT2, kn⟩
              replace hst := Lib.hid (hst.out.trans kn)
              replace hX2 := Lib.hid (hX2.out.steps kn)
              replace hB1 := Lib.hid (hB1.out.steps kn)
              replace hB2 := Lib.hid (hB2.out.steps kn)
              replace hT := Lib.hid hT2
              clear kn hT2
              refine hK.out _ _ (⟨hB1.out.cell 0 _ rfl, hB1.out.cell 1 _ rfl, hB2.out.cell 0 _ rfl, hB2.out.cell 1 _ rfl, (View.cellP hX2.out.2.2.2.at.2.2.2.2.2 k (y1, y2) HYK.out).1, (View.cellP hX2.out.2.2.2.at.2.2.2.2.2 k (y1, y2) HYK.out).2⟩) (fun hHeld => ?_)
              clear hK K
              try simp only [Act.put, List.getElem_toArray, List.getElem_cons_succ, List.getElem_cons_zero, List.setIfInBounds_toArray, List.set_cons_zero, List.set_cons_succ]
              refine wpAnyH_done (by kernel_rfl) ?_ _
              clear hHeld
              have c_B1_0 := hB1.out.cell 0 _ rfl
              have f_B1_0 := hB1.out.frz 0
              have c_B1_1 := hB1.out.cell 1 _ rfl
              have f_B1_1 := hB1.out.frz 1
              have l_B1 := hB1.out.lt
              have c_B2_0 := hB2.out.cell 0 _ rfl
              have f_B2_0 := hB2.out.frz 0
              have c_B2_1 := hB2.out.cell 1 _ rfl
              have f_B2_1 := hB2.out.frz 1
              have l_B2 := hB2.out.lt
              have e_0 := (View.cellP hX2.out.2.2.2.at.2.2.2.2.2 k (y1, y2) HYK.out).1
              have e_1 := (View.cellP hX2.out.2.2.2.at.2.2.2.2.2 k (y1, y2) HYK.out).2
              have l_gq := hX2.out.2.2.2.at.2.2.2.1
              go_wp2_with fail
              clear c_B1_0 f_B1_0 c_B1_1 f_B1_1 l_B1 c_B2_0 f_B2_0 c_B2_1 f_B2_1 l_B2 e_0 e_1 l_gq
              go_roundw
              case rel => exact ⟨k + 1, _, by omega, by go_num, hst, Lib.hid (by rw [thP_take HYK.out, txLoad_stF, HW.out.2]; exact hT.out), hX2, hB1, hB2⟩
              case measure => simp [intOf]; omega
            · skip
              have c_B1_0 := hB1.out.cell 0 _ rfl
              have f_B1_0 := hB1.out.frz 0
              have c_B1_1 := hB1.out.cell 1 _ rfl
              have f_B1_1 := hB1.out.frz 1
              have l_B1 := hB1.out.lt
              have c_B2_0 := hB2.out.cell 0 _ rfl
              have f_B2_0 := hB2.out.frz 0
              have c_B2_1 := hB2.out.cell 1 _ rfl
              have f_B2_1 := hB2.out.frz 1
              have l_B2 := hB2.out.lt
              go_wp2_with fail
              clear c_B1_0 f_B1_0 c_B1_1 f_B1_1 l_B1 c_B2_0 f_B2_0 c_B2_1 f_B2_1 l_B2
              obtain ⟨W6, hW6⟩ : ∃ W, W = wr.drew := ⟨_, rfl⟩
              replace hW6 := Lib.hid hW6
              have kn : Keeps Nil wr W6 := by rw [hW6.out]; exact keeps_drew _
              replace hst := Lib.hid (hst.out.nil kn)
              replace hX2 := Lib.hid (hX2.out.keeps_nil kn)
              replace hT := Lib.hid (hT.out.nil kn)
              replace hB1 := Lib.hid (hB1.out.nil kn)
              replace hB2 := Lib.hid (hB2.out.nil kn)
              clear kn
              refine wp_region_held_drew (S := fun w' => w'.cell? ⟨B2, 0, none⟩ = some (.slice (some ⟨ab, ao, none⟩) 600 ac) ∧ w'.cell? ⟨B2, 1, none⟩ = some (.slice a4 Q.length c4)) (by kernel_rfl) (by rw [← hW6.out]; exact ⟨hB2.out.cell 0 _ rfl, hB2.out.cell 1 _ rfl⟩) (fun hHeld => ?_)
              rw [← hW6.out] at hHeld ⊢
              refine wpAnyH_take (i := 0) (oi := _) (v := ?m24_v) rfl (by kernel_rfl) (by kernel_rfl) (by kernel_rfl) (fun _ _ _ h => h) (Or.inl ⟨by kernel_rfl, ?m24_h⟩) hHeld ?m24_r
              case m24_h => (intro w hSw; (try dsimp only at hSw); go_simp; try with_reducible rfl)
              try simp only [Act.put, List.getElem_toArray, List.getElem_cons_succ, List.getElem_cons_zero, List.setIfInBounds_toArray, List.set_cons_zero, List.set_cons_succ]
              refine wpAnyH_take (i := 1) (oi := _) (v := ?m25_v) rfl (by kernel_rfl) (by kernel_rfl) (by kernel_rfl) (fun _ _ _ h => h) (Or.inl ⟨by kernel_rfl, ?m25_h⟩) hHeld ?m25_r
              case m25_h => (intro w hSw; (try dsimp only at hSw); go_simp; try with_reducible rfl)
              try simp only [Act.put, List.getElem_toArray, List.getElem_cons_succ, List.getElem_cons_zero, List.setIfInBounds_toArray, List.set_cons_zero, List.set_cons_succ]
              refine wpAnyH_take (i := 2) (oi := _) (v := ?m26_v) rfl (by kernel_rfl) (by kernel_rfl) (by kernel_rfl) (fun _ _ _ h => h) (Or.inl ⟨by kernel_rfl, ?m26_h⟩) hHeld ?m26_r
              case m26_h => (intro w hSw; (try dsimp only at hSw); go_simp; try with_reducible rfl)
              try simp only [Act.put, List.getElem_toArray, List.getElem_cons_succ, List.getElem_cons_zero, List.setIfInBounds_toArray, List.set_cons_zero, List.set_cons_succ]
              refine wpAnyH_ready (rs := [3]) (by kernel_rfl) (by simp) ?_
              refine (AllReadyH.cons (o := _) rfl (fun K hK => ?_) AllReadyH.nil)
              have c_B1_0 := hB1.out.cell 0 _ rfl
              have f_B1_0 := hB1.out.frz 0
              have c_B1_1 := hB1.out.cell 1 _ rfl
              have f_B1_1 := hB1.out.frz 1
              have l_B1 := hB1.out.lt
              have c_B2_0 := hB2.out.cell 0 _ rfl
              have f_B2_0 := hB2.out.frz 0
              have c_B2_1 := hB2.out.cell 1 _ rfl
              have f_B2_1 := hB2.out.frz 1
              have l_B2 := hB2.out.lt
              obtain ⟨W7, hW7⟩ : ∃ W, W = ((W6.setCell ⟨B1, 0, none⟩ (.slice (some ⟨ab, ao, none⟩) 600 ac)).setCell ⟨B1, 1, none⟩ (.slice a4 Q.length c4)) := ⟨_, rfl⟩
              replace hW7 := Lib.hid hW7
              go_simp
              clear c_B1_0 f_B1_0 c_B1_1 f_B1_1 l_B1 c_B2_0 f_B2_0 c_B2_1 f_B2_1 l_B2
              rw [← hW7.out]
              replace hX2 := Lib.hid (hX2.out.box hB1.out.1 (show Keeps (fun i => i = B1) W6 W7 by rw [hW7.out]; exact (keeps_setCell W6 ⟨B1, 0, none⟩ _).trans' (keeps_setCell _ ⟨B1, 1, none⟩ _)))
              replace hst := Lib.hid (show Step _ S2 w W7 by rw [hW7.out]; exact ((hst.out.set gB1.out _ _).set gB1.out _ _))
              replace hT := Lib.hid (show TxF W7 t (txLoad ws (thP ws (Q.take k))) 4800 S2 by rw [hW7.out]; exact ((hT.out.set hB1.out.2 _ _).set hB1.out.2 _ _))
              replace hB1 := Lib.hid (show Bx W7 S2 B1 #[.slice (some ⟨ab, ao, none⟩) 600 ac, .slice a4 Q.length c4] 28 by rw [hW7.out]; exact ((hB1.out.set _ _).set _ _))
              replace hB2 := Lib.hid (show Bx W7 S2 B2 #[.slice (some ⟨ab, ao, none⟩) 600 ac, .slice a4 Q.length c4] 28 by rw [hW7.out]; exact ((hB2.out.other (Nat.ne_of_gt nB1B2.out) _ _).other (Nat.ne_of_gt nB1B2.out) _ _))
              refine hK.out _ _ (⟨hB2.out.cell 0 _ rfl, hB2.out.cell 1 _ rfl⟩) (fun hHeld => ?_)
              clear hK K
              try simp only [Act.put, List.getElem_toArray, List.getElem_cons_succ, List.getElem_cons_zero, List.setIfInBounds_toArray, List.set_cons_zero, List.set_cons_succ]
              refine wpAnyH_done (by kernel_rfl) ?_ _
              clear hHeld
              have c_B1_0 := hB1.out.cell 0 _ rfl
              have f_B1_0 := hB1.out.frz 0
              have c_B1_1 := hB1.out.cell 1 _ rfl
              have f_B1_1 := hB1.out.frz 1
              have l_B1 := hB1.out.lt
              have c_B2_0 := hB2.out.cell 0 _ rfl
              have f_B2_0 := hB2.out.frz 0
              have c_B2_1 := hB2.out.cell 1 _ rfl
              have f_B2_1 := hB2.out.frz 1
              have l_B2 := hB2.out.lt
              go_wp2_with fail
              clear c_B1_0 f_B1_0 c_B1_1 f_B1_1 l_B1 c_B2_0 f_B2_0 c_B2_1 f_B2_1 l_B2
              refine bodyPost_ret (results_tmp_row rfl rfl hB1.out.1 Try.underlying28 rfl (by kernel_rfl)) rfl ?_
              have hq : thP ws (Q.take k) = Q := thP_full HG.out.2 (by omega)
              have hT9 := hT.out
              rw [hq] at hT9
              have hX9 := hX2.out
              exact ⟨t, ab, ao, ac, a4, c4, _, rfl, hT9, hX9, hst.out⟩
        · skip
          have c_B1_0 := hB1.out.cell 0 _ rfl
          have f_B1_0 := hB1.out.frz 0
          have c_B1_1 := hB1.out.cell 1 _ rfl
          have f_B1_1 := hB1.out.frz 1
          have l_B1 := hB1.out.lt
          have c_B2_0 := hB2.out.cell 0 _ rfl
          have f_B2_0 := hB2.out.frz 0
          have c_B2_1 := hB2.out.cell 1 _ rfl
          have f_B2_1 := hB2.out.frz 1
          have l_B2 := hB2.out.lt
          go_wp2_with fail
          clear c_B1_0 f_B1_0 c_B1_1 f_B1_1 l_B1 c_B2_0 f_B2_0 c_B2_1 f_B2_1 l_B2
          have c_B1_0 := hB1.out.cell 0 _ rfl
          have f_B1_0 := hB1.out.frz 0
          have c_B1_1 := hB1.out.cell 1 _ rfl
          have f_B1_1 := hB1.out.frz 1
          have l_B1 := hB1.out.lt
          have c_B2_0 := hB2.out.cell 0 _ rfl
          have f_B2_0 := hB2.out.frz 0
          have c_B2_1 := hB2.out.cell 1 _ rfl
          have f_B2_1 := hB2.out.frz 1
          have l_B2 := hB2.out.lt
          go_wp2_with fail
          clear c_B1_0 f_B1_0 c_B1_1 f_B1_1 l_B1 c_B2_0 f_B2_0 c_B2_1 f_B2_1 l_B2
          go_loopw [9] (fun i wr => ∃ (k : Nat) (S2 : Nat → Prop), k ≤ Q.length ∧ i = .int .i64 (k : Int) ∧ Hid (Step Nil S2 w wr) ∧ Hid (TxF wr t (txLoad ws (thP ws (Q.take k))) 4800 S2) ∧ Hid (TxV S2 wr (.slice (some ⟨ab, ao, none⟩) 600 ac) (.slice a4 Q.length c4) ws Q) ∧ Hid (Bx wr S2 B1 #[.slice none 0 0, .slice none 0 0] 28) ∧ Hid (Bx wr S2 B2 #[.slice (some ⟨ab, ao, none⟩) 600 ac, .slice a4 Q.length c4] 28)) (fun i _ => Q.length - (intOf i).toNat)
          case atStart => exact ⟨0, _, Nat.zero_le _, rfl, hst, hT, hX2, hB1, hB2⟩
          case round =>
            clear hst hT hX2 hB1 hB2
            obtain ⟨k, S2, hk, rfl, hst, hT, hX2, hB1, hB2⟩ := hrel
            by_cases hlt : k < Q.length
            · obtain ⟨gq, oq, cq, hvv, _, _, _, _, _⟩ := hX2.out.2.2.2.pos (by omega)
              simp only [Value.slice.injEq] at hvv
              obtain ⟨rfl, _, rfl⟩ := hvv
              obtain ⟨⟨y1, y2⟩, hy⟩ : ∃ y, Q[k]? = some y := ⟨Q[k]'(by omega), by simp⟩
              have HYK := Lib.hid hy
              clear hy
              have c_B1_0 := hB1.out.cell 0 _ rfl
              have f_B1_0 := hB1.out.frz 0
              have c_B1_1 := hB1.out.cell 1 _ rfl
              have f_B1_1 := hB1.out.frz 1
              have l_B1 := hB1.out.lt
              have c_B2_0 := hB2.out.cell 0 _ rfl
              have f_B2_0 := hB2.out.frz 0
              have c_B2_1 := hB2.out.cell 1 _ rfl
              have f_B2_1 := hB2.out.frz 1
              have l_B2 := hB2.out.lt
              have e_0 := (View.cellP hX2.out.2.2.2.at.2.2.2.2.2 k (y1, y2) HYK.out).1
              have e_1 := (View.cellP hX2.out.2.2.2.at.2.2.2.2.2 k (y1, y2) HYK.out).2
              have l_gq := hX2.out.2.2.2.at.2.2.2.1
              go_wp2_with fail
              clear c_B1_0 f_B1_0 c_B1_1 f_B1_1 l_B1 c_B2_0 f_B2_0 c_B2_1 f_B2_1 l_B2 e_0 e_1 l_gq
              obtain ⟨W6, hW6⟩ : ∃ W, W = wr.drew := ⟨_, rfl⟩
              replace hW6 := Lib.hid hW6
              have kn : Keeps Nil wr W6 := by rw [hW6.out]; exact keeps_drew _
              replace hst := Lib.hid (hst.out.nil kn)
              replace hX2 := Lib.hid (hX2.out.keeps_nil kn)
              replace hT := Lib.hid (hT.out.nil kn)
              replace hB1 := Lib.hid (hB1.out.nil kn)
              replace hB2 := Lib.hid (hB2.out.nil kn)
              clear kn
              refine wp_region_held_drew (S := fun w' => w'.cell? ⟨B1, 0, none⟩ = some (.slice none 0 0) ∧ w'.cell? ⟨B1, 1, none⟩ = some (.slice none 0 0) ∧ w'.cell? ⟨B2, 0, none⟩ = some (.slice (some ⟨ab, ao, none⟩) 600 ac) ∧ w'.cell? ⟨B2, 1, none⟩ = some (.slice (some ⟨gq, oq, none⟩) Q.length c4) ∧ w'.cell? ⟨gq, oq + k * 2, none⟩ = some (.int .u64 (y1.toNat : Int)) ∧ w'.cell? ⟨gq, oq + k * 2 + 1, none⟩ = some (.int .u64 (y2.toNat : Int))) (by kernel_rfl) (by rw [← hW6.out]; exact ⟨hB1.out.cell 0 _ rfl, hB1.out.cell 1 _ rfl, hB2.out.cell 0 _ rfl, hB2.out.cell 1 _ rfl, (View.cellP hX2.out.2.2.2.at.2.2.2.2.2 k (y1, y2) HYK.out).1, (View.cellP hX2.out.2.2.2.at.2.2.2.2.2 k (y1, y2) HYK.out).2⟩) (fun hHeld => ?_)
              rw [← hW6.out] at hHeld ⊢
              refine wpAnyH_take (i := 0) (oi := _) (v := ?m27_v) rfl (by kernel_rfl) (by kernel_rfl) (by kernel_rfl) (fun _ _ _ h => h) (Or.inl ⟨by kernel_rfl, ?m27_h⟩) hHeld ?m27_r
              case m27_h => (intro w hSw; (try dsimp only at hSw); go_simp; try with_reducible rfl)
              try simp only [Act.put, List.getElem_toArray, List.getElem_cons_succ, List.getElem_cons_zero, List.setIfInBounds_toArray, List.set_cons_zero, List.set_cons_succ]
              refine wpAnyH_take (i := 1) (oi := _) (v := ?m28_v) rfl (by kernel_rfl) (by kernel_rfl) (by kernel_rfl) (fun _ _ _ h => h) (Or.inl ⟨by kernel_rfl, ?m28_h⟩) hHeld ?m28_r
              case m28_h => (intro w hSw; (try dsimp only at hSw); go_simp; try with_reducible rfl)
              try simp only [Act.put, List.getElem_toArray, List.getElem_cons_succ, List.getElem_cons_zero, List.setIfInBounds_toArray, List.set_cons_zero, List.set_cons_succ]
              refine wpAnyH_take (i := 2) (oi := _) (v := ?m29_v) rfl (by kernel_rfl) (by kernel_rfl) (by kernel_rfl) (fun _ _ _ h => h) (Or.inl ⟨by kernel_rfl, ?m29_h⟩) hHeld ?m29_r
              case m29_h => (intro w hSw; (try dsimp only at hSw); go_simp; try with_reducible rfl)
              try simp only [Act.put, List.getElem_toArray, List.getElem_cons_succ, List.getElem_cons_zero, List.setIfInBounds_toArray, List.set_cons_zero, List.set_cons_succ]
              refine wpAnyH_take (i := 3) (oi := _) (v := ?m30_v) rfl (by kernel_rfl) (by kernel_rfl) (by kernel_rfl) (fun _ _ _ h => h) (Or.inl ⟨by kernel_rfl, ?m30_h⟩) hHeld ?m30_r
              case m30_h => (intro w hSw; (try dsimp only at hSw); go_simp; try with_reducible rfl)
              try simp only [Act.put, List.getElem_toArray, List.getElem_cons_succ, List.getElem_cons_zero, List.setIfInBounds_toArray, List.set_cons_zero, List.set_cons_succ]
              refine wpAnyH_take (i := 4) (oi := _) (v := ?m31_v) rfl (by kernel_rfl) (by kernel_rfl) (by kernel_rfl) (fun _ _ _ h => h) (Or.inl ⟨by kernel_rfl, ?m31_h⟩) hHeld ?m31_r
              case m31_h => (intro w hSw; (try dsimp only at hSw); go_simp; try with_reducible rfl)
              try simp only [Act.put, List.getElem_toArray, List.getElem_cons_succ, List.getElem_cons_zero, List.setIfInBounds_toArray, List.set_cons_zero, List.set_cons_succ]
              refine wpAnyH_take (i := 5) (oi := _) (v := ?m32_v) rfl (by kernel_rfl) (by kernel_rfl) (by kernel_rfl) (fun _ _ _ h => h) (Or.inl ⟨by kernel_rfl, ?m32_h⟩) hHeld ?m32_r
              case m32_h => (intro w hSw; (try dsimp only at hSw); go_simp; try with_reducible rfl)
              try simp only [Act.put, List.getElem_toArray, List.getElem_cons_succ, List.getElem_cons_zero, List.setIfInBounds_toArray, List.set_cons_zero, List.set_cons_succ]
              refine wpAnyH_take (i := 6) (oi := _) (v := ?m33_v) rfl (by kernel_rfl) (by kernel_rfl) (by kernel_rfl) (fun _ _ _ h => h) (Or.inl ⟨by kernel_rfl, ?m33_h⟩) hHeld ?m33_r
              case m33_h => (intro w hSw; (try dsimp only at hSw); go_simp; try with_reducible rfl)
              try simp only [Act.put, List.getElem_toArray, List.getElem_cons_succ, List.getElem_cons_zero, List.setIfInBounds_toArray, List.set_cons_zero, List.set_cons_succ]
              refine wpAnyH_take (i := 7) (oi := _) (v := ?m34_v) rfl (by kernel_rfl) (by kernel_rfl) (by kernel_rfl) (fun _ _ _ h => h) (Or.inl ⟨by kernel_rfl, ?m34_h⟩) hHeld ?m34_r
              case m34_h => (intro w hSw; (try dsimp only at hSw); go_simp; try with_reducible rfl)
              try simp only [Act.put, List.getElem_toArray, List.getElem_cons_succ, List.getElem_cons_zero, List.setIfInBounds_toArray, List.set_cons_zero, List.set_cons_succ]
              refine wpAnyH_take (i := 8) (oi := _) (v := ?m35_v) rfl (by kernel_rfl) (by kernel_rfl) (by kernel_rfl) (fun _ _ _ h => h) (Or.inl ⟨by kernel_rfl, ?m35_h⟩) hHeld ?m35_r
              case m35_h => (intro w hSw; (try dsimp only at hSw); go_simp; try with_reducible rfl)
              try simp only [Act.put, List.getElem_toArray, List.getElem_cons_succ, List.getElem_cons_zero, List.setIfInBounds_toArray, List.set_cons_zero, List.set_cons_succ]
              refine wpAnyH_take (i := 9) (oi := _) (v := ?m36_v) rfl (by kernel_rfl) (by kernel_rfl) (by kernel_rfl) (fun _ _ _ h => h) (Or.inl ⟨by kernel_rfl, ?m36_h⟩) hHeld ?m36_r
              case m36_h => (intro w hSw; (try dsimp only at hSw); go_simp; try with_reducible rfl)
              try simp only [Act.put, List.getElem_toArray, List.getElem_cons_succ, List.getElem_cons_zero, List.setIfInBounds_toArray, List.set_cons_zero, List.set_cons_succ]
              refine wpAnyH_take (i := 10) (oi := _) (v := ?m37_v) rfl (by kernel_rfl) (by kernel_rfl) (by kernel_rfl) (fun _ _ _ h => h) (Or.inl ⟨by kernel_rfl, ?m37_h⟩) hHeld ?m37_r
              case m37_h => (intro w hSw; (try dsimp only at hSw); go_simp; try with_reducible rfl)
              try simp only [Act.put, List.getElem_toArray, List.getElem_cons_succ, List.getElem_cons_zero, List.setIfInBounds_toArray, List.set_cons_zero, List.set_cons_succ]
              refine wpAnyH_take (i := 11) (oi := _) (v := ?m38_v) rfl (by kernel_rfl) (by kernel_rfl) (by kernel_rfl) (fun _ _ _ h => h) (Or.inl ⟨by kernel_rfl, ?m38_h⟩) hHeld ?m38_r
              case m38_h => (intro w hSw; (try dsimp only at hSw); go_simp; try with_reducible rfl)
              try simp only [Act.put, List.getElem_toArray, List.getElem_cons_succ, List.getElem_cons_zero, List.setIfInBounds_toArray, List.set_cons_zero, List.set_cons_succ]
              refine wpAnyH_take (i := 12) (oi := _) (v := ?m39_v) rfl (by kernel_rfl) (by kernel_rfl) (by kernel_rfl) (fun _ _ _ h => h) (Or.inl ⟨by kernel_rfl, ?m39_h⟩) hHeld ?m39_r
              case m39_h => (intro w hSw; (try dsimp only at hSw); go_simp; try with_reducible rfl)
              try simp only [Act.put, List.getElem_toArray, List.getElem_cons_succ, List.getElem_cons_zero, List.setIfInBounds_toArray, List.set_cons_zero, List.set_cons_succ]
              refine wpAnyH_ready (rs := [13]) (by kernel_rfl) (by simp) ?_
              refine (AllReadyH.cons (o := _) rfl (fun K hK => ?_) AllReadyH.nil)
              go_simp
              refine (hT.out.store y1 y2 _ _ rfl rfl).mono ?_
              rintro _ W7 ⟨rfl, S1, hT2, kn⟩
              replace hst := Lib.hid (hst.out.trans kn)
              replace hX2 := Lib.hid (hX2.out.steps kn)
              replace hB1 := Lib.hid (hB1.out.steps kn)
              replace hB2 := Lib.hid (hB2.out.steps kn)
              replace hT := Lib.hid hT2
              clear kn hT2
              refine hK.out _ _ (⟨hB1.out.cell 0 _ rfl, hB1.out.cell 1 _ rfl, hB2.out.cell 0 _ rfl, hB2.out.cell 1 _ rfl, (View.cellP hX2.out.2.2.2.at.2.2.2.2.2 k (y1, y2) HYK.out).1, (View.cellP hX2.out.2.2.2.at.2.2.2.2.2 k (y1, y2) HYK.out).2⟩) (fun hHeld => ?_)
              clear hK K
              try simp only [Act.put, List.getElem_toArray, List.getElem_cons_succ, List.getElem_cons_zero, List.setIfInBounds_toArray, List.set_cons_zero, List.set_cons_succ]
              refine wpAnyH_done (by kernel_rfl) ?_ _
              clear hHeld
              have c_B1_0 := hB1.out.cell 0 _ rfl
              have f_B1_0 := hB1.out.frz 0
              have c_B1_1 := hB1.out.cell 1 _ rfl
              have f_B1_1 := hB1.out.frz 1
              have l_B1 := hB1.out.lt
              have c_B2_0 := hB2.out.cell 0 _ rfl
              have f_B2_0 := hB2.out.frz 0
              have c_B2_1 := hB2.out.cell 1 _ rfl
              have f_B2_1 := hB2.out.frz 1
              have l_B2 := hB2.out.lt
              have e_0 := (View.cellP hX2.out.2.2.2.at.2.2.2.2.2 k (y1, y2) HYK.out).1
              have e_1 := (View.cellP hX2.out.2.2.2.at.2.2.2.2.2 k (y1, y2) HYK.out).2
              have l_gq := hX2.out.2.2.2.at.2.2.2.1
              go_wp2_with fail
              clear c_B1_0 f_B1_0 c_B1_1 f_B1_1 l_B1 c_B2_0 f_B2_0 c_B2_1 f_B2_1 l_B2 e_0 e_1 l_gq
              go_roundw
              case rel => exact ⟨k + 1, _, by omega, by go_num, hst, Lib.hid (by rw [thP_take HYK.out, txLoad_stF, HW.out.2]; exact hT.out), hX2, hB1, hB2⟩
              case measure => simp [intOf]; omega
            · skip
              have c_B1_0 := hB1.out.cell 0 _ rfl
              have f_B1_0 := hB1.out.frz 0
              have c_B1_1 := hB1.out.cell 1 _ rfl
              have f_B1_1 := hB1.out.frz 1
              have l_B1 := hB1.out.lt
              have c_B2_0 := hB2.out.cell 0 _ rfl
              have f_B2_0 := hB2.out.frz 0
              have c_B2_1 := hB2.out.cell 1 _ rfl
              have f_B2_1 := hB2.out.frz 1
              have l_B2 := hB2.out.lt
              go_wp2_with fail
              clear c_B1_0 f_B1_0 c_B1_1 f_B1_1 l_B1 c_B2_0 f_B2_0 c_B2_1 f_B2_1 l_B2
              obtain ⟨W6, hW6⟩ : ∃ W, W = wr.drew := ⟨_, rfl⟩
              replace hW6 := Lib.hid hW6
              have kn : Keeps Nil wr W6 := by rw [hW6.out]; exact keeps_drew _
              replace hst := Lib.hid (hst.out.nil kn)
              replace hX2 := Lib.hid (hX2.out.keeps_nil kn)
              replace hT := Lib.hid (hT.out.nil kn)
              replace hB1 := Lib.hid (hB1.out.nil kn)
              replace hB2 := Lib.hid (hB2.out.nil kn)
              clear kn
              refine wp_region_held_drew (S := fun w' => w'.cell? ⟨B2, 0, none⟩ = some (.slice (some ⟨ab, ao, none⟩) 600 ac) ∧ w'.cell? ⟨B2, 1, none⟩ = some (.slice a4 Q.length c4)) (by kernel_rfl) (by rw [← hW6.out]; exact ⟨hB2.out.cell 0 _ rfl, hB2.out.cell 1 _ rfl⟩) (fun hHeld => ?_)
              rw [← hW6.out] at hHeld ⊢
              refine wpAnyH_take (i := 0) (oi := _) (v := ?m40_v) rfl (by kernel_rfl) (by kernel_rfl) (by kernel_rfl) (fun _ _ _ h => h) (Or.inl ⟨by kernel_rfl, ?m40_h⟩) hHeld ?m40_r
              case m40_h => (intro w hSw; (try dsimp only at hSw); go_simp; try with_reducible rfl)
              try simp only [Act.put, List.getElem_toArray, List.getElem_cons_succ, List.getElem_cons_zero, List.setIfInBounds_toArray, List.set_cons_zero, List.set_cons_succ]
              refine wpAnyH_take (i := 1) (oi := _) (v := ?m41_v) rfl (by kernel_rfl) (by kernel_rfl) (by kernel_rfl) (fun _ _ _ h => h) (Or.inl ⟨by kernel_rfl, ?m41_h⟩) hHeld ?m41_r
              case m41_h => (intro w hSw; (try dsimp only at hSw); go_simp; try with_reducible rfl)
              try simp only [Act.put, List.getElem_toArray, List.getElem_cons_succ, List.getElem_cons_zero, List.setIfInBounds_toArray, List.set_cons_zero, List.set_cons_succ]
              refine wpAnyH_take (i := 2) (oi := _) (v := ?m42_v) rfl (by kernel_rfl) (by kernel_rfl) (by kernel_rfl) (fun _ _ _ h => h) (Or.inl ⟨by kernel_rfl, ?m42_h⟩) hHeld ?m42_r
              case m42_h => (intro w hSw; (try dsimp only at hSw); go_simp; try with_reducible rfl)
              try simp only [Act.put, List.getElem_toArray, List.getElem_cons_succ, List.getElem_cons_zero, List.setIfInBounds_toArray, List.set_cons_zero, List.set_cons_succ]
              refine wpAnyH_ready (rs := [3]) (by kernel_rfl) (by simp) ?_
              refine (AllReadyH.cons (o := _) rfl (fun K hK => ?_) AllReadyH.nil)
              have c_B1_0 := hB1.out.cell 0 _ rfl
              have f_B1_0 := hB1.out.frz 0
              have c_B1_1 := hB1.out.cell 1 _ rfl
              have f_B1_1 := hB1.out.frz 1
              have l_B1 := hB1.out.lt
              have c_B2_0 := hB2.out.cell 0 _ rfl
              have f_B2_0 := hB2.out.frz 0
              have c_B2_1 := hB2.out.cell 1 _ rfl
              have f_B2_1 := hB2.out.frz 1
              have l_B2 := hB2.out.lt
              obtain ⟨W7, hW7⟩ : ∃ W, W = ((W6.setCell ⟨B1, 0, none⟩ (.slice (some ⟨ab, ao, none⟩) 600 ac)).setCell ⟨B1, 1, none⟩ (.slice a4 Q.length c4)) := ⟨_, rfl⟩
              replace hW7 := Lib.hid hW7
              go_simp
              clear c_B1_0 f_B1_0 c_B1_1 f_B1_1 l_B1 c_B2_0 f_B2_0 c_B2_1 f_B2_1 l_B2
              rw [← hW7.out]
              replace hX2 := Lib.hid (hX2.out.box hB1.out.1 (show Keeps (fun i => i = B1) W6 W7 by rw [hW7.out]; exact (keeps_setCell W6 ⟨B1, 0, none⟩ _).trans' (keeps_setCell _ ⟨B1, 1, none⟩ _)))
              replace hst := Lib.hid (show Step _ S2 w W7 by rw [hW7.out]; exact ((hst.out.set gB1.out _ _).set gB1.out _ _))
              replace hT := Lib.hid (show TxF W7 t (txLoad ws (thP ws (Q.take k))) 4800 S2 by rw [hW7.out]; exact ((hT.out.set hB1.out.2 _ _).set hB1.out.2 _ _))
              replace hB1 := Lib.hid (show Bx W7 S2 B1 #[.slice (some ⟨ab, ao, none⟩) 600 ac, .slice a4 Q.length c4] 28 by rw [hW7.out]; exact ((hB1.out.set _ _).set _ _))
              replace hB2 := Lib.hid (show Bx W7 S2 B2 #[.slice (some ⟨ab, ao, none⟩) 600 ac, .slice a4 Q.length c4] 28 by rw [hW7.out]; exact ((hB2.out.other (Nat.ne_of_gt nB1B2.out) _ _).other (Nat.ne_of_gt nB1B2.out) _ _))
              refine hK.out _ _ (⟨hB2.out.cell 0 _ rfl, hB2.out.cell 1 _ rfl⟩) (fun hHeld => ?_)
              clear hK K
              try simp only [Act.put, List.getElem_toArray, List.getElem_cons_succ, List.getElem_cons_zero, List.setIfInBounds_toArray, List.set_cons_zero, List.set_cons_succ]
              refine wpAnyH_done (by kernel_rfl) ?_ _
              clear hHeld
              have c_B1_0 := hB1.out.cell 0 _ rfl
              have f_B1_0 := hB1.out.frz 0
              have c_B1_1 := hB1.out.cell 1 _ rfl
              have f_B1_1 := hB1.out.frz 1
              have l_B1 := hB1.out.lt
              have c_B2_0 := hB2.out.cell 0 _ rfl
              have f_B2_0 := hB2.out.frz 0
              have c_B2_1 := hB2.out.cell 1 _ rfl
              have f_B2_1 := hB2.out.frz 1
              have l_B2 := hB2.out.lt
              go_wp2_with fail
              clear c_B1_0 f_B1_0 c_B1_1 f_B1_1 l_B1 c_B2_0 f_B2_0 c_B2_1 f_B2_1 l_B2
              refine bodyPost_ret (results_tmp_row rfl rfl hB1.out.1 Try.underlying28 rfl (by kernel_rfl)) rfl ?_
              have hq : thP ws (Q.take k) = Q := thP_full HG.out.2 (by omega)
              have hT9 := hT.out
              rw [hq] at hT9
              have hX9 := hX2.out
              exact ⟨t, ab, ao, ac, a4, c4, _, rfl, hT9, hX9, hst.out⟩
  · skip
    have hst := Lib.hid (Step.refl Nil w)
    go_enter Try.func77, Try.ntmps77
    obtain ⟨W1, hW1⟩ : ∃ W, W = w.alloc (.cells #[.slice none 0 0, .slice none 0 0] 28) := ⟨_, rfl⟩
    obtain ⟨B1, eB1⟩ : ∃ B, B = w.heap.size := ⟨_, rfl⟩
    replace hW1 := Lib.hid hW1
    replace eB1 := Lib.hid eB1
    go_wp2_with fail
    rw [← hW1.out]
    try rw [← eB1.out]
    have k1 : Keeps Nil w W1 := by rw [hW1.out]; exact alloc_keeps _ _
    have e0B1 : B1 = w.heap.size := by rw [eB1.out]
    have hB1 := Lib.hid (show Bx W1 Nil B1 #[.slice none 0 0, .slice none 0 0] 28 by rw [hW1.out]; exact Bx.new Nil.lt _ _ e0B1)
    have gB1 := Lib.hid (show w.heap.size ≤ B1 by rw [e0B1]; exact hst.out.keeps.size)
    replace hst := Lib.hid (hst.out.nil k1)
    clear k1 e0B1
    refine (formedN06 4480 _ (by rfl)).mono ?_
    rintro _ W2 ⟨t, ab, ao, ac, a2, c2, S1, rfl, hT, hX, kn⟩
    replace hT := Lib.hid hT
    replace hX := Lib.hid hX
    replace hT := hT.out; replace hX := hX.out
    rw [← HW.out.1] at hT hX
    replace hT := Lib.hid hT; replace hX := Lib.hid hX
    replace hst := Lib.hid (hst.out.trans kn)
    replace hB1 := Lib.hid (hB1.out.steps kn)
    clear kn
    have c_B1_0 := hB1.out.cell 0 _ rfl
    have f_B1_0 := hB1.out.frz 0
    have c_B1_1 := hB1.out.cell 1 _ rfl
    have f_B1_1 := hB1.out.frz 1
    have l_B1 := hB1.out.lt
    obtain ⟨W3, hW3⟩ : ∃ W, W = W2.alloc (.cells #[.slice (some ⟨ab, ao, none⟩) 600 ac, .slice a2 0 c2] 28) := ⟨_, rfl⟩
    obtain ⟨B2, eB2⟩ : ∃ B, B = W2.heap.size := ⟨_, rfl⟩
    replace hW3 := Lib.hid hW3
    replace eB2 := Lib.hid eB2
    go_wp2_with fail
    clear c_B1_0 f_B1_0 c_B1_1 f_B1_1 l_B1
    rw [← hW3.out]
    try rw [← eB2.out]
    have k2 : Keeps Nil W2 W3 := by rw [hW3.out]; exact alloc_keeps _ _
    have e0B2 : B2 = W2.heap.size := by rw [eB2.out]
    have hB2 := Lib.hid (show Bx W3 S1 B2 #[.slice (some ⟨ab, ao, none⟩) 600 ac, .slice a2 0 c2] 28 by rw [hW3.out]; exact Bx.new hT.out.lt _ _ e0B2)
    have gB2 := Lib.hid (show w.heap.size ≤ B2 by rw [e0B2]; exact hst.out.keeps.size)
    have nB1B2 := Lib.hid (show B1 < B2 by rw [e0B2]; exact hB1.out.lt)
    replace hst := Lib.hid (hst.out.nil k2)
    replace hX := Lib.hid (hX.out.keeps_nil k2)
    replace hT := Lib.hid (hT.out.nil k2)
    replace hB1 := Lib.hid (hB1.out.nil k2)
    clear k2 e0B2
    refine (rLay_any hX.out hT.out.lt (GoodP.nil ws) (HL.out.keeps_nil hst.out.keeps)).mono ?_
    rintro _ W4 ⟨a3, c3, rfl, hv, kn⟩
    rw [show layAll ws [] ps = P1 by rw [HP.out.1, List.take_of_length_le (by have := HN.out.1; omega)]] at hv ⊢
    have hX1 := Lib.hid hv
    clear hv
    replace hst := Lib.hid (hst.out.nil kn)
    replace hX := Lib.hid (hX.out.keeps_nil kn)
    replace hT := Lib.hid (hT.out.nil kn)
    replace hB1 := Lib.hid (hB1.out.nil kn)
    replace hB2 := Lib.hid (hB2.out.nil kn)
    clear kn
    have c_B1_0 := hB1.out.cell 0 _ rfl
    have f_B1_0 := hB1.out.frz 0
    have c_B1_1 := hB1.out.cell 1 _ rfl
    have f_B1_1 := hB1.out.frz 1
    have l_B1 := hB1.out.lt
    have c_B2_0 := hB2.out.cell 0 _ rfl
    have f_B2_0 := hB2.out.frz 0
    have c_B2_1 := hB2.out.cell 1 _ rfl
    have f_B2_1 := hB2.out.frz 1
    have l_B2 := hB2.out.lt
    have ne_B1_B2 : (B1 = B2) = False := eq_false (Nat.ne_of_lt nB1B2.out)
    have ne_B2_B1 : (B2 = B1) = False := eq_false (Ne.symm (Nat.ne_of_lt nB1B2.out))
    obtain ⟨W5, hW5⟩ : ∃ W, W = ((W4.setCell ⟨B2, 0, none⟩ (.slice (some ⟨ab, ao, none⟩) 600 ac)).setCell ⟨B2, 1, none⟩ (.slice a3 P1.length c3)) := ⟨_, rfl⟩
    replace hW5 := Lib.hid hW5
    go_wp2_with fail
    clear c_B1_0 f_B1_0 c_B1_1 f_B1_1 l_B1 c_B2_0 f_B2_0 c_B2_1 f_B2_1 l_B2 ne_B1_B2 ne_B2_B1
    rw [← hW5.out]
    replace hX := Lib.hid (hX.out.box hB2.out.1 (show Keeps (fun i => i = B2) W4 W5 by rw [hW5.out]; exact (keeps_setCell W4 ⟨B2, 0, none⟩ _).trans' (keeps_setCell _ ⟨B2, 1, none⟩ _)))
    replace hX1 := Lib.hid (hX1.out.box hB2.out.1 (show Keeps (fun i => i = B2) W4 W5 by rw [hW5.out]; exact (keeps_setCell W4 ⟨B2, 0, none⟩ _).trans' (keeps_setCell _ ⟨B2, 1, none⟩ _)))
    replace hst := Lib.hid (show Step _ S1 w W5 by rw [hW5.out]; exact ((hst.out.set gB2.out _ _).set gB2.out _ _))
    replace hT := Lib.hid (show TxF W5 t (txLoad ws []) 4800 S1 by rw [hW5.out]; exact ((hT.out.set hB2.out.2 _ _).set hB2.out.2 _ _))
    replace hB1 := Lib.hid (show Bx W5 S1 B1 #[.slice none 0 0, .slice none 0 0] 28 by rw [hW5.out]; exact ((hB1.out.other (Nat.ne_of_lt nB1B2.out) _ _).other (Nat.ne_of_lt nB1B2.out) _ _))
    replace hB2 := Lib.hid (show Bx W5 S1 B2 #[.slice (some ⟨ab, ao, none⟩) 600 ac, .slice a3 P1.length c3] 28 by rw [hW5.out]; exact ((hB2.out.set _ _).set _ _))
    have c_B1_0 := hB1.out.cell 0 _ rfl
    have f_B1_0 := hB1.out.frz 0
    have c_B1_1 := hB1.out.cell 1 _ rfl
    have f_B1_1 := hB1.out.frz 1
    have l_B1 := hB1.out.lt
    have c_B2_0 := hB2.out.cell 0 _ rfl
    have f_B2_0 := hB2.out.frz 0
    have c_B2_1 := hB2.out.cell 1 _ rfl
    have f_B2_1 := hB2.out.frz 1
    have l_B2 := hB2.out.lt
    go_wp2_with fail
    clear c_B1_0 f_B1_0 c_B1_1 f_B1_1 l_B1 c_B2_0 f_B2_0 c_B2_1 f_B2_1 l_B2
    go_loopw [8] (fun i wr => (∃ (k : Nat) (Q : List Put) (a4 : Option Addr) (c4 : Nat), k ≤ M ∧ k ≤ 10 ∧ i = .int .i64 (k : Int) ∧ Hid (Step Nil S1 w wr) ∧ Hid (TxF wr t (txLoad ws []) 4800 S1) ∧ Hid (Bx wr S1 B2 #[.slice (some ⟨ab, ao, none⟩) 600 ac, .slice a4 Q.length c4] 28) ∧ Hid (TxV S1 wr (.slice (some ⟨ab, ao, none⟩) 600 ac) (.slice a4 Q.length c4) ws Q) ∧ Hid (Q = thQ ws P1 (ks.take k)) ∧ Hid (GoodP ws Q)) ∧ Hid (Bx wr S1 B1 #[.slice none 0 0, .slice none 0 0] 28)) (fun i _ => 20 - (intOf i).toNat)
    case atStart => exact ⟨⟨0, P1, _, _, by omega, by omega, rfl, hst, hT, hB2, hX1, Lib.hid rfl, Lib.hid HG.out.1⟩, hB1⟩
    case round =>
      clear hB1
      obtain ⟨hrel, hB1⟩ := hrel
      clear hst hT hB2 hX hX1
      obtain ⟨k, Q, a4, c4, hk, hk10, rfl, hst, hT, hB2, hX2, HQ1, HQ⟩ := hrel
      by_cases hlt : k < M ∧ k < 10
      · obtain ⟨hl1, hl2⟩ := hlt
        obtain ⟨gk, ok, ck2, hvv, _, _, hgk, _, hcell⟩ := HK.out.pos (by have := HN.out.2; omega)
        simp only [Value.slice.injEq] at hvv
        obtain ⟨rfl, hvn, rfl⟩ := hvv
        clear hvn
        obtain ⟨⟨y1, y2⟩, hy⟩ : ∃ y, ks[k]? = some y := ⟨ks[k]'(by have := HN.out.2; omega), by simp⟩
        have HYK := Lib.hid hy
        have HY := Lib.hid (View.cellP hcell k _ hy)
        have HGK := Lib.hid hgk
        clear hcell hy hgk
        have c_B1_0 := hB1.out.cell 0 _ rfl
        have f_B1_0 := hB1.out.frz 0
        have c_B1_1 := hB1.out.cell 1 _ rfl
        have f_B1_1 := hB1.out.frz 1
        have l_B1 := hB1.out.lt
        have c_B2_0 := hB2.out.cell 0 _ rfl
        have f_B2_0 := hB2.out.frz 0
        have c_B2_1 := hB2.out.cell 1 _ rfl
        have f_B2_1 := hB2.out.frz 1
        have l_B2 := hB2.out.lt
        have e_0 := (hst.out.keeps.cell HGK.out (fun e => e) _).trans HY.out.1
        have e_1 := (hst.out.keeps.cell HGK.out (fun e => e) _).trans HY.out.2
        have l_gk := Nat.lt_of_lt_of_le HGK.out hst.out.keeps.size
        go_wp2_with fail
        clear c_B1_0 f_B1_0 c_B1_1 f_B1_1 l_B1 c_B2_0 f_B2_0 c_B2_1 f_B2_1 l_B2 e_0 e_1 l_gk
        obtain ⟨W6, hW6⟩ : ∃ W, W = wr.drew := ⟨_, rfl⟩
        replace hW6 := Lib.hid hW6
        have kn : Keeps Nil wr W6 := by rw [hW6.out]; exact keeps_drew _
        replace hst := Lib.hid (hst.out.nil kn)
        replace hX2 := Lib.hid (hX2.out.keeps_nil kn)
        replace hT := Lib.hid (hT.out.nil kn)
        replace hB1 := Lib.hid (hB1.out.nil kn)
        replace hB2 := Lib.hid (hB2.out.nil kn)
        clear kn
        refine wp_region_held_drew (S := fun w' => w'.cell? ⟨B1, 0, none⟩ = some (.slice none 0 0) ∧ w'.cell? ⟨B1, 1, none⟩ = some (.slice none 0 0) ∧ w'.cell? ⟨gk, ok + k * 2, none⟩ = some (.int .u64 (y1.toNat : Int)) ∧ w'.cell? ⟨gk, ok + k * 2 + 1, none⟩ = some (.int .u64 (y2.toNat : Int))) (by kernel_rfl) (by rw [← hW6.out]; exact ⟨hB1.out.cell 0 _ rfl, hB1.out.cell 1 _ rfl, (hst.out.keeps.cell HGK.out (fun e => e) _).trans HY.out.1, (hst.out.keeps.cell HGK.out (fun e => e) _).trans HY.out.2⟩) (fun hHeld => ?_)
        rw [← hW6.out] at hHeld ⊢
        refine wpAnyH_take (i := 1) (oi := _) (v := ?m43_v) rfl (by kernel_rfl) (by kernel_rfl) (by kernel_rfl) (fun _ _ _ h => h) (Or.inl ⟨by kernel_rfl, ?m43_h⟩) hHeld ?m43_r
        case m43_h => (intro w hSw; (try dsimp only at hSw); go_simp; try with_reducible rfl)
        try simp only [Act.put, List.getElem_toArray, List.getElem_cons_succ, List.getElem_cons_zero, List.setIfInBounds_toArray, List.set_cons_zero, List.set_cons_succ]
        refine wpAnyH_take (i := 2) (oi := _) (v := ?m44_v) rfl (by kernel_rfl) (by kernel_rfl) (by kernel_rfl) (fun _ _ _ h => h) (Or.inl ⟨by kernel_rfl, ?m44_h⟩) hHeld ?m44_r
        case m44_h => (intro w hSw; (try dsimp only at hSw); go_simp; try with_reducible rfl)
        try simp only [Act.put, List.getElem_toArray, List.getElem_cons_succ, List.getElem_cons_zero, List.setIfInBounds_toArray, List.set_cons_zero, List.set_cons_succ]
        refine wpAnyH_take (i := 3) (oi := _) (v := ?m45_v) rfl (by kernel_rfl) (by kernel_rfl) (by kernel_rfl) (fun _ _ _ h => h) (Or.inl ⟨by kernel_rfl, ?m45_h⟩) hHeld ?m45_r
        case m45_h => (intro w hSw; (try dsimp only at hSw); go_simp; try with_reducible rfl)
        try simp only [Act.put, List.getElem_toArray, List.getElem_cons_succ, List.getElem_cons_zero, List.setIfInBounds_toArray, List.set_cons_zero, List.set_cons_succ]
        refine wpAnyH_take (i := 4) (oi := _) (v := ?m46_v) rfl (by kernel_rfl) (by kernel_rfl) (by kernel_rfl) (fun _ _ _ h => h) (Or.inl ⟨by kernel_rfl, ?m46_h⟩) hHeld ?m46_r
        case m46_h => (intro w hSw; (try dsimp only at hSw); go_simp; try with_reducible rfl)
        try simp only [Act.put, List.getElem_toArray, List.getElem_cons_succ, List.getElem_cons_zero, List.setIfInBounds_toArray, List.set_cons_zero, List.set_cons_succ]
        refine wpAnyH_take (i := 5) (oi := _) (v := ?m47_v) rfl (by kernel_rfl) (by kernel_rfl) (by kernel_rfl) (fun _ _ _ h => h) (Or.inl ⟨by kernel_rfl, ?m47_h⟩) hHeld ?m47_r
        case m47_h => (intro w hSw; (try dsimp only at hSw); go_simp; try with_reducible rfl)
        try simp only [Act.put, List.getElem_toArray, List.getElem_cons_succ, List.getElem_cons_zero, List.setIfInBounds_toArray, List.set_cons_zero, List.set_cons_succ]
        refine wpAnyH_take (i := 6) (oi := _) (v := ?m48_v) rfl (by kernel_rfl) (by kernel_rfl) (by kernel_rfl) (fun _ _ _ h => h) (Or.inl ⟨by kernel_rfl, ?m48_h⟩) hHeld ?m48_r
        case m48_h => (intro w hSw; (try dsimp only at hSw); go_simp; try with_reducible rfl)
        try simp only [Act.put, List.getElem_toArray, List.getElem_cons_succ, List.getElem_cons_zero, List.setIfInBounds_toArray, List.set_cons_zero, List.set_cons_succ]
        refine wpAnyH_take (i := 7) (oi := _) (v := ?m49_v) rfl (by kernel_rfl) (by kernel_rfl) (by kernel_rfl) (fun _ _ _ h => h) (Or.inl ⟨by kernel_rfl, ?m49_h⟩) hHeld ?m49_r
        case m49_h => (intro w hSw; (try dsimp only at hSw); go_simp; try with_reducible rfl)
        try simp only [Act.put, List.getElem_toArray, List.getElem_cons_succ, List.getElem_cons_zero, List.setIfInBounds_toArray, List.set_cons_zero, List.set_cons_succ]
        refine wpAnyH_take (i := 8) (oi := _) (v := ?m50_v) rfl (by kernel_rfl) (by kernel_rfl) (by kernel_rfl) (fun _ _ _ h => h) (Or.inl ⟨by kernel_rfl, ?m50_h⟩) hHeld ?m50_r
        case m50_h => (intro w hSw; (try dsimp only at hSw); go_simp; try with_reducible rfl)
        try simp only [Act.put, List.getElem_toArray, List.getElem_cons_succ, List.getElem_cons_zero, List.setIfInBounds_toArray, List.set_cons_zero, List.set_cons_succ]
        refine wpAnyH_take (i := 9) (oi := _) (v := ?m51_v) rfl (by kernel_rfl) (by kernel_rfl) (by kernel_rfl) (fun _ _ _ h => h) (Or.inl ⟨by kernel_rfl, ?m51_h⟩) hHeld ?m51_r
        case m51_h => (intro w hSw; (try dsimp only at hSw); go_simp; try with_reducible rfl)
        try simp only [Act.put, List.getElem_toArray, List.getElem_cons_succ, List.getElem_cons_zero, List.setIfInBounds_toArray, List.set_cons_zero, List.set_cons_succ]
        refine wpAnyH_take (i := 10) (oi := _) (v := ?m52_v) rfl (by kernel_rfl) (by kernel_rfl) (by kernel_rfl) (fun _ _ _ h => h) (Or.inl ⟨by kernel_rfl, ?m52_h⟩) hHeld ?m52_r
        case m52_h => (intro w hSw; (try dsimp only at hSw); go_simp; try with_reducible rfl)
        try simp only [Act.put, List.getElem_toArray, List.getElem_cons_succ, List.getElem_cons_zero, List.setIfInBounds_toArray, List.set_cons_zero, List.set_cons_succ]
        refine wpAnyH_ready (rs := [0]) (by kernel_rfl) (by simp) ?_
        refine (AllReadyH.cons (o := _) rfl (fun K hK => ?_) AllReadyH.nil)
        have c_B1_0 := hB1.out.cell 0 _ rfl
        have f_B1_0 := hB1.out.frz 0
        have c_B1_1 := hB1.out.cell 1 _ rfl
        have f_B1_1 := hB1.out.frz 1
        have l_B1 := hB1.out.lt
        have c_B2_0 := hB2.out.cell 0 _ rfl
        have f_B2_0 := hB2.out.frz 0
        have c_B2_1 := hB2.out.cell 1 _ rfl
        have f_B2_1 := hB2.out.frz 1
        have l_B2 := hB2.out.lt
        have e_0 := (hst.out.keeps.cell HGK.out (fun e => e) _).trans HY.out.1
        have e_1 := (hst.out.keeps.cell HGK.out (fun e => e) _).trans HY.out.2
        have l_gk := Nat.lt_of_lt_of_le HGK.out hst.out.keeps.size
        go_simp
        clear c_B1_0 f_B1_0 c_B1_1 f_B1_1 l_B1 c_B2_0 f_B2_0 c_B2_1 f_B2_1 l_B2 e_0 e_1 l_gk
        refine hK.out _ _ (⟨hB1.out.cell 0 _ rfl, hB1.out.cell 1 _ rfl, (hst.out.keeps.cell HGK.out (fun e => e) _).trans HY.out.1, (hst.out.keeps.cell HGK.out (fun e => e) _).trans HY.out.2⟩) (fun hHeld => ?_)
        clear hK K
        try simp only [Act.put, List.getElem_toArray, List.getElem_cons_succ, List.getElem_cons_zero, List.setIfInBounds_toArray, List.set_cons_zero, List.set_cons_succ]
        refine wpAnyH_ready (rs := [11]) (by kernel_rfl) (by simp) ?_
        refine (AllReadyH.cons (o := _) rfl (fun K hK => ?_) AllReadyH.nil)
        go_simp
        refine (hX2.out.store hT.out.lt (by have := good_small HQ.out (by rw [HW.out.2]; decide); omega) y1 y2 _ _ rfl rfl).mono ?_
        rintro _ W7 ⟨v, rfl, hv, kn⟩
        obtain ⟨a5, c5, rfl⟩ := hv.valB
        have hX3 := Lib.hid hv
        clear hv
        replace hst := Lib.hid (hst.out.nil kn)
        replace hX2 := Lib.hid (hX2.out.keeps_nil kn)
        replace hT := Lib.hid (hT.out.nil kn)
        replace hB1 := Lib.hid (hB1.out.nil kn)
        replace hB2 := Lib.hid (hB2.out.nil kn)
        clear kn
        refine hK.out _ _ (⟨hB1.out.cell 0 _ rfl, hB1.out.cell 1 _ rfl, (hst.out.keeps.cell HGK.out (fun e => e) _).trans HY.out.1, (hst.out.keeps.cell HGK.out (fun e => e) _).trans HY.out.2⟩) (fun hHeld => ?_)
        clear hK K
        try simp only [Act.put, List.getElem_toArray, List.getElem_cons_succ, List.getElem_cons_zero, List.setIfInBounds_toArray, List.set_cons_zero, List.set_cons_succ]
        refine wpAnyH_ready (rs := [12]) (by kernel_rfl) (by simp) ?_
        refine (AllReadyH.cons (o := _) rfl (fun K hK => ?_) AllReadyH.nil)
        have c_B1_0 := hB1.out.cell 0 _ rfl
        have f_B1_0 := hB1.out.frz 0
        have c_B1_1 := hB1.out.cell 1 _ rfl
        have f_B1_1 := hB1.out.frz 1
        have l_B1 := hB1.out.lt
        have c_B2_0 := hB2.out.cell 0 _ rfl
        have f_B2_0 := hB2.out.frz 0
        have c_B2_1 := hB2.out.cell 1 _ rfl
        have f_B2_1 := hB2.out.frz 1
        have l_B2 := hB2.out.lt
        have e_0 := (hst.out.keeps.cell HGK.out (fun e => e) _).trans HY.out.1
        have e_1 := (hst.out.keeps.cell HGK.out (fun e => e) _).trans HY.out.2
        have l_gk := Nat.lt_of_lt_of_le HGK.out hst.out.keeps.size
        obtain ⟨W8, hW8⟩ : ∃ W, W = ((W7.setCell ⟨B2, 0, none⟩ (.slice (some ⟨ab, ao, none⟩) 600 ac)).setCell ⟨B2, 1, none⟩ (.slice a5 (txStore ws Q y1 y2).length c5)) := ⟨_, rfl⟩
        replace hW8 := Lib.hid hW8
        go_simp
        clear c_B1_0 f_B1_0 c_B1_1 f_B1_1 l_B1 c_B2_0 f_B2_0 c_B2_1 f_B2_1 l_B2 e_0 e_1 l_gk
        rw [← hW8.out]
        replace hX2 := Lib.hid (hX2.out.box hB2.out.1 (show Keeps (fun i => i = B2) W7 W8 by rw [hW8.out]; exact (keeps_setCell W7 ⟨B2, 0, none⟩ _).trans' (keeps_setCell _ ⟨B2, 1, none⟩ _)))
        replace hX3 := Lib.hid (hX3.out.box hB2.out.1 (show Keeps (fun i => i = B2) W7 W8 by rw [hW8.out]; exact (keeps_setCell W7 ⟨B2, 0, none⟩ _).trans' (keeps_setCell _ ⟨B2, 1, none⟩ _)))
        replace hst := Lib.hid (show Step _ S1 w W8 by rw [hW8.out]; exact ((hst.out.set gB2.out _ _).set gB2.out _ _))
        replace hT := Lib.hid (show TxF W8 t (txLoad ws []) 4800 S1 by rw [hW8.out]; exact ((hT.out.set hB2.out.2 _ _).set hB2.out.2 _ _))
        replace hB1 := Lib.hid (show Bx W8 S1 B1 #[.slice none 0 0, .slice none 0 0] 28 by rw [hW8.out]; exact ((hB1.out.other (Nat.ne_of_lt nB1B2.out) _ _).other (Nat.ne_of_lt nB1B2.out) _ _))
        replace hB2 := Lib.hid (show Bx W8 S1 B2 #[.slice (some ⟨ab, ao, none⟩) 600 ac, .slice a5 (txStore ws Q y1 y2).length c5] 28 by rw [hW8.out]; exact ((hB2.out.set _ _).set _ _))
        refine hK.out _ _ (⟨hB1.out.cell 0 _ rfl, hB1.out.cell 1 _ rfl, (hst.out.keeps.cell HGK.out (fun e => e) _).trans HY.out.1, (hst.out.keeps.cell HGK.out (fun e => e) _).trans HY.out.2⟩) (fun hHeld => ?_)
        clear hK K
        try simp only [Act.put, List.getElem_toArray, List.getElem_cons_succ, List.getElem_cons_zero, List.setIfInBounds_toArray, List.set_cons_zero, List.set_cons_succ]
        refine wpAnyH_done (by kernel_rfl) ?_ _
        clear hHeld
        have c_B1_0 := hB1.out.cell 0 _ rfl
        have f_B1_0 := hB1.out.frz 0
        have c_B1_1 := hB1.out.cell 1 _ rfl
        have f_B1_1 := hB1.out.frz 1
        have l_B1 := hB1.out.lt
        have c_B2_0 := hB2.out.cell 0 _ rfl
        have f_B2_0 := hB2.out.frz 0
        have c_B2_1 := hB2.out.cell 1 _ rfl
        have f_B2_1 := hB2.out.frz 1
        have l_B2 := hB2.out.lt
        have e_0 := (hst.out.keeps.cell HGK.out (fun e => e) _).trans HY.out.1
        have e_1 := (hst.out.keeps.cell HGK.out (fun e => e) _).trans HY.out.2
        have l_gk := Nat.lt_of_lt_of_le HGK.out hst.out.keeps.size
        go_wp2_with fail
        clear c_B1_0 f_B1_0 c_B1_1 f_B1_1 l_B1 c_B2_0 f_B2_0 c_B2_1 f_B2_1 l_B2 e_0 e_1 l_gk
        go_roundw
        case rel => exact ⟨⟨k + 1, _, _, _, by omega, by omega, by go_num, hst, hT, hB2, hX3, Lib.hid (by rw [HQ1.out, thQ_take HYK.out]), Lib.hid (HQ.out.store y1 y2)⟩, hB1⟩
        case measure => simp [intOf]; omega
      · have hcut : (¬ k < M ∧ 0 ≤ k) ∨ (k < M ∧ ¬ k < 10) := by omega
        clear hlt
        have hQ2 : Q = P2 := by rw [HQ1.out, HP.out.2]; congr 1; exact take_cap ks k 10 (by have := HN.out.2; omega) hk10 (by have := HN.out.2; omega)
        subst hQ2
        rcases hcut with ⟨hn1, hn2⟩ | ⟨hn1, hn2⟩
        · skip
          have c_B1_0 := hB1.out.cell 0 _ rfl
          have f_B1_0 := hB1.out.frz 0
          have c_B1_1 := hB1.out.cell 1 _ rfl
          have f_B1_1 := hB1.out.frz 1
          have l_B1 := hB1.out.lt
          have c_B2_0 := hB2.out.cell 0 _ rfl
          have f_B2_0 := hB2.out.frz 0
          have c_B2_1 := hB2.out.cell 1 _ rfl
          have f_B2_1 := hB2.out.frz 1
          have l_B2 := hB2.out.lt
          go_wp2_with fail
          clear c_B1_0 f_B1_0 c_B1_1 f_B1_1 l_B1 c_B2_0 f_B2_0 c_B2_1 f_B2_1 l_B2
          have c_B1_0 := hB1.out.cell 0 _ rfl
          have f_B1_0 := hB1.out.frz 0
          have c_B1_1 := hB1.out.cell 1 _ rfl
          have f_B1_1 := hB1.out.frz 1
          have l_B1 := hB1.out.lt
          have c_B2_0 := hB2.out.cell 0 _ rfl
          have f_B2_0 := hB2.out.frz 0
          have c_B2_1 := hB2.out.cell 1 _ rfl
          have f_B2_1 := hB2.out.frz 1
          have l_B2 := hB2.out.lt
          go_wp2_with fail
          clear c_B1_0 f_B1_0 c_B1_1 f_B1_1 l_B1 c_B2_0 f_B2_0 c_B2_1 f_B2_1 l_B2
          go_loopw [9] (fun i wr => ∃ (k : Nat) (S2 : Nat → Prop), k ≤ Q.length ∧ i = .int .i64 (k : Int) ∧ Hid (Step Nil S2 w wr) ∧ Hid (TxF wr t (txLoad ws (thP ws (Q.take k))) 4800 S2) ∧ Hid (TxV S2 wr (.slice (some ⟨ab, ao, none⟩) 600 ac) (.slice a4 Q.length c4) ws Q) ∧ Hid (Bx wr S2 B1 #[.slice none 0 0, .slice none 0 0] 28) ∧ Hid (Bx wr S2 B2 #[.slice (some ⟨ab, ao, none⟩) 600 ac, .slice a4 Q.length c4] 28)) (fun i _ => Q.length - (intOf i).toNat)
          case atStart => exact ⟨0, _, Nat.zero_le _, rfl, hst, hT, hX2, hB1, hB2⟩
          case round =>
            clear hst hT hX2 hB1 hB2
            obtain ⟨k, S2, hk, rfl, hst, hT, hX2, hB1, hB2⟩ := hrel
            by_cases hlt : k < Q.length
            · obtain ⟨gq, oq, cq, hvv, _, _, _, _, _⟩ := hX2.out.2.2.2.pos (by omega)
              simp only [Value.slice.injEq] at hvv
              obtain ⟨rfl, _, rfl⟩ := hvv
              obtain ⟨⟨y1, y2⟩, hy⟩ : ∃ y, Q[k]? = some y := ⟨Q[k]'(by omega), by simp⟩
              have HYK := Lib.hid hy
              clear hy
              have c_B1_0 := hB1.out.cell 0 _ rfl
              have f_B1_0 := hB1.out.frz 0
              have c_B1_1 := hB1.out.cell 1 _ rfl
              have f_B1_1 := hB1.out.frz 1
              have l_B1 := hB1.out.lt
              have c_B2_0 := hB2.out.cell 0 _ rfl
              have f_B2_0 := hB2.out.frz 0
              have c_B2_1 := hB2.out.cell 1 _ rfl
              have f_B2_1 := hB2.out.frz 1
              have l_B2 := hB2.out.lt
              have e_0 := (View.cellP hX2.out.2.2.2.at.2.2.2.2.2 k (y1, y2) HYK.out).1
              have e_1 := (View.cellP hX2.out.2.2.2.at.2.2.2.2.2 k (y1, y2) HYK.out).2
              have l_gq := hX2.out.2.2.2.at.2.2.2.1
              go_wp2_with fail
              clear c_B1_0 f_B1_0 c_B1_1 f_B1_1 l_B1 c_B2_0 f_B2_0 c_B2_1 f_B2_1 l_B2 e_0 e_1 l_gq
              obtain ⟨W6, hW6⟩ : ∃ W, W = wr.drew := ⟨_, rfl⟩
              replace hW6 := Lib.hid hW6
              have kn : Keeps Nil wr W6 := by rw [hW6.out]; exact keeps_drew _
              replace hst := Lib.hid (hst.out.nil kn)
              replace hX2 := Lib.hid (hX2.out.keeps_nil kn)
              replace hT := Lib.hid (hT.out.nil kn)
              replace hB1 := Lib.hid (hB1.out.nil kn)
              replace hB2 := Lib.hid (hB2.out.nil kn)
              clear kn
              refine wp_region_held_drew (S := fun w' => w'.cell? ⟨B1, 0, none⟩ = some (.slice none 0 0) ∧ w'.cell? ⟨B1, 1, none⟩ = some (.slice none 0 0) ∧ w'.cell? ⟨B2, 0, none⟩ = some (.slice (some ⟨ab, ao, none⟩) 600 ac) ∧ w'.cell? ⟨B2, 1, none⟩ = some (.slice (some ⟨gq, oq, none⟩) Q.length c4) ∧ w'.cell? ⟨gq, oq + k * 2, none⟩ = some (.int .u64 (y1.toNat : Int)) ∧ w'.cell? ⟨gq, oq + k * 2 + 1, none⟩ = some (.int .u64 (y2.toNat : Int))) (by kernel_rfl) (by rw [← hW6.out]; exact ⟨hB1.out.cell 0 _ rfl, hB1.out.cell 1 _ rfl, hB2.out.cell 0 _ rfl, hB2.out.cell 1 _ rfl, (View.cellP hX2.out.2.2.2.at.2.2.2.2.2 k (y1, y2) HYK.out).1, (View.cellP hX2.out.2.2.2.at.2.2.2.2.2 k (y1, y2) HYK.out).2⟩) (fun hHeld => ?_)
              rw [← hW6.out] at hHeld ⊢
              refine wpAnyH_take (i := 0) (oi := _) (v := ?m53_v) rfl (by kernel_rfl) (by kernel_rfl) (by kernel_rfl) (fun _ _ _ h => h) (Or.inl ⟨by kernel_rfl, ?m53_h⟩) hHeld ?m53_r
              case m53_h => (intro w hSw; (try dsimp only at hSw); go_simp; try with_reducible rfl)
              try simp only [Act.put, List.getElem_toArray, List.getElem_cons_succ, List.getElem_cons_zero, List.setIfInBounds_toArray, List.set_cons_zero, List.set_cons_succ]
              refine wpAnyH_take (i := 1) (oi := _) (v := ?m54_v) rfl (by kernel_rfl) (by kernel_rfl) (by kernel_rfl) (fun _ _ _ h => h) (Or.inl ⟨by kernel_rfl, ?m54_h⟩) hHeld ?m54_r
              case m54_h => (intro w hSw; (try dsimp only at hSw); go_simp; try with_reducible rfl)
              try simp only [Act.put, List.getElem_toArray, List.getElem_cons_succ, List.getElem_cons_zero, List.setIfInBounds_toArray, List.set_cons_zero, List.set_cons_succ]
              refine wpAnyH_take (i := 2) (oi := _) (v := ?m55_v) rfl (by kernel_rfl) (by kernel_rfl) (by kernel_rfl) (fun _ _ _ h => h) (Or.inl ⟨by kernel_rfl, ?m55_h⟩) hHeld ?m55_r
              case m55_h => (intro w hSw; (try dsimp only at hSw); go_simp; try with_reducible rfl)
              try simp only [Act.put, List.getElem_toArray, List.getElem_cons_succ, List.getElem_cons_zero, List.setIfInBounds_toArray, List.set_cons_zero, List.set_cons_succ]
              refine wpAnyH_take (i := 3) (oi := _) (v := ?m56_v) rfl (by kernel_rfl) (by kernel_rfl) (by kernel_rfl) (fun _ _ _ h => h) (Or.inl ⟨by kernel_rfl, ?m56_h⟩) hHeld ?m56_r
              case m56_h => (intro w hSw; (try dsimp only at hSw); go_simp; try with_reducible rfl)
              try simp only [Act.put, List.getElem_toArray, List.getElem_cons_succ, List.getElem_cons_zero, List.setIfInBounds_toArray, List.set_cons_zero, List.set_cons_succ]
              refine wpAnyH_take (i := 4) (oi := _) (v := ?m57_v) rfl (by kernel_rfl) (by kernel_rfl) (by kernel_rfl) (fun _ _ _ h => h) (Or.inl ⟨by kernel_rfl, ?m57_h⟩) hHeld ?m57_r
              case m57_h => (intro w hSw; (try dsimp only at hSw); go_simp; try with_reducible rfl)
              try simp only [Act.put, List.getElem_toArray, List.getElem_cons_succ, List.getElem_cons_zero, List.setIfInBounds_toArray, List.set_cons_zero, List.set_cons_succ]
              refine wpAnyH_take (i := 5) (oi := _) (v := ?m58_v) rfl (by kernel_rfl) (by kernel_rfl) (by kernel_rfl) (fun _ _ _ h => h) (Or.inl ⟨by kernel_rfl, ?m58_h⟩) hHeld ?m58_r
              case m58_h => (intro w hSw; (try dsimp only at hSw); go_simp; try with_reducible rfl)
              try simp only [Act.put, List.getElem_toArray, List.getElem_cons_succ, List.getElem_cons_zero, List.setIfInBounds_toArray, List.set_cons_zero, List.set_cons_succ]
              refine wpAnyH_take (i := 6) (oi := _) (v := ?m59_v) rfl (by kernel_rfl) (by kernel_rfl) (by kernel_rfl) (fun _ _ _ h => h) (Or.inl ⟨by kernel_rfl, ?m59_h⟩) hHeld ?m59_r
              case m59_h => (intro w hSw; (try dsimp only at hSw); go_simp; try with_reducible rfl)
              try simp only [Act.put, List.getElem_toArray, List.getElem_cons_succ, List.getElem_cons_zero, List.setIfInBounds_toArray, List.set_cons_zero, List.set_cons_succ]
              refine wpAnyH_take (i := 7) (oi := _) (v := ?m60_v) rfl (by kernel_rfl) (by kernel_rfl) (by kernel_rfl) (fun _ _ _ h => h) (Or.inl ⟨by kernel_rfl, ?m60_h⟩) hHeld ?m60_r
              case m60_h => (intro w hSw; (try dsimp only at hSw); go_simp; try with_reducible rfl)
              try simp only [Act.put, List.getElem_toArray, List.getElem_cons_succ, List.getElem_cons_zero, List.setIfInBounds_toArray, List.set_cons_zero, List.set_cons_succ]
              refine wpAnyH_take (i := 8) (oi := _) (v := ?m61_v) rfl (by kernel_rfl) (by kernel_rfl) (by kernel_rfl) (fun _ _ _ h => h) (Or.inl ⟨by kernel_rfl, ?m61_h⟩) hHeld ?m61_r
              case m61_h => (intro w hSw; (try dsimp only at hSw); go_simp; try with_reducible rfl)
              try simp only [Act.put, List.getElem_toArray, List.getElem_cons_succ, List.getElem_cons_zero, List.setIfInBounds_toArray, List.set_cons_zero, List.set_cons_succ]
              refine wpAnyH_take (i := 9) (oi := _) (v := ?m62_v) rfl (by kernel_rfl) (by kernel_rfl) (by kernel_rfl) (fun _ _ _ h => h) (Or.inl ⟨by kernel_rfl, ?m62_h⟩) hHeld ?m62_r
              case m62_h => (intro w hSw; (try dsimp only at hSw); go_simp; try with_reducible rfl)
              try simp only [Act.put, List.getElem_toArray, List.getElem_cons_succ, List.getElem_cons_zero, List.setIfInBounds_toArray, List.set_cons_zero, List.set_cons_succ]
              refine wpAnyH_take (i := 10) (oi := _) (v := ?m63_v) rfl (by kernel_rfl) (by kernel_rfl) (by kernel_rfl) (fun _ _ _ h => h) (Or.inl ⟨by kernel_rfl, ?m63_h⟩) hHeld ?m63_r
              case m63_h => (intro w hSw; (try dsimp only at hSw); go_simp; try with_reducible rfl)
              try simp only [Act.put, List.getElem_toArray, List.getElem_cons_succ, List.getElem_cons_zero, List.setIfInBounds_toArray, List.set_cons_zero, List.set_cons_succ]
              refine wpAnyH_take (i := 11) (oi := _) (v := ?m64_v) rfl (by kernel_rfl) (by kernel_rfl) (by kernel_rfl) (fun _ _ _ h => h) (Or.inl ⟨by kernel_rfl, ?m64_h⟩) hHeld ?m64_r
              case m64_h => (intro w hSw; (try dsimp only at hSw); go_simp; try with_reducible rfl)
              try simp only [Act.put, List.getElem_toArray, List.getElem_cons_succ, List.getElem_cons_zero, List.setIfInBounds_toArray, List.set_cons_zero, List.set_cons_succ]
              refine wpAnyH_take (i := 12) (oi := _) (v := ?m65_v) rfl (by kernel_rfl) (by kernel_rfl) (by kernel_rfl) (fun _ _ _ h => h) (Or.inl ⟨by kernel_rfl, ?m65_h⟩) hHeld ?m65_r
              case m65_h => (intro w hSw; (try dsimp only at hSw); go_simp; try with_reducible rfl)
              try simp only [Act.put, List.getElem_toArray, List.getElem_cons_succ, List.getElem_cons_zero, List.setIfInBounds_toArray, List.set_cons_zero, List.set_cons_succ]
              refine wpAnyH_ready (rs := [13]) (by kernel_rfl) (by simp) ?_
              refine (AllReadyH.cons (o := _) rfl (fun K hK => ?_) AllReadyH.nil)
              go_simp
              refine (hT.out.store y1 y2 _ _ rfl rfl).mono ?_
              rintro _ W7 ⟨rfl, S1, hT2, kn⟩
              replace hst := Lib.hid (hst.out.trans kn)
              replace hX2 := Lib.hid (hX2.out.steps kn)
              replace hB1 := Lib.hid (hB1.out.steps kn)
              replace hB2 := Lib.hid (hB2.out.steps kn)
              replace hT := Lib.hid hT2
              clear kn hT2
              refine hK.out _ _ (⟨hB1.out.cell 0 _ rfl, hB1.out.cell 1 _ rfl, hB2.out.cell 0 _ rfl, hB2.out.cell 1 _ rfl, (View.cellP hX2.out.2.2.2.at.2.2.2.2.2 k (y1, y2) HYK.out).1, (View.cellP hX2.out.2.2.2.at.2.2.2.2.2 k (y1, y2) HYK.out).2⟩) (fun hHeld => ?_)
              clear hK K
              try simp only [Act.put, List.getElem_toArray, List.getElem_cons_succ, List.getElem_cons_zero, List.setIfInBounds_toArray, List.set_cons_zero, List.set_cons_succ]
              refine wpAnyH_done (by kernel_rfl) ?_ _
              clear hHeld
              have c_B1_0 := hB1.out.cell 0 _ rfl
              have f_B1_0 := hB1.out.frz 0
              have c_B1_1 := hB1.out.cell 1 _ rfl
              have f_B1_1 := hB1.out.frz 1
              have l_B1 := hB1.out.lt
              have c_B2_0 := hB2.out.cell 0 _ rfl
              have f_B2_0 := hB2.out.frz 0
              have c_B2_1 := hB2.out.cell 1 _ rfl
              have f_B2_1 := hB2.out.frz 1
              have l_B2 := hB2.out.lt
              have e_0 := (View.cellP hX2.out.2.2.2.at.2.2.2.2.2 k (y1, y2) HYK.out).1
              have e_1 := (View.cellP hX2.out.2.2.2.at.2.2.2.2.2 k (y1, y2) HYK.out).2
              have l_gq := hX2.out.2.2.2.at.2.2.2.1
              go_wp2_with fail
              clear c_B1_0 f_B1_0 c_B1_1 f_B1_1 l_B1 c_B2_0 f_B2_0 c_B2_1 f_B2_1 l_B2 e_0 e_1 l_gq
              go_roundw
              case rel => exact ⟨k + 1, _, by omega, by go_num, hst, Lib.hid (by rw [thP_take HYK.out, txLoad_stF, HW.out.2]; exact hT.out), hX2, hB1, hB2⟩
              case measure => simp [intOf]; omega
            · skip
              have c_B1_0 := hB1.out.cell 0 _ rfl
              have f_B1_0 := hB1.out.frz 0
              have c_B1_1 := hB1.out.cell 1 _ rfl
              have f_B1_1 := hB1.out.frz 1
              have l_B1 := hB1.out.lt
              have c_B2_0 := hB2.out.cell 0 _ rfl
              have f_B2_0 := hB2.out.frz 0
              have c_B2_1 := hB2.out.cell 1 _ rfl
              have f_B2_1 := hB2.out.frz 1
              have l_B2 := hB2.out.lt
              go_wp2_with fail
              clear c_B1_0 f_B1_0 c_B1_1 f_B1_1 l_B1 c_B2_0 f_B2_0 c_B2_1 f_B2_1 l_B2
              obtain ⟨W6, hW6⟩ : ∃ W, W = wr.drew := ⟨_, rfl⟩
              replace hW6 := Lib.hid hW6
              have kn : Keeps Nil wr W6 := by rw [hW6.out]; exact keeps_drew _
              replace hst := Lib.hid (hst.out.nil kn)
              replace hX2 := Lib.hid (hX2.out.keeps_nil kn)
              replace hT := Lib.hid (hT.out.nil kn)
              replace hB1 := Lib.hid (hB1.out.nil kn)
              replace hB2 := Lib.hid (hB2.out.nil kn)
              clear kn
              refine wp_region_held_drew (S := fun w' => w'.cell? ⟨B2, 0, none⟩ = some (.slice (some ⟨ab, ao, none⟩) 600 ac) ∧ w'.cell? ⟨B2, 1, none⟩ = some (.slice a4 Q.length c4)) (by kernel_rfl) (by rw [← hW6.out]; exact ⟨hB2.out.cell 0 _ rfl, hB2.out.cell 1 _ rfl⟩) (fun hHeld => ?_)
              rw [← hW6.out] at hHeld ⊢
              refine wpAnyH_take (i := 0) (oi := _) (v := ?m66_v) rfl (by kernel_rfl) (by kernel_rfl) (by kernel_rfl) (fun _ _ _ h => h) (Or.inl ⟨by kernel_rfl, ?m66_h⟩) hHeld ?m66_r
              case m66_h => (intro w hSw; (try dsimp only at hSw); go_simp; try with_reducible rfl)
              try simp only [Act.put, List.getElem_toArray, List.getElem_cons_succ, List.getElem_cons_zero, List.setIfInBounds_toArray, List.set_cons_zero, List.set_cons_succ]
              refine wpAnyH_take (i := 1) (oi := _) (v := ?m67_v) rfl (by kernel_rfl) (by kernel_rfl) (by kernel_rfl) (fun _ _ _ h => h) (Or.inl ⟨by kernel_rfl, ?m67_h⟩) hHeld ?m67_r
              case m67_h => (intro w hSw; (try dsimp only at hSw); go_simp; try with_reducible rfl)
              try simp only [Act.put, List.getElem_toArray, List.getElem_cons_succ, List.getElem_cons_zero, List.setIfInBounds_toArray, List.set_cons_zero, List.set_cons_succ]
              refine wpAnyH_take (i := 2) (oi := _) (v := ?m68_v) rfl (by kernel_rfl) (by kernel_rfl) (by kernel_rfl) (fun _ _ _ h => h) (Or.inl ⟨by kernel_rfl, ?m68_h⟩) hHeld ?m68_r
              case m68_h => (intro w hSw; (try dsimp only at hSw); go_simp; try with_reducible rfl)
              try simp only [Act.put, List.getElem_toArray, List.getElem_cons_succ, List.getElem_cons_zero, List.setIfInBounds_toArray, List.set_cons_zero, List.set_cons_succ]
              refine wpAnyH_ready (rs := [3]) (by kernel_rfl) (by simp) ?_
              refine (AllReadyH.cons (o := _) rfl (fun K hK => ?_) AllReadyH.nil)
              have c_B1_0 := hB1.out.cell 0 _ rfl
              have f_B1_0 := hB1.out.frz 0
              have c_B1_1 := hB1.out.cell 1 _ rfl
              have f_B1_1 := hB1.out.frz 1
              have l_B1 := hB1.out.lt
              have c_B2_0 := hB2.out.cell 0 _ rfl
              have f_B2_0 := hB2.out.frz 0
              have c_B2_1 := hB2.out.cell 1 _ rfl
              have f_B2_1 := hB2.out.frz 1
              have l_B2 := hB2.out.lt
              obtain ⟨W7, hW7⟩ : ∃ W, W = ((W6.setCell ⟨B1, 0, none⟩ (.slice (some ⟨ab, ao, none⟩) 600 ac)).setCell ⟨B1, 1, none⟩ (.slice a4 Q.length c4)) := ⟨_, rfl⟩
              replace hW7 := Lib.hid hW7
              go_simp
              clear c_B1_0 f_B1_0 c_B1_1 f_B1_1 l_B1 c_B2_0 f_B2_0 c_B2_1 f_B2_1 l_B2
              rw [← hW7.out]
              replace hX2 := Lib.hid (hX2.out.box hB1.out.1 (show Keeps (fun i => i = B1) W6 W7 by rw [hW7.out]; exact (keeps_setCell W6 ⟨B1, 0, none⟩ _).trans' (keeps_setCell _ ⟨B1, 1, none⟩ _)))
              replace hst := Lib.hid (show Step _ S2 w W7 by rw [hW7.out]; exact ((hst.out.set gB1.out _ _).set gB1.out _ _))
              replace hT := Lib.hid (show TxF W7 t (txLoad ws (thP ws (Q.take k))) 4800 S2 by rw [hW7.out]; exact ((hT.out.set hB1.out.2 _ _).set hB1.out.2 _ _))
              replace hB1 := Lib.hid (show Bx W7 S2 B1 #[.slice (some ⟨ab, ao, none⟩) 600 ac, .slice a4 Q.length c4] 28 by rw [hW7.out]; exact ((hB1.out.set _ _).set _ _))
              replace hB2 := Lib.hid (show Bx W7 S2 B2 #[.slice (some ⟨ab, ao, none⟩) 600 ac, .slice a4 Q.length c4] 28 by rw [hW7.out]; exact ((hB2.out.other (Nat.ne_of_gt nB1B2.out) _ _).other (Nat.ne_of_gt nB1B2.out) _ _))
              refine hK.out _ _ (⟨hB2.out.cell 0 _ rfl, hB2.out.cell 1 _ rfl⟩) (fun hHeld => ?_)
              clear hK K
              try simp only [Act.put, List.getElem_toArray, List.getElem_cons_succ, List.getElem_cons_zero, List.setIfInBounds_toArray, List.set_cons_zero, List.set_cons_succ]
              refine wpAnyH_done (by kernel_rfl) ?_ _
              clear hHeld
              have c_B1_0 := hB1.out.cell 0 _ rfl
              have f_B1_0 := hB1.out.frz 0
              have c_B1_1 := hB1.out.cell 1 _ rfl
              have f_B1_1 := hB1.out.frz 1
              have l_B1 := hB1.out.lt
              have c_B2_0 := hB2.out.cell 0 _ rfl
              have f_B2_0 := hB2.out.frz 0
              have c_B2_1 := hB2.out.cell 1 _ rfl
              have f_B2_1 := hB2.out.frz 1
              have l_B2 := hB2.out.lt
              go_wp2_with fail
              clear c_B1_0 f_B1_0 c_B1_1 f_B1_1 l_B1 c_B2_0 f_B2_0 c_B2_1 f_B2_1 l_B2
              refine bodyPost_ret (results_tmp_row rfl rfl hB1.out.1 Try.underlying28 rfl (by kernel_rfl)) rfl ?_
              have hq : thP ws (Q.take k) = Q := thP_full HG.out.2 (by omega)
              have hT9 := hT.out
              rw [hq] at hT9
              have hX9 := hX2.out
              exact ⟨t, ab, ao, ac, a4, c4, _, rfl, hT9, hX9, hst.out⟩
        · skip
          have c_B1_0 := hB1.out.cell 0 _ rfl
          have f_B1_0 := hB1.out.frz 0
          have c_B1_1 := hB1.out.cell 1 _ rfl
          have f_B1_1 := hB1.out.frz 1
          have l_B1 := hB1.out.lt
          have c_B2_0 := hB2.out.cell 0 _ rfl
          have f_B2_0 := hB2.out.frz 0
          have c_B2_1 := hB2.out.cell 1 _ rfl
          have f_B2_1 := hB2.out.frz 1
          have l_B2 := hB2.out.lt
          go_wp2_with fail
          clear c_B1_0 f_B1_0 c_B1_1 f_B1_1 l_B1 c_B2_0 f_B2_0 c_B2_1 f_B2_1 l_B2
          have c_B1_0 := hB1.out.cell 0 _ rfl
          have f_B1_0 := hB1.out.frz 0
          have c_B1_1 := hB1.out.cell 1 _ rfl
          have f_B1_1 := hB1.out.frz 1
          have l_B1 := hB1.out.lt
          have c_B2_0 := hB2.out.cell 0 _ rfl
          have f_B2_0 := hB2.out.frz 0
          have c_B2_1 := hB2.out.cell 1 _ rfl
          have f_B2_1 := hB2.out.frz 1
          have l_B2 := hB2.out.lt
          go_wp2_with fail
          clear c_B1_0 f_B1_0 c_B1_1 f_B1_1 l_B1 c_B2_0 f_B2_0 c_B2_1 f_B2_1 l_B2
          go_loopw [9] (fun i wr => ∃ (k : Nat) (S2 : Nat → Prop), k ≤ Q.length ∧ i = .int .i64 (k : Int) ∧ Hid (Step Nil S2 w wr) ∧ Hid (TxF wr t (txLoad ws (thP ws (Q.take k))) 4800 S2) ∧ Hid (TxV S2 wr (.slice (some ⟨ab, ao, none⟩) 600 ac) (.slice a4 Q.length c4) ws Q) ∧ Hid (Bx wr S2 B1 #[.slice none 0 0, .slice none 0 0] 28) ∧ Hid (Bx wr S2 B2 #[.slice (some ⟨ab, ao, none⟩) 600 ac, .slice a4 Q.length c4] 28)) (fun i _ => Q.length - (intOf i).toNat)
          case atStart => exact ⟨0, _, Nat.zero_le _, rfl, hst, hT, hX2, hB1, hB2⟩
          case round =>
            clear hst hT hX2 hB1 hB2
            obtain ⟨k, S2, hk, rfl, hst, hT, hX2, hB1, hB2⟩ := hrel
            by_cases hlt : k < Q.length
            · obtain ⟨gq, oq, cq, hvv, _, _, _, _, _⟩ := hX2.out.2.2.2.pos (by omega)
              simp only [Value.slice.injEq] at hvv
              obtain ⟨rfl, _, rfl⟩ := hvv
              obtain ⟨⟨y1, y2⟩, hy⟩ : ∃ y, Q[k]? = some y := ⟨Q[k]'(by omega), by simp⟩
              have HYK := Lib.hid hy
              clear hy
              have c_B1_0 := hB1.out.cell 0 _ rfl
              have f_B1_0 := hB1.out.frz 0
              have c_B1_1 := hB1.out.cell 1 _ rfl
              have f_B1_1 := hB1.out.frz 1
              have l_B1 := hB1.out.lt
              have c_B2_0 := hB2.out.cell 0 _ rfl
              have f_B2_0 := hB2.out.frz 0
              have c_B2_1 := hB2.out.cell 1 _ rfl
              have f_B2_1 := hB2.out.frz 1
              have l_B2 := hB2.out.lt
              have e_0 := (View.cellP hX2.out.2.2.2.at.2.2.2.2.2 k (y1, y2) HYK.out).1
              have e_1 := (View.cellP hX2.out.2.2.2.at.2.2.2.2.2 k (y1, y2) HYK.out).2
              have l_gq := hX2.out.2.2.2.at.2.2.2.1
              go_wp2_with fail
              clear c_B1_0 f_B1_0 c_B1_1 f_B1_1 l_B1 c_B2_0 f_B2_0 c_B2_1 f_B2_1 l_B2 e_0 e_1 l_gq
              obtain ⟨W6, hW6⟩ : ∃ W, W = wr.drew := ⟨_, rfl⟩
              replace hW6 := Lib.hid hW6
              have kn : Keeps Nil wr W6 := by rw [hW6.out]; exact keeps_drew _
              replace hst := Lib.hid (hst.out.nil kn)
              replace hX2 := Lib.hid (hX2.out.keeps_nil kn)
              replace hT := Lib.hid (hT.out.nil kn)
              replace hB1 := Lib.hid (hB1.out.nil kn)
              replace hB2 := Lib.hid (hB2.out.nil kn)
              clear kn
              refine wp_region_held_drew (S := fun w' => w'.cell? ⟨B1, 0, none⟩ = some (.slice none 0 0) ∧ w'.cell? ⟨B1, 1, none⟩ = some (.slice none 0 0) ∧ w'.cell? ⟨B2, 0, none⟩ = some (.slice (some ⟨ab, ao, none⟩) 600 ac) ∧ w'.cell? ⟨B2, 1, none⟩ = some (.slice (some ⟨gq, oq, none⟩) Q.length c4) ∧ w'.cell? ⟨gq, oq + k * 2, none⟩ = some (.int .u64 (y1.toNat : Int)) ∧ w'.cell? ⟨gq, oq + k * 2 + 1, none⟩ = some (.int .u64 (y2.toNat : Int))) (by kernel_rfl) (by rw [← hW6.out]; exact ⟨hB1.out.cell 0 _ rfl, hB1.out.cell 1 _ rfl, hB2.out.cell 0 _ rfl, hB2.out.cell 1 _ rfl, (View.cellP hX2.out.2.2.2.at.2.2.2.2.2 k (y1, y2) HYK.out).1, (View.cellP hX2.out.2.2.2.at.2.2.2.2.2 k (y1, y2) HYK.out).2⟩) (fun hHeld => ?_)
              rw [← hW6.out] at hHeld ⊢
              refine wpAnyH_take (i := 0) (oi := _) (v := ?m69_v) rfl (by kernel_rfl) (by kernel_rfl) (by kernel_rfl) (fun _ _ _ h => h) (Or.inl ⟨by kernel_rfl, ?m69_h⟩) hHeld ?m69_r
              case m69_h => (intro w hSw; (try dsimp only at hSw); go_simp; try with_reducible rfl)
              try simp only [Act.put, List.getElem_toArray, List.getElem_cons_succ, List.getElem_cons_zero, List.setIfInBounds_toArray, List.set_cons_zero, List.set_cons_succ]
              refine wpAnyH_take (i := 1) (oi := _) (v := ?m70_v) rfl (by kernel_rfl) (by kernel_rfl) (by kernel_rfl) (fun _ _ _ h => h) (Or.inl ⟨by kernel_rfl, ?m70_h⟩) hHeld ?m70_r
              case m70_h => (intro w hSw; (try dsimp only at hSw); go_simp; try with_reducible rfl)
              try simp only [Act.put, List.getElem_toArray, List.getElem_cons_succ, List.getElem_cons_zero, List.setIfInBounds_toArray, List.set_cons_zero, List.set_cons_succ]
              refine wpAnyH_take (i := 2) (oi := _) (v := ?m71_v) rfl (by kernel_rfl) (by kernel_rfl) (by kernel_rfl) (fun _ _ _ h => h) (Or.inl ⟨by kernel_rfl, ?m71_h⟩) hHeld ?m71_r
              case m71_h => (intro w hSw; (try dsimp only at hSw); go_simp; try with_reducible rfl)
              try simp only [Act.put, List.getElem_toArray, List.getElem_cons_succ, List.getElem_cons_zero, List.setIfInBounds_toArray, List.set_cons_zero, List.set_cons_succ]
              refine wpAnyH_take (i := 3) (oi := _) (v := ?m72_v) rfl (by kernel_rfl) (by kernel_rfl) (by kernel_rfl) (fun _ _ _ h => h) (Or.inl ⟨by kernel_rfl, ?m72_h⟩) hHeld ?m72_r
              case m72_h => (intro w hSw; (try dsimp only at hSw); go_simp; try with_reducible rfl)
              try simp only [Act.put, List.getElem_toArray, List.getElem_cons_succ, List.getElem_cons_zero, List.setIfInBounds_toArray, List.set_cons_zero, List.set_cons_succ]
              refine wpAnyH_take (i := 4) (oi := _) (v := ?m73_v) rfl (by kernel_rfl) (by kernel_rfl) (by kernel_rfl) (fun _ _ _ h => h) (Or.inl ⟨by kernel_rfl, ?m73_h⟩) hHeld ?m73_r
              case m73_h => (intro w hSw; (try dsimp only at hSw); go_simp; try with_reducible rfl)
              try simp only [Act.put, List.getElem_toArray, List.getElem_cons_succ, List.getElem_cons_zero, List.setIfInBounds_toArray, List.set_cons_zero, List.set_cons_succ]
              refine wpAnyH_take (i := 5) (oi := _) (v := ?m74_v) rfl (by kernel_rfl) (by kernel_rfl) (by kernel_rfl) (fun _ _ _ h => h) (Or.inl ⟨by kernel_rfl, ?m74_h⟩) hHeld ?m74_r
              case m74_h => (intro w hSw; (try dsimp only at hSw); go_simp; try with_reducible rfl)
              try simp only [Act.put, List.getElem_toArray, List.getElem_cons_succ, List.getElem_cons_zero, List.setIfInBounds_toArray, List.set_cons_zero, List.set_cons_succ]
              refine wpAnyH_take (i := 6) (oi := _) (v := ?m75_v) rfl (by kernel_rfl) (by kernel_rfl) (by kernel_rfl) (fun _ _ _ h => h) (Or.inl ⟨by kernel_rfl, ?m75_h⟩) hHeld ?m75_r
              case m75_h => (intro w hSw; (try dsimp only at hSw); go_simp; try with_reducible rfl)
              try simp only [Act.put, List.getElem_toArray, List.getElem_cons_succ, List.getElem_cons_zero, List.setIfInBounds_toArray, List.set_cons_zero, List.set_cons_succ]
              refine wpAnyH_take (i := 7) (oi := _) (v := ?m76_v) rfl (by kernel_rfl) (by kernel_rfl) (by kernel_rfl) (fun _ _ _ h => h) (Or.inl ⟨by kernel_rfl, ?m76_h⟩) hHeld ?m76_r
              case m76_h => (intro w hSw; (try dsimp only at hSw); go_simp; try with_reducible rfl)
              try simp only [Act.put, List.getElem_toArray, List.getElem_cons_succ, List.getElem_cons_zero, List.setIfInBounds_toArray, List.set_cons_zero, List.set_cons_succ]
              refine wpAnyH_take (i := 8) (oi := _) (v := ?m77_v) rfl (by kernel_rfl) (by kernel_rfl) (by kernel_rfl) (fun _ _ _ h => h) (Or.inl ⟨by kernel_rfl, ?m77_h⟩) hHeld ?m77_r
              case m77_h => (intro w hSw; (try dsimp only at hSw); go_simp; try with_reducible rfl)
              try simp only [Act.put, List.getElem_toArray, List.getElem_cons_succ, List.getElem_cons_zero, List.setIfInBounds_toArray, List.set_cons_zero, List.set_cons_succ]
              refine wpAnyH_take (i := 9) (oi := _) (v := ?m78_v) rfl (by kernel_rfl) (by kernel_rfl) (by kernel_rfl) (fun _ _ _ h => h) (Or.inl ⟨by kernel_rfl, ?m78_h⟩) hHeld ?m78_r
              case m78_h => (intro w hSw; (try dsimp only at hSw); go_simp; try with_reducible rfl)
              try simp only [Act.put, List.getElem_toArray, List.getElem_cons_succ, List.getElem_cons_zero, List.setIfInBounds_toArray, List.set_cons_zero, List.set_cons_succ]
              refine wpAnyH_take (i := 10) (oi := _) (v := ?m79_v) rfl (by kernel_rfl) (by kernel_rfl) (by kernel_rfl) (fun _ _ _ h => h) (Or.inl ⟨by kernel_rfl, ?m79_h⟩) hHeld ?m79_r
              case m79_h => (intro w hSw; (try dsimp only at hSw); go_simp; try with_reducible rfl)
              try simp only [Act.put, List.getElem_toArray, List.getElem_cons_succ, List.getElem_cons_zero, List.setIfInBounds_toArray, List.set_cons_zero, List.set_cons_succ]
              refine wpAnyH_take (i := 11) (oi := _) (v := ?m80_v) rfl (by kernel_rfl) (by kernel_rfl) (by kernel_rfl) (fun _ _ _ h => h) (Or.inl ⟨by kernel_rfl, ?m80_h⟩) hHeld ?m80_r
              case m80_h => (intro w hSw; (try dsimp only at hSw); go_simp; try with_reducible rfl)
              try simp only [Act.put, List.getElem_toArray, List.getElem_cons_succ, List.getElem_cons_zero, List.setIfInBounds_toArray, List.set_cons_zero, List.set_cons_succ]
              refine wpAnyH_take (i := 12) (oi := _) (v := ?m81_v) rfl (by kernel_rfl) (by kernel_rfl) (by kernel_rfl) (fun _ _ _ h => h) (Or.inl ⟨by kernel_rfl, ?m81_h⟩) hHeld ?m81_r
              case m81_h => (intro w hSw; (try dsimp only at hSw); go_simp; try with_reducible rfl)
              try simp only [Act.put, List.getElem_toArray, List.getElem_cons_succ, List.getElem_cons_zero, List.setIfInBounds_toArray, List.set_cons_zero, List.set_cons_succ]
              refine wpAnyH_ready (rs := [13]) (by kernel_rfl) (by simp) ?_
              refine (AllReadyH.cons (o := _) rfl (fun K hK => ?_) AllReadyH.nil)
              go_simp
              refine (hT.out.store y1 y2 _ _ rfl rfl).mono ?_
              rintro _ W7 ⟨rfl, S1, hT2, kn⟩
              replace hst := Lib.hid (hst.out.trans kn)
              replace hX2 := Lib.hid (hX2.out.steps kn)
              replace hB1 := Lib.hid (hB1.out.steps kn)
              replace hB2 := Lib.hid (hB2.out.steps kn)
              replace hT := Lib.hid hT2
              clear kn hT2
              refine hK.out _ _ (⟨hB1.out.cell 0 _ rfl, hB1.out.cell 1 _ rfl, hB2.out.cell 0 _ rfl, hB2.out.cell 1 _ rfl, (View.cellP hX2.out.2.2.2.at.2.2.2.2.2 k (y1, y2) HYK.out).1, (View.cellP hX2.out.2.2.2.at.2.2.2.2.2 k (y1, y2) HYK.out).2⟩) (fun hHeld => ?_)
              clear hK K
              try simp only [Act.put, List.getElem_toArray, List.getElem_cons_succ, List.getElem_cons_zero, List.setIfInBounds_toArray, List.set_cons_zero, List.set_cons_succ]
              refine wpAnyH_done (by kernel_rfl) ?_ _
              clear hHeld
              have c_B1_0 := hB1.out.cell 0 _ rfl
              have f_B1_0 := hB1.out.frz 0
              have c_B1_1 := hB1.out.cell 1 _ rfl
              have f_B1_1 := hB1.out.frz 1
              have l_B1 := hB1.out.lt
              have c_B2_0 := hB2.out.cell 0 _ rfl
              have f_B2_0 := hB2.out.frz 0
              have c_B2_1 := hB2.out.cell 1 _ rfl
              have f_B2_1 := hB2.out.frz 1
              have l_B2 := hB2.out.lt
              have e_0 := (View.cellP hX2.out.2.2.2.at.2.2.2.2.2 k (y1, y2) HYK.out).1
              have e_1 := (View.cellP hX2.out.2.2.2.at.2.2.2.2.2 k (y1, y2) HYK.out).2
              have l_gq := hX2.out.2.2.2.at.2.2.2.1
              go_wp2_with fail
              clear c_B1_0 f_B1_0 c_B1_1 f_B1_1 l_B1 c_B2_0 f_B2_0 c_B2_1 f_B2_1 l_B2 e_0 e_1 l_gq
              go_roundw
              case rel => exact ⟨k + 1, _, by omega, by go_num, hst, Lib.hid (by rw [thP_take HYK.out, txLoad_stF, HW.out.2]; exact hT.out), hX2, hB1, hB2⟩
              case measure => simp [intOf]; omega
            · skip
              have c_B1_0 := hB1.out.cell 0 _ rfl
              have f_B1_0 := hB1.out.frz 0
              have c_B1_1 := hB1.out.cell 1 _ rfl
              have f_B1_1 := hB1.out.frz 1
              have l_B1 := hB1.out.lt
              have c_B2_0 := hB2.out.cell 0 _ rfl
              have f_B2_0 := hB2.out.frz 0
              have c_B2_1 := hB2.out.cell 1 _ rfl
              have f_B2_1 := hB2.out.frz 1
              have l_B2 := hB2.out.lt
              go_wp2_with fail
              clear c_B1_0 f_B1_0 c_B1_1 f_B1_1 l_B1 c_B2_0 f_B2_0 c_B2_1 f_B2_1 l_B2
              obtain ⟨W6, hW6⟩ : ∃ W, W = wr.drew := ⟨_, rfl⟩
              replace hW6 := Lib.hid hW6
              have kn : Keeps Nil wr W6 := by rw [hW6.out]; exact keeps_drew _
              replace hst := Lib.hid (hst.out.nil kn)
              replace hX2 := Lib.hid (hX2.out.keeps_nil kn)
              replace hT := Lib.hid (hT.out.nil kn)
              replace hB1 := Lib.hid (hB1.out.nil kn)
              replace hB2 := Lib.hid (hB2.out.nil kn)
              clear kn
              refine wp_region_held_drew (S := fun w' => w'.cell? ⟨B2, 0, none⟩ = some (.slice (some ⟨ab, ao, none⟩) 600 ac) ∧ w'.cell? ⟨B2, 1, none⟩ = some (.slice a4 Q.length c4)) (by kernel_rfl) (by rw [← hW6.out]; exact ⟨hB2.out.cell 0 _ rfl, hB2.out.cell 1 _ rfl⟩) (fun hHeld => ?_)
              rw [← hW6.out] at hHeld ⊢
              refine wpAnyH_take (i := 0) (oi := _) (v := ?m82_v) rfl (by kernel_rfl) (by kernel_rfl) (by kernel_rfl) (fun _ _ _ h => h) (Or.inl ⟨by kernel_rfl, ?m82_h⟩) hHeld ?m82_r
              case m82_h => (intro w hSw; (try dsimp only at hSw); go_simp; try with_reducible rfl)
              try simp only [Act.put, List.getElem_toArray, List.getElem_cons_succ, List.getElem_cons_zero, List.setIfInBounds_toArray, List.set_cons_zero, List.set_cons_succ]
              refine wpAnyH_take (i := 1) (oi := _) (v := ?m83_v) rfl (by kernel_rfl) (by kernel_rfl) (by kernel_rfl) (fun _ _ _ h => h) (Or.inl ⟨by kernel_rfl, ?m83_h⟩) hHeld ?m83_r
              case m83_h => (intro w hSw; (try dsimp only at hSw); go_simp; try with_reducible rfl)
              try simp only [Act.put, List.getElem_toArray, List.getElem_cons_succ, List.getElem_cons_zero, List.setIfInBounds_toArray, List.set_cons_zero, List.set_cons_succ]
              refine wpAnyH_take (i := 2) (oi := _) (v := ?m84_v) rfl (by kernel_rfl) (by kernel_rfl) (by kernel_rfl) (fun _ _ _ h => h) (Or.inl ⟨by kernel_rfl, ?m84_h⟩) hHeld ?m84_r
              case m84_h => (intro w hSw; (try dsimp only at hSw); go_simp; try with_reducible rfl)
              try simp only [Act.put, List.getElem_toArray, List.getElem_cons_succ, List.getElem_cons_zero, List.setIfInBounds_toArray, List.set_cons_zero, List.set_cons_succ]
              refine wpAnyH_ready (rs := [3]) (by kernel_rfl) (by simp) ?_
              refine (AllReadyH.cons (o := _) rfl (fun K hK => ?_) AllReadyH.nil)
              have c_B1_0 := hB1.out.cell 0 _ rfl
              have f_B1_0 := hB1.out.frz 0
              have c_B1_1 := hB1.out.cell 1 _ rfl
              have f_B1_1 := hB1.out.frz 1
              have l_B1 := hB1.out.lt
              have c_B2_0 := hB2.out.cell 0 _ rfl
              have f_B2_0 := hB2.out.frz 0
              have c_B2_1 := hB2.out.cell 1 _ rfl
              have f_B2_1 := hB2.out.frz 1
              have l_B2 := hB2.out.lt
              obtain ⟨W7, hW7⟩ : ∃ W, W = ((W6.setCell ⟨B1, 0, none⟩ (.slice (some ⟨ab, ao, none⟩) 600 ac)).setCell ⟨B1, 1, none⟩ (.slice a4 Q.length c4)) := ⟨_, rfl⟩
              replace hW7 := Lib.hid hW7
              go_simp
              clear c_B1_0 f_B1_0 c_B1_1 f_B1_1 l_B1 c_B2_0 f_B2_0 c_B2_1 f_B2_1 l_B2
              rw [← hW7.out]
              replace hX2 := Lib.hid (hX2.out.box hB1.out.1 (show Keeps (fun i => i = B1) W6 W7 by rw [hW7.out]; exact (keeps_setCell W6 ⟨B1, 0, none⟩ _).trans' (keeps_setCell _ ⟨B1, 1, none⟩ _)))
              replace hst := Lib.hid (show Step _ S2 w W7 by rw [hW7.out]; exact ((hst.out.set gB1.out _ _).set gB1.out _ _))
              replace hT := Lib.hid (show TxF W7 t (txLoad ws (thP ws (Q.take k))) 4800 S2 by rw [hW7.out]; exact ((hT.out.set hB1.out.2 _ _).set hB1.out.2 _ _))
              replace hB1 := Lib.hid (show Bx W7 S2 B1 #[.slice (some ⟨ab, ao, none⟩) 600 ac, .slice a4 Q.length c4] 28 by rw [hW7.out]; exact ((hB1.out.set _ _).set _ _))
              replace hB2 := Lib.hid (show Bx W7 S2 B2 #[.slice (some ⟨ab, ao, none⟩) 600 ac, .slice a4 Q.length c4] 28 by rw [hW7.out]; exact ((hB2.out.other (Nat.ne_of_gt nB1B2.out) _ _).other (Nat.ne_of_gt nB1B2.out) _ _))
              refine hK.out _ _ (⟨hB2.out.cell 0 _ rfl, hB2.out.cell 1 _ rfl⟩) (fun hHeld => ?_)
              clear hK K
              try simp only [Act.put, List.getElem_toArray, List.getElem_cons_succ, List.getElem_cons_zero, List.setIfInBounds_toArray, List.set_cons_zero, List.set_cons_succ]
              refine wpAnyH_done (by kernel_rfl) ?_ _
              clear hHeld
              have c_B1_0 := hB1.out.cell 0 _ rfl
              have f_B1_0 := hB1.out.frz 0
              have c_B1_1 := hB1.out.cell 1 _ rfl
              have f_B1_1 := hB1.out.frz 1
              have l_B1 := hB1.out.lt
              have c_B2_0 := hB2.out.cell 0 _ rfl
              have f_B2_0 := hB2.out.frz 0
              have c_B2_1 := hB2.out.cell 1 _ rfl
              have f_B2_1 := hB2.out.frz 1
              have l_B2 := hB2.out.lt
              go_wp2_with fail
              clear c_B1_0 f_B1_0 c_B1_1 f_B1_1 l_B1 c_B2_0 f_B2_0 c_B2_1 f_B2_1 l_B2
              refine bodyPost_ret (results_tmp_row rfl rfl hB1.out.1 Try.underlying28 rfl (by kernel_rfl)) rfl ?_
              have hq : thP ws (Q.take k) = Q := thP_full HG.out.2 (by omega)
              have hT9 := hT.out
              rw [hq] at hT9
              have hX9 := hX2.out
              exact ⟨t, ab, ao, ac, a4, c4, _, rfl, hT9, hX9, hst.out⟩
end Go.Proofs.Ytccllkgaakmdhaa
