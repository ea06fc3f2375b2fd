/- Laid07: merged. -/
import Derived.Test.YtefpbljekfkefaaGreatM25
import Derived.Test.YtefpbljekfkefaaGreatM16
import Derived.Test.YtefpbljekfkefaaGreatM17
import Derived.Test.YtefpbljekfkefaaGreatM14
/- carracklaw07.laid: blocks laid in a formatted segment, in both ways. -/
namespace Go.Proofs.YtefpbljekfkefaaGreat
open Go.RowKit

theorem Look.take {α : Type} {K : Kind α} {w : World} {a : Option Addr} {n c m : Nat} {l : List α} (h : Look K w (.slice a n c) l) (hm : m ≤ l.length) : Look K w (.slice a m c) (l.take m) := by
  by_cases h0 : m = 0
  · subst h0; exact .inr ⟨⟨a, c, rfl⟩, rfl⟩
  · obtain ⟨b, off, cap, e, h1, h2, h3, h4, h5⟩ := h.pos (by omega)
    simp only [Value.slice.injEq] at e
    obtain ⟨rfl, rfl, rfl⟩ := e
    have hl : (l.take m).length = m := by rw [List.length_take]; omega
    refine .inl (.inr ⟨b, off, c, by rw [hl], by rw [hl]; omega, h2, h3, h4, fun i j hj hi => ?_⟩)
    rw [h5 i j hj (by omega), List.getElem?_take_of_lt (by omega)]
/-- what is thought of behind stores, on top of what is -/
def thQ (ws : List UInt64) (l : List Put) (k : List Put) : List Put := k.foldl (fun acc x => txStore ws acc x.1 x.2) l
theorem thQ_take {ws : List UInt64} {l k : List Put} {i : Nat} {x : Put} (h : k[i]? = some x) : thQ ws l (k.take (i + 1)) = txStore ws (thQ ws l (k.take i)) x.1 x.2 := by rw [take_succ' h]; simp [thQ]
theorem GoodP.thQ {ws : List UInt64} {l : List Put} (h : GoodP ws l) (k : List Put) : GoodP ws (thQ ws l k) := GoodP.fold k h
theorem GoodP.lay {ws : List UInt64} {e : UInt64} : ∀ (ps : List PieceV) {l : List Put} {off : UInt64}, GoodP ws l → GoodP ws (layP ws e ps l off).1
  | [], _, _, h => h
  | p :: ps, l, off, h => by
    unfold layP; split
    · exact h
    · exact GoodP.lay ps (h.pc off p)
theorem GoodP.layAll {ws : List UInt64} {l : List Put} (h : GoodP ws l) (ps : List PieceV) : GoodP ws (layAll ws l ps) := (GoodP.lay ps h).write _ _
/-- what is thought of, where blocks are laid, and then other words -/
def laidP (ws : List UInt64) (ps : List PieceV) (ks : List Put) : List Put := thQ ws (layAll ws [] (ps.take 20)) (ks.take 10)
theorem good_laid (ws : List UInt64) (ps : List PieceV) (ks : List Put) : GoodP ws (laidP ws ps ks) := ((GoodP.nil ws).layAll _).thQ _
/-- what is stored once each, in turn, is thought of so -/
theorem thP_self_aux {ws : List UInt64} (hb : List Put) : ∀ (acc : List Put), (keysP (acc ++ hb)).Nodup → (∀ x ∈ hb, inB ws x.1 = true) → hb.foldl (fun acc x => txStore ws acc x.1 x.2) acc = acc ++ hb := by
  induction hb with
  | nil => intro acc _ _; simp
  | cons x hb ih =>
    intro acc hn hi
    have h1 : txStore ws acc x.1 x.2 = acc ++ [x] := by
      unfold txStore
      rw [if_pos (hi x (by simp)), storeP_new (loadP_none.2 (fun hm => by
        simp only [keysP, List.map_append, List.map_cons] at hn
        exact (List.nodup_append.1 hn).2.2 x.1 hm x.1 (by simp) rfl))]
    rw [List.foldl_cons, h1, ih (acc ++ [x]) (by simpa using hn) (fun y hy => hi y (by simp [hy]))]
    simp
theorem thP_self {ws : List UInt64} {l : List Put} (h : GoodP ws l) : thP ws l = l := by
  have := thP_self_aux l [] (by simpa using h.1) h.2
  simpa [thP] using this
theorem thP_full {ws : List UInt64} {l : List Put} {k : Nat} (h : GoodP ws l) (hk : l.length ≤ k) : thP ws (l.take k) = l := by rw [List.take_of_length_le hk, thP_self h]

theorem formedF07 {w : World} {vl : Value} {l : List Put} (size : UInt64) (h : Look kP w vl l) (x : Int) (hx : x = (size.toNat : Int)) :
    Calls Tryz.prog 100 #[.int .u64 x, vl] w fun e w' =>
      ∃ t ab ao ac a2 c2 S, e = .returned (.tuple #[.pointer (some ⟨t, 0, none⟩), .agg #[.slice (some ⟨ab, ao, none⟩) 600 ac, .slice a2 (thP (formW size) (l.take 60)).length c2]]) ∧
        TxF w' t (txLoad (formW size) (thP (formW size) (l.take 60))) 4800 S ∧ TxV S w' (.slice (some ⟨ab, ao, none⟩) 600 ac) (.slice a2 (thP (formW size) (l.take 60)).length c2) (formW size) (thP (formW size) (l.take 60)) ∧ Step Nil S w w' := by
  refine (formed07' size h x hx).mono ?_
  rintro e w' ⟨s, t, ab, ao, ac, a2, n2, c2, rfl, L⟩
  obtain ⟨S, h1, h2, h3⟩ := L.txF (good_thP _ _)
  obtain ⟨a, c, e⟩ := h3.valB
  cases e
  have hl := formW_length size
  rw [hl] at h1
  exact ⟨t, ab, ao, ac, a2, c2, S, rfl, h1, h3, h2⟩
theorem formedN07 {w : World} (size : UInt64) (x : Int) (hx : x = (size.toNat : Int)) :
    Calls Tryz.prog 100 #[.int .u64 x, .slice none 0 0] w fun e w' =>
      ∃ t ab ao ac a2 c2 S, e = .returned (.tuple #[.pointer (some ⟨t, 0, none⟩), .agg #[.slice (some ⟨ab, ao, none⟩) 600 ac, .slice a2 0 c2]]) ∧
        TxF w' t (txLoad (formW size) []) 4800 S ∧ TxV S w' (.slice (some ⟨ab, ao, none⟩) 600 ac) (.slice a2 0 c2) (formW size) [] ∧ Step Nil S w w' := formedF07 (l := []) size Look.nil x hx

section
variable {P : Program} {fn : Func} {tmps : Array Value} {w : World} {p u v : Tmp} {ty : TypeId} {g : Nat} {t : TypeId} {cs : Array Value} {fr : Nat × Nat} {d : TypeDesc}
theorem results_tmp_row_tmp (h : fn.results = #[.tmp u, .cell p ty, .tmp v]) (ht : tmps.getD p undef = .pointer (some ⟨g, 0, none⟩)) (hg : w.heap[g]? = some (.cells cs t fr))
    (hu : P.underlying ty = some d) (hd : (match d with | .struct _ | .array _ _ => true | _ => false) = true) (hi : (P.info? ty).map (·.size) = some cs.size) : (results fn tmps).run P w = .ok (.tuple #[tmps.getD u undef, .agg cs, tmps.getD v undef]) w := by
  have hr := run_loadVar_row (P := P) w g t ty cs fr d hg hu hd hi
  have ht' : tmps[p]?.getD undef = .pointer (some ⟨g, 0, none⟩) := by simpa using ht
  simp only [results, h]
  simp [Result.andThen, ht', asAddr, hr]
end
/-- where the blocks stand that nobody uses -/
def freeOf (L : List BlockV) : List UInt64 := (L.filter (fun b => !b.tag.used)).map (·.off)
theorem freeOf_add (L : List BlockV) (b : BlockV) : freeOf (L ++ [b]) = if b.tag.used then freeOf L else freeOf L ++ [b.off] := by
  unfold freeOf
  rw [List.filter_append, List.map_append]
  cases h : b.tag.used <;> simp [h]
/-- what is told where blocks are laid, and the blocks -/
def layF (ps : List PieceV) : UInt64 → UInt64 := txLoad (formW 4800) (layAll (formW 4800) [] (ps.take 20))
def freeL (ps : List PieceV) : List UInt64 := freeOf (walkL 4800 (layF ps))
theorem RowL.short {L : List BlockV} {e : UInt64} (h : RowL L e) (hne : L ≠ []) : 3776 + 48 * L.length ≤ e.toNat := by
  have hN0 : 0 < L.length := List.length_pos_iff.2 hne
  obtain ⟨x, hx⟩ : ∃ x, L[L.length - 1]? = some x := ⟨L[L.length - 1]'(by omega), by simp⟩
  have key : ∀ k, ∀ x, L[k]? = some x → 3776 + 48 * k ≤ x.off.toNat := by
    intro k
    induction k with
    | zero => intro x hx; have := (h.at_ 0 x hx).2.2.2.2.1; omega
    | succ k ih =>
      intro x hx
      have hkl := (List.getElem?_eq_some_iff.1 hx).1
      obtain ⟨z, hz⟩ : ∃ z, L[k]? = some z := ⟨L[k]'(by omega), by simp⟩
      have h1 := ih z hz
      have h2 := h.below 0 k hz hx
      have h3 := (h.at_ k z hz).2.2.1
      omega
  have h1 := key _ x hx
  have h2 := (h.at_ _ x hx).2.2.2.2.2
  have h3 := (h.at_ _ x hx).2.2.1
  omega
theorem View.toB7 {S : Nat → Prop} {w : World} {v : Value} {l : List BlockV} (h : View kRB S w v l) : View kB S w v l := h

set_option maxRecDepth 100000 in
set_option maxHeartbeats 4000000 in
theorem laid07_any {w : World} {vl : Value} {ps : List PieceV} (hl : Look kPc w vl ps) :
    Calls Tryz.prog 44 #[vl] w fun e w' =>
      ∃ t ab ao ac a2 c2 vf S, e = .returned (.tuple #[.pointer (some ⟨t, 0, none⟩), .agg #[.slice (some ⟨ab, ao, none⟩) 600 ac, .slice a2 (layAll (formW 4800) [] (ps.take 20)).length c2], vf]) ∧
        TxF w' t (layF ps) 4800 S ∧ TxV S w' (.slice (some ⟨ab, ao, none⟩) 600 ac) (.slice a2 (layAll (formW 4800) [] (ps.take 20)).length c2) (formW 4800) (layAll (formW 4800) [] (ps.take 20)) ∧ View kU S w' vf (freeL ps) ∧ Step Nil S w w' := by
  obtain ⟨ws, hws⟩ : ∃ ws, ws = formW 4800 := ⟨_, rfl⟩
  have hwl : ws.length = 600 := by rw [hws]; exact formW_length _
  obtain ⟨P1, hP1⟩ : ∃ P, P = layAll ws [] (ps.take 20) := ⟨_, rfl⟩
  obtain ⟨f, hf⟩ : ∃ f, f = txLoad ws P1 := ⟨_, rfl⟩
  have hlf : layF ps = f := by unfold layF; rw [hf, hP1, hws]
  obtain ⟨L, hwb, hwL, hrow, hne, _, _, _⟩ := laid_walk (e := 4800) (by decide) (ps.take 20)
  rw [← hws, ← hP1, ← hf] at hwb hwL
  have hfl : freeL ps = freeOf L := by unfold freeL; rw [hlf, hwL]
  rw [← hws, ← hP1, hlf, hfl]
  have hsh := hrow.short hne
  clear hlf hfl hrow
  obtain ⟨al, cl, rfl, hlm⟩ := hl.val
  obtain ⟨N, hN⟩ : ∃ N, N = ps.length := ⟨_, rfl⟩
  rw [← hN] at hl ⊢
  obtain ⟨M, hM⟩ : ∃ M, M = L.length := ⟨_, rfl⟩
  have hM0 : 0 < M := by rw [hM]; exact List.length_pos_iff.2 hne
  have hg1 : GoodP ws P1 := by rw [hP1]; exact (GoodP.nil ws).layAll _
  have hlen1 : P1.length ≤ 600 := by rw [← hwl]; exact good_length hg1
  have hMm : M ≤ 4800 := by rw [hM]; have e : (4800 : UInt64).toNat = 4800 := rfl; omega
  clear hsh
  have HL := Lib.hid hl
  have HN := Lib.hid (And.intro hN hM)
  have HW := Lib.hid (And.intro hws hwl)
  have HP := Lib.hid (And.intro hP1 hf)
  have HG := Lib.hid hg1
  have HE := Lib.hid (And.intro hwb hwL)
  clear hl hlm hN hM hws hwl hP1 hf hg1 hwb hwL hne
  by_cases hlong : 20 < N
  · have hc20 : 20 ≤ cl := by
      obtain ⟨b, of, cap, e, h1, _⟩ := HL.out.pos (by have := HN.out.1; omega)
      simp only [Value.slice.injEq] at e
      have := HN.out.1; omega
    have HLL := Lib.hid (HL.out.take (m := 20) (by have := HN.out.1; omega))
    have hst := Lib.hid (Step.refl Nil w)
    go_enter Tryz.func44, Tryz.ntmps44
    obtain ⟨W1, hW1⟩ : ∃ W, W = w.alloc (.cells #[.slice none 0 0, .slice none 0 0] 71) := ⟨_, rfl⟩
    obtain ⟨B1, eB1⟩ : ∃ B, B = w.heap.size := ⟨_, rfl⟩
    replace hW1 := Lib.hid hW1
    replace eB1 := Lib.hid eB1
    go_wp2_with fail
    rw [← hW1.out]
    try rw [← eB1.out]
    have k1 : Keeps Nil w W1 := by rw [hW1.out]; exact alloc_keeps _ _
    have e0B1 : B1 = w.heap.size := by rw [eB1.out]
    have hB1 := Lib.hid (show Bx W1 Nil B1 #[.slice none 0 0, .slice none 0 0] 71 by rw [hW1.out]; exact Bx.new Nil.lt _ _ e0B1)
    have gB1 := Lib.hid (show w.heap.size ≤ B1 by rw [e0B1]; exact hst.out.keeps.size)
    replace hst := Lib.hid (hst.out.nil k1)
    clear k1 e0B1
    refine (formedN07 4800 _ (by rfl)).mono ?_
    rintro _ W2 ⟨t, ab, ao, ac, a2, c2, S1, rfl, hT, hX, kn⟩
    replace hT := Lib.hid hT
    replace hX := Lib.hid hX
    replace hT := hT.out; replace hX := hX.out
    rw [← HW.out.1] at hT hX
    replace hT := Lib.hid hT; replace hX := Lib.hid hX
    replace hst := Lib.hid (hst.out.trans kn)
    replace hB1 := Lib.hid (hB1.out.steps kn)
    clear kn
    have c_B1_0 := hB1.out.cell 0 _ rfl
    have f_B1_0 := hB1.out.frz 0
    have c_B1_1 := hB1.out.cell 1 _ rfl
    have f_B1_1 := hB1.out.frz 1
    have l_B1 := hB1.out.lt
    obtain ⟨W3, hW3⟩ : ∃ W, W = W2.alloc (.cells #[.slice (some ⟨ab, ao, none⟩) 600 ac, .slice a2 0 c2] 71) := ⟨_, rfl⟩
    obtain ⟨B2, eB2⟩ : ∃ B, B = W2.heap.size := ⟨_, rfl⟩
    replace hW3 := Lib.hid hW3
    replace eB2 := Lib.hid eB2
    go_wp2_with fail
    clear c_B1_0 f_B1_0 c_B1_1 f_B1_1 l_B1
    rw [← hW3.out]
    try rw [← eB2.out]
    have k2 : Keeps Nil W2 W3 := by rw [hW3.out]; exact alloc_keeps _ _
    have e0B2 : B2 = W2.heap.size := by rw [eB2.out]
    have hB2 := Lib.hid (show Bx W3 S1 B2 #[.slice (some ⟨ab, ao, none⟩) 600 ac, .slice a2 0 c2] 71 by rw [hW3.out]; exact Bx.new hT.out.lt _ _ e0B2)
    have gB2 := Lib.hid (show w.heap.size ≤ B2 by rw [e0B2]; exact hst.out.keeps.size)
    have nB1B2 := Lib.hid (show B1 < B2 by rw [e0B2]; exact hB1.out.lt)
    replace hst := Lib.hid (hst.out.nil k2)
    replace hX := Lib.hid (hX.out.keeps_nil k2)
    replace hT := Lib.hid (hT.out.nil k2)
    replace hB1 := Lib.hid (hB1.out.nil k2)
    clear k2 e0B2
    refine (rLay_any hX.out hT.out.lt (GoodP.nil ws) (HLL.out.keeps_nil hst.out.keeps)).mono ?_
    rintro _ W4 ⟨a3, c3, rfl, hv, kn⟩
    rw [← HP.out.1] at hv ⊢
    have hX1 := Lib.hid hv
    clear hv
    replace hst := Lib.hid (hst.out.nil kn)
    replace hX := Lib.hid (hX.out.keeps_nil kn)
    replace hT := Lib.hid (hT.out.nil kn)
    replace hB1 := Lib.hid (hB1.out.nil kn)
    replace hB2 := Lib.hid (hB2.out.nil kn)
    clear kn
    have c_B1_0 := hB1.out.cell 0 _ rfl
    have f_B1_0 := hB1.out.frz 0
    have c_B1_1 := hB1.out.cell 1 _ rfl
    have f_B1_1 := hB1.out.frz 1
    have l_B1 := hB1.out.lt
    have c_B2_0 := hB2.out.cell 0 _ rfl
    have f_B2_0 := hB2.out.frz 0
    have c_B2_1 := hB2.out.cell 1 _ rfl
    have f_B2_1 := hB2.out.frz 1
    have l_B2 := hB2.out.lt
    have ne_B1_B2 : (B1 = B2) = False := eq_false (Nat.ne_of_lt nB1B2.out)
    have ne_B2_B1 : (B2 = B1) = False := eq_false (Ne.symm (Nat.ne_of_lt nB1B2.out))
    obtain ⟨W5, hW5⟩ : ∃ W, W = ((W4.setCell ⟨B2, 0, none⟩ (.slice (some ⟨ab, ao, none⟩) 600 ac)).setCell ⟨B2, 1, none⟩ (.slice a3 P1.length c3)) := ⟨_, rfl⟩
    replace hW5 := Lib.hid hW5
    go_wp2_with fail
    clear c_B1_0 f_B1_0 c_B1_1 f_B1_1 l_B1 c_B2_0 f_B2_0 c_B2_1 f_B2_1 l_B2 ne_B1_B2 ne_B2_B1
    rw [← hW5.out]
    replace hX := Lib.hid (hX.out.box hB2.out.1 (show Keeps (fun i => i = B2) W4 W5 by rw [hW5.out]; exact (keeps_setCell W4 ⟨B2, 0, none⟩ _).trans' (keeps_setCell _ ⟨B2, 1, none⟩ _)))
    replace hX1 := Lib.hid (hX1.out.box hB2.out.1 (show Keeps (fun i => i = B2) W4 W5 by rw [hW5.out]; exact (keeps_setCell W4 ⟨B2, 0, none⟩ _).trans' (keeps_setCell _ ⟨B2, 1, none⟩ _)))
    replace hst := Lib.hid (show Step _ S1 w W5 by rw [hW5.out]; exact ((hst.out.set gB2.out _ _).set gB2.out _ _))
    replace hT := Lib.hid (show TxF W5 t (txLoad ws []) 4800 S1 by rw [hW5.out]; exact ((hT.out.set hB2.out.2 _ _).set hB2.out.2 _ _))
    replace hB1 := Lib.hid (show Bx W5 S1 B1 #[.slice none 0 0, .slice none 0 0] 71 by rw [hW5.out]; exact ((hB1.out.other (Nat.ne_of_lt nB1B2.out) _ _).other (Nat.ne_of_lt nB1B2.out) _ _))
    replace hB2 := Lib.hid (show Bx W5 S1 B2 #[.slice (some ⟨ab, ao, none⟩) 600 ac, .slice a3 P1.length c3] 71 by rw [hW5.out]; exact ((hB2.out.set _ _).set _ _))
    have c_B1_0 := hB1.out.cell 0 _ rfl
    have f_B1_0 := hB1.out.frz 0
    have c_B1_1 := hB1.out.cell 1 _ rfl
    have f_B1_1 := hB1.out.frz 1
    have l_B1 := hB1.out.lt
    have c_B2_0 := hB2.out.cell 0 _ rfl
    have f_B2_0 := hB2.out.frz 0
    have c_B2_1 := hB2.out.cell 1 _ rfl
    have f_B2_1 := hB2.out.frz 1
    have l_B2 := hB2.out.lt
    go_wp2_with fail
    clear c_B1_0 f_B1_0 c_B1_1 f_B1_1 l_B1 c_B2_0 f_B2_0 c_B2_1 f_B2_1 l_B2
    go_loopw [7] (fun i wr => ∃ (k : Nat) (S2 : Nat → Prop), k ≤ P1.length ∧ i = .int .i64 (k : Int) ∧ Hid (Step Nil S2 w wr) ∧ Hid (TxF wr t (txLoad ws (thP ws (P1.take k))) 4800 S2) ∧ Hid (TxV S2 wr (.slice (some ⟨ab, ao, none⟩) 600 ac) (.slice a3 P1.length c3) ws P1) ∧ Hid (Bx wr S2 B1 #[.slice none 0 0, .slice none 0 0] 71) ∧ Hid (Bx wr S2 B2 #[.slice (some ⟨ab, ao, none⟩) 600 ac, .slice a3 P1.length c3] 71)) (fun i _ => P1.length - (intOf i).toNat)
    case atStart => exact ⟨0, _, Nat.zero_le _, rfl, hst, hT, hX1, hB1, hB2⟩
    case round =>
      clear hst hT hX1 hB1 hB2
      obtain ⟨k, S2, hk, rfl, hst, hT, hX1, hB1, hB2⟩ := hrel
      by_cases hlt : k < P1.length
      · obtain ⟨gq, oq, cq, hvv, _, _, _, _, _⟩ := hX1.out.2.2.2.pos (by omega)
        simp only [Value.slice.injEq] at hvv
        obtain ⟨rfl, _, rfl⟩ := hvv
        obtain ⟨⟨y1, y2⟩, hy⟩ : ∃ y, P1[k]? = some y := ⟨P1[k]'(by omega), by simp⟩
        have HYK := Lib.hid hy
        clear hy
        have c_B1_0 := hB1.out.cell 0 _ rfl
        have f_B1_0 := hB1.out.frz 0
        have c_B1_1 := hB1.out.cell 1 _ rfl
        have f_B1_1 := hB1.out.frz 1
        have l_B1 := hB1.out.lt
        have c_B2_0 := hB2.out.cell 0 _ rfl
        have f_B2_0 := hB2.out.frz 0
        have c_B2_1 := hB2.out.cell 1 _ rfl
        have f_B2_1 := hB2.out.frz 1
        have l_B2 := hB2.out.lt
        have e_0 := (View.cellP hX1.out.2.2.2.at.2.2.2.2.2 k (y1, y2) HYK.out).1
        have e_1 := (View.cellP hX1.out.2.2.2.at.2.2.2.2.2 k (y1, y2) HYK.out).2
        have l_gq := hX1.out.2.2.2.at.2.2.2.1
        go_wp2_with fail
        clear c_B1_0 f_B1_0 c_B1_1 f_B1_1 l_B1 c_B2_0 f_B2_0 c_B2_1 f_B2_1 l_B2 e_0 e_1 l_gq
        obtain ⟨W6, hW6⟩ : ∃ W, W = wr.drew := ⟨_, rfl⟩
        replace hW6 := Lib.hid hW6
        have kn : Keeps Nil wr W6 := by rw [hW6.out]; exact keeps_drew _
        replace hst := Lib.hid (hst.out.nil kn)
        replace hX1 := Lib.hid (hX1.out.keeps_nil kn)
        replace hT := Lib.hid (hT.out.nil kn)
        replace hB1 := Lib.hid (hB1.out.nil kn)
        replace hB2 := Lib.hid (hB2.out.nil kn)
        clear kn
        refine wp_region_held_drew (S := fun w' => w'.cell? ⟨B1, 0, none⟩ = some (.slice none 0 0) ∧ w'.cell? ⟨B1, 1, none⟩ = some (.slice none 0 0) ∧ w'.cell? ⟨B2, 0, none⟩ = some (.slice (some ⟨ab, ao, none⟩) 600 ac) ∧ w'.cell? ⟨B2, 1, none⟩ = some (.slice (some ⟨gq, oq, none⟩) P1.length c3) ∧ w'.cell? ⟨gq, oq + k * 2, none⟩ = some (.int .u64 (y1.toNat : Int)) ∧ w'.cell? ⟨gq, oq + k * 2 + 1, none⟩ = some (.int .u64 (y2.toNat : Int))) (by kernel_rfl) (by rw [← hW6.out]; exact ⟨hB1.out.cell 0 _ rfl, hB1.out.cell 1 _ rfl, hB2.out.cell 0 _ rfl, hB2.out.cell 1 _ rfl, (View.cellP hX1.out.2.2.2.at.2.2.2.2.2 k (y1, y2) HYK.out).1, (View.cellP hX1.out.2.2.2.at.2.2.2.2.2 k (y1, y2) HYK.out).2⟩) (fun hHeld => ?_)
        rw [← hW6.out] at hHeld ⊢
        refine wpAnyH_take (i := 0) (oi := _) (v := ?m1_v) rfl (by kernel_rfl) (by kernel_rfl) (by kernel_rfl) (fun _ _ _ h => h) (Or.inl ⟨by kernel_rfl, ?m1_h⟩) hHeld ?m1_r
        case m1_h => (intro w hSw; (try dsimp only at hSw); go_simp; try with_reducible rfl)
        try simp only [Act.put, List.getElem_toArray, List.getElem_cons_zero, List.setIfInBounds_toArray, List.set_cons_zero, List.set_cons_succ]
        refine wpAnyH_take (i := 1) (oi := _) (v := ?m2_v) rfl (by kernel_rfl) (by kernel_rfl) (by kernel_rfl) (fun _ _ _ h => h) (Or.inl ⟨by kernel_rfl, ?m2_h⟩) hHeld ?m2_r
        case m2_h => (intro w hSw; (try dsimp only at hSw); go_simp; try with_reducible rfl)
        try simp only [Act.put, List.getElem_toArray, List.getElem_cons_succ, List.getElem_cons_zero, List.setIfInBounds_toArray, List.set_cons_zero, List.set_cons_succ]
        refine wpAnyH_take (i := 2) (oi := _) (v := ?m3_v) rfl (by kernel_rfl) (by kernel_rfl) (by kernel_rfl) (fun _ _ _ h => h) (Or.inl ⟨by kernel_rfl, ?m3_h⟩) hHeld ?m3_r
        case m3_h => (intro w hSw; (try dsimp only at hSw); go_simp; try with_reducible rfl)
        try simp only [Act.put, List.getElem_toArray, List.getElem_cons_succ, List.getElem_cons_zero, List.setIfInBounds_toArray, List.set_cons_zero, List.set_cons_succ]
        refine wpAnyH_take (i := 3) (oi := _) (v := ?m4_v) rfl (by kernel_rfl) (by kernel_rfl) (by kernel_rfl) (fun _ _ _ h => h) (Or.inl ⟨by kernel_rfl, ?m4_h⟩) hHeld ?m4_r
        case m4_h => (intro w hSw; (try dsimp only at hSw); go_simp; try with_reducible rfl)
        try simp only [Act.put, List.getElem_toArray, List.getElem_cons_succ, List.getElem_cons_zero, List.setIfInBounds_toArray, List.set_cons_zero, List.set_cons_succ]
        refine wpAnyH_take (i := 4) (oi := _) (v := ?m5_v) rfl (by kernel_rfl) (by kernel_rfl) (by kernel_rfl) (fun _ _ _ h => h) (Or.inl ⟨by kernel_rfl, ?m5_h⟩) hHeld ?m5_r
        case m5_h => (intro w hSw; (try dsimp only at hSw); go_simp; try with_reducible rfl)
        try simp only [Act.put, List.getElem_toArray, List.getElem_cons_succ, List.getElem_cons_zero, List.setIfInBounds_toArray, List.set_cons_zero, List.set_cons_succ]
        refine wpAnyH_take (i := 5) (oi := _) (v := ?m6_v) rfl (by kernel_rfl) (by kernel_rfl) (by kernel_rfl) (fun _ _ _ h => h) (Or.inl ⟨by kernel_rfl, ?m6_h⟩) hHeld ?m6_r
        case m6_h => (intro w hSw; (try dsimp only at hSw); go_simp; try with_reducible rfl)
        try simp only [Act.put, List.getElem_toArray, List.getElem_cons_succ, List.getElem_cons_zero, List.setIfInBounds_toArray, List.set_cons_zero, List.set_cons_succ]
        refine wpAnyH_take (i := 6) (oi := _) (v := ?m7_v) rfl (by kernel_rfl) (by kernel_rfl) (by kernel_rfl) (fun _ _ _ h => h) (Or.inl ⟨by kernel_rfl, ?m7_h⟩) hHeld ?m7_r
        case m7_h => (intro w hSw; (try dsimp only at hSw); go_simp; try with_reducible rfl)
        try simp only [Act.put, List.getElem_toArray, List.getElem_cons_succ, List.getElem_cons_zero, List.setIfInBounds_toArray, List.set_cons_zero, List.set_cons_succ]
        refine wpAnyH_take (i := 7) (oi := _) (v := ?m8_v) rfl (by kernel_rfl) (by kernel_rfl) (by kernel_rfl) (fun _ _ _ h => h) (Or.inl ⟨by kernel_rfl, ?m8_h⟩) hHeld ?m8_r
        case m8_h => (intro w hSw; (try dsimp only at hSw); go_simp; try with_reducible rfl)
        try simp only [Act.put, List.getElem_toArray, List.getElem_cons_succ, List.getElem_cons_zero, List.setIfInBounds_toArray, List.set_cons_zero, List.set_cons_succ]
        refine wpAnyH_take (i := 8) (oi := _) (v := ?m9_v) rfl (by kernel_rfl) (by kernel_rfl) (by kernel_rfl) (fun _ _ _ h => h) (Or.inl ⟨by kernel_rfl, ?m9_h⟩) hHeld ?m9_r
        case m9_h => (intro w hSw; (try dsimp only at hSw); go_simp; try with_reducible rfl)
        try simp only [Act.put, List.getElem_toArray, List.getElem_cons_succ, List.getElem_cons_zero, List.setIfInBounds_toArray, List.set_cons_zero, List.set_cons_succ]
        refine wpAnyH_take (i := 9) (oi := _) (v := ?m10_v) rfl (by kernel_rfl) (by kernel_rfl) (by kernel_rfl) (fun _ _ _ h => h) (Or.inl ⟨by kernel_rfl, ?m10_h⟩) hHeld ?m10_r
        case m10_h => (intro w hSw; (try dsimp only at hSw); go_simp; try with_reducible rfl)
        try simp only [Act.put, List.getElem_toArray, List.getElem_cons_succ, List.getElem_cons_zero, List.setIfInBounds_toArray, List.set_cons_zero, List.set_cons_succ]
        refine wpAnyH_take (i := 10) (oi := _) (v := ?m11_v) rfl (by kernel_rfl) (by kernel_rfl) (by kernel_rfl) (fun _ _ _ h => h) (Or.inl ⟨by kernel_rfl, ?m11_h⟩) hHeld ?m11_r
        case m11_h => (intro w hSw; (try dsimp only at hSw); go_simp; try with_reducible rfl)
        try simp only [Act.put, List.getElem_toArray, List.getElem_cons_succ, List.getElem_cons_zero, List.setIfInBounds_toArray, List.set_cons_zero, List.set_cons_succ]
        refine wpAnyH_take (i := 11) (oi := _) (v := ?m12_v) rfl (by kernel_rfl) (by kernel_rfl) (by kernel_rfl) (fun _ _ _ h => h) (Or.inl ⟨by kernel_rfl, ?m12_h⟩) hHeld ?m12_r
        case m12_h => (intro w hSw; (try dsimp only at hSw); go_simp; try with_reducible rfl)
        try simp only [Act.put, List.getElem_toArray, List.getElem_cons_succ, List.getElem_cons_zero, List.setIfInBounds_toArray, List.set_cons_zero, List.set_cons_succ]
        refine wpAnyH_take (i := 12) (oi := _) (v := ?m13_v) rfl (by kernel_rfl) (by kernel_rfl) (by kernel_rfl) (fun _ _ _ h => h) (Or.inl ⟨by kernel_rfl, ?m13_h⟩) hHeld ?m13_r
        case m13_h => (intro w hSw; (try dsimp only at hSw); go_simp; try with_reducible rfl)
        try simp only [Act.put, List.getElem_toArray, List.getElem_cons_succ, List.getElem_cons_zero, List.setIfInBounds_toArray, List.set_cons_zero, List.set_cons_succ]
        refine wpAnyH_ready (rs := [13]) (by kernel_rfl) (by simp) ?_
        refine (AllReadyH.cons (o := _) rfl (fun K hK => ?_) AllReadyH.nil)
        go_simp
        refine (hT.out.store y1 y2 _ _ rfl rfl).mono ?_
        rintro _ W7 ⟨rfl, S1, hT2, kn⟩
        replace hst := Lib.hid (hst.out.trans kn)
        replace hX1 := Lib.hid (hX1.out.steps kn)
        replace hB1 := Lib.hid (hB1.out.steps kn)
        replace hB2 := Lib.hid (hB2.out.steps kn)
        replace hT := Lib.hid hT2
        clear kn hT2
        refine hK.out _ _ (⟨hB1.out.cell 0 _ rfl, hB1.out.cell 1 _ rfl, hB2.out.cell 0 _ rfl, hB2.out.cell 1 _ rfl, (View.cellP hX1.out.2.2.2.at.2.2.2.2.2 k (y1, y2) HYK.out).1, (View.cellP hX1.out.2.2.2.at.2.2.2.2.2 k (y1, y2) HYK.out).2⟩) (fun hHeld => ?_)
        clear hK K
        try simp only [Act.put, List.getElem_toArray, List.getElem_cons_succ, List.getElem_cons_zero, List.setIfInBounds_toArray, List.set_cons_zero, List.set_cons_succ]
        refine wpAnyH_done (by kernel_rfl) ?_ _
        clear hHeld
        have c_B1_0 := hB1.out.cell 0 _ rfl
        have f_B1_0 := hB1.out.frz 0
        have c_B1_1 := hB1.out.cell 1 _ rfl
        have f_B1_1 := hB1.out.frz 1
        have l_B1 := hB1.out.lt
        have c_B2_0 := hB2.out.cell 0 _ rfl
        have f_B2_0 := hB2.out.frz 0
        have c_B2_1 := hB2.out.cell 1 _ rfl
        have f_B2_1 := hB2.out.frz 1
        have l_B2 := hB2.out.lt
        have e_0 := (View.cellP hX1.out.2.2.2.at.2.2.2.2.2 k (y1, y2) HYK.out).1
        have e_1 := (View.cellP hX1.out.2.2.2.at.2.2.2.2.2 k (y1, y2) HYK.out).2
        have l_gq := hX1.out.2.2.2.at.2.2.2.1
        go_wp2_with fail
        clear c_B1_0 f_B1_0 c_B1_1 f_B1_1 l_B1 c_B2_0 f_B2_0 c_B2_1 f_B2_1 l_B2 e_0 e_1 l_gq
        go_roundw
        case rel => exact ⟨k + 1, _, by omega, by go_num, hst, Lib.hid (by rw [thP_take HYK.out, txLoad_stF, HW.out.2]; exact hT.out), hX1, hB1, hB2⟩
        case measure => simp [intOf]; omega
      · skip
        have hq : thP ws (P1.take k) = P1 := thP_full HG.out (by omega)
        replace hT := hT.out
        rw [hq, ← HP.out.2] at hT
        replace hT := Lib.hid hT
        clear hq
        have c_B1_0 := hB1.out.cell 0 _ rfl
        have f_B1_0 := hB1.out.frz 0
        have c_B1_1 := hB1.out.cell 1 _ rfl
        have f_B1_1 := hB1.out.frz 1
        have l_B1 := hB1.out.lt
        have c_B2_0 := hB2.out.cell 0 _ rfl
        have f_B2_0 := hB2.out.frz 0
        have c_B2_1 := hB2.out.cell 1 _ rfl
        have f_B2_1 := hB2.out.frz 1
        have l_B2 := hB2.out.lt
        go_wp2_with fail
        clear c_B1_0 f_B1_0 c_B1_1 f_B1_1 l_B1 c_B2_0 f_B2_0 c_B2_1 f_B2_1 l_B2
        refine (rWalk6_any hX1.out hT.out.lt HG.out).mono ?_
        rintro _ W6 ⟨v, rfl, ho, kn⟩
        rw [HW.out.2, show 8 * 600 = 4800 from rfl, ← HP.out.2, HE.out.2] at ho
        rw [HW.out.2, show 8 * 600 = 4800 from rfl, ← HP.out.2, HE.out.1]
        replace ho := ho.view (S := S2) (fun g hg e => absurd (hT.out.lt g e) (Nat.not_lt.2 hg))
        obtain ⟨gb, go, cb, rfl, hcl, hcm, hgb, _, hcell⟩ := ho.pos (by rw [← HN.out.2]; exact hM0)
        clear hcl hcm hgb hcell
        have hV := Lib.hid ho
        clear ho
        rw [← HN.out.2]
        rw [codeOf_true]
        replace hst := Lib.hid (hst.out.nil kn)
        replace hX1 := Lib.hid (hX1.out.keeps_nil kn)
        replace hT := Lib.hid (hT.out.nil kn)
        replace hB1 := Lib.hid (hB1.out.nil kn)
        replace hB2 := Lib.hid (hB2.out.nil kn)
        clear kn
        have c_B1_0 := hB1.out.cell 0 _ rfl
        have f_B1_0 := hB1.out.frz 0
        have c_B1_1 := hB1.out.cell 1 _ rfl
        have f_B1_1 := hB1.out.frz 1
        have l_B1 := hB1.out.lt
        have c_B2_0 := hB2.out.cell 0 _ rfl
        have f_B2_0 := hB2.out.frz 0
        have c_B2_1 := hB2.out.cell 1 _ rfl
        have f_B2_1 := hB2.out.frz 1
        have l_B2 := hB2.out.lt
        go_wp2_with fail
        clear c_B1_0 f_B1_0 c_B1_1 f_B1_1 l_B1 c_B2_0 f_B2_0 c_B2_1 f_B2_1 l_B2
        have hTb := hT; have hXb := hX1; have hVb := hV; have hstb := hst
        have hB1b := hB1
        have hB2b := hB2
        obtain ⟨rb, hrb⟩ : ∃ b, b = W6.heap.size := ⟨_, rfl⟩
        have hSb := Lib.hid (show ∀ g, S2 g → g < rb by rw [hrb]; exact hT.out.lt)
        have grb := Lib.hid (show W6.heap.size ≤ rb by rw [hrb]; exact Nat.le_refl _)
        have hWb := Lib.hid (show w.heap.size ≤ rb by rw [hrb]; exact hst.out.keeps.size)
        have o_rb_B1 := Lib.hid (show B1 < rb by rw [hrb]; exact hB1.out.lt)
        have o_rb_B2 := Lib.hid (show B2 < rb by rw [hrb]; exact hB2.out.lt)
        have srb := Lib.hid (show rb ≤ W6.heap.size by rw [hrb]; exact Nat.le_refl _)
        clear hrb
        replace hst := Lib.hid (Step.refl Nil W6)
        clear hT hX1 hV
        replace hB1 := Lib.hid (show Bx W6 Nil B1 #[.slice none 0 0, .slice none 0 0] 71 from ⟨hB1.out.1, fun e => e⟩)
        replace hB2 := Lib.hid (show Bx W6 Nil B2 #[.slice (some ⟨ab, ao, none⟩) 600 ac, .slice a3 P1.length c3] 71 from ⟨hB2.out.1, fun e => e⟩)
        go_loopw [10, 11] (fun vrow i wr => ((∃ (k : Nat) (Q : List UInt64) (rv : Value), k ≤ M ∧ rv = vrow ∧ i = .int .i64 (k : Int) ∧ Hid (Q = freeOf (L.take k) ∧ Q.length ≤ k) ∧ Hid (Keeps Nil W6 wr) ∧ Hid (Own kU wr rb rv Q) ∧ Hid (rb ≤ wr.heap.size)) ∧ Hid (Bx wr Nil B1 #[.slice none 0 0, .slice none 0 0] 71)) ∧ Hid (Bx wr Nil B2 #[.slice (some ⟨ab, ao, none⟩) 600 ac, .slice a3 P1.length c3] 71)) (fun vrow i _ => M - (intOf i).toNat)
        case atStart => exact ⟨⟨⟨0, [], _, by omega, rfl, rfl, Lib.hid ⟨rfl, Nat.zero_le _⟩, Lib.hid hst.out.keeps, Lib.hid (Own.nil _ _ _), srb⟩, hB1⟩, hB2⟩
        case round =>
          clear hB2
          obtain ⟨hrel, hB2⟩ := hrel
          clear hB1
          obtain ⟨hrel, hB1⟩ := hrel
          obtain ⟨k, Q, rv, hk, rfl, rfl, HP3, hK0, ho, hsb⟩ := hrel
          replace hst := Lib.hid (Step.of_nil (S := Nil) hK0.out)
          clear hK0
          have HP3l := Lib.hid HP3.out.2
          have hPl : Q.length < 4294967296 := by have := HP3.out.2; omega
          replace HP3 := Lib.hid HP3.out.1
          by_cases hlt : k < M
          · obtain ⟨⟨bo, ⟨bs, bu, bw⟩, bl⟩, hx⟩ : ∃ x, L[k]? = some x := ⟨L[k]'(by have := HN.out.2; omega), by simp⟩
            have HX := Lib.hid hx
            have HLT := Lib.hid hlt
            clear hx
            cases bu with
            | false =>
              skip
              have c_B1_0 := hB1.out.cell 0 _ rfl
              have f_B1_0 := hB1.out.frz 0
              have c_B1_1 := hB1.out.cell 1 _ rfl
              have f_B1_1 := hB1.out.frz 1
              have l_B1 := hB1.out.lt
              have c_B2_0 := hB2.out.cell 0 _ rfl
              have f_B2_0 := hB2.out.frz 0
              have c_B2_1 := hB2.out.cell 1 _ rfl
              have f_B2_1 := hB2.out.frz 1
              have l_B2 := hB2.out.lt
              have e_x0 := (hst.out.keeps.cell hVb.out.at.2.2.2.1 (fun e => e) _).trans (View.cellB hVb.out.toB7.at.2.2.2.2.2 k _ HX.out).1
              have e_x2 := (hst.out.keeps.cell hVb.out.at.2.2.2.1 (fun e => e) _).trans (View.cellB hVb.out.toB7.at.2.2.2.2.2 k _ HX.out).2.2.1
              go_wp2_with (at_builtin
                           refine wpList_append_one kU rfl _ _ rfl ho.out rfl (bo) _ rfl rfl hPl hsb.out ?_
                           rintro _ W7 ho7 kA7 ⟨g7, cap7, rfl, hg7⟩
                           have hst7 := Lib.hid (hst.out.own ho.out grb.out kA7)
                           have hB1_7 := Lib.hid (hB1.out.own ho.out kA7 (own_ne_old ho.out o_rb_B1.out))
                           have hB2_7 := Lib.hid (hB2.out.own ho.out kA7 (own_ne_old ho.out o_rb_B2.out))
                           replace ho7 := Lib.hid ho7
                           have hs7 := Lib.hid (Nat.le_trans hsb.out kA7.size)
                           clear kA7
                           have c_B1_0 := hB1_7.out.cell 0 _ rfl
                           have f_B1_0 := hB1_7.out.frz 0
                           have c_B1_1 := hB1_7.out.cell 1 _ rfl
                           have f_B1_1 := hB1_7.out.frz 1
                           have l_B1 := hB1_7.out.lt
                           have c_B2_0 := hB2_7.out.cell 0 _ rfl
                           have f_B2_0 := hB2_7.out.frz 0
                           have c_B2_1 := hB2_7.out.cell 1 _ rfl
                           have f_B2_1 := hB2_7.out.frz 1
                           have l_B2 := hB2_7.out.lt)
              clear hst; have hst := hst7; clear hst7
              clear c_B1_0 f_B1_0 c_B1_1 f_B1_1 l_B1 c_B2_0 f_B2_0 c_B2_1 f_B2_1 l_B2 e_x0 e_x2
              go_roundw
              case rel => exact ⟨⟨⟨k + 1, _, _, by have := HLT.out; omega, rfl, by go_num, Lib.hid ⟨by rw [take_succ' HX.out, freeOf_add, HP3.out]; rfl, by have := HP3l.out; simp; omega⟩, Lib.hid hst.out.keeps, ho7, hs7⟩, hB1_7⟩, hB2_7⟩
              case measure => simp [intOf]; have := HLT.out; omega
            | true =>
              skip
              have c_B1_0 := hB1.out.cell 0 _ rfl
              have f_B1_0 := hB1.out.frz 0
              have c_B1_1 := hB1.out.cell 1 _ rfl
              have f_B1_1 := hB1.out.frz 1
              have l_B1 := hB1.out.lt
              have c_B2_0 := hB2.out.cell 0 _ rfl
              have f_B2_0 := hB2.out.frz 0
              have c_B2_1 := hB2.out.cell 1 _ rfl
              have f_B2_1 := hB2.out.frz 1
              have l_B2 := hB2.out.lt
              have e_x0 := (hst.out.keeps.cell hVb.out.at.2.2.2.1 (fun e => e) _).trans (View.cellB hVb.out.toB7.at.2.2.2.2.2 k _ HX.out).1
              have e_x2 := (hst.out.keeps.cell hVb.out.at.2.2.2.1 (fun e => e) _).trans (View.cellB hVb.out.toB7.at.2.2.2.2.2 k _ HX.out).2.2.1
              go_wp2_with fail
              clear c_B1_0 f_B1_0 c_B1_1 f_B1_1 l_B1 c_B2_0 f_B2_0 c_B2_1 f_B2_1 l_B2 e_x0 e_x2
              go_roundw
              case rel => exact ⟨⟨⟨k + 1, _, _, by have := HLT.out; omega, rfl, by go_num, Lib.hid ⟨by rw [take_succ' HX.out, freeOf_add, HP3.out]; rfl, by have := HP3l.out; omega⟩, Lib.hid hst.out.keeps, ho, hsb⟩, hB1⟩, hB2⟩
              case measure => simp [intOf]; have := HLT.out; omega
          · skip
            have kb := hst.out.keeps
            have hT := Lib.hid (hTb.out.nil kb)
            have hX1 := Lib.hid (hXb.out.keeps_nil kb)
            replace hst := Lib.hid (hstb.out.nil kb)
            replace hB1 := Lib.hid (hB1b.out.nil kb)
            replace hB2 := Lib.hid (hB2b.out.nil kb)
            clear kb hTb hXb hVb hstb hB1b hB2b
            have hQ := Lib.hid (show Q = freeOf L by rw [HP3.out, List.take_of_length_le (by have := HN.out.2; omega)])
            have c_B1_0 := hB1.out.cell 0 _ rfl
            have f_B1_0 := hB1.out.frz 0
            have c_B1_1 := hB1.out.cell 1 _ rfl
            have f_B1_1 := hB1.out.frz 1
            have l_B1 := hB1.out.lt
            have c_B2_0 := hB2.out.cell 0 _ rfl
            have f_B2_0 := hB2.out.frz 0
            have c_B2_1 := hB2.out.cell 1 _ rfl
            have f_B2_1 := hB2.out.frz 1
            have l_B2 := hB2.out.lt
            go_wp2_with fail
            clear c_B1_0 f_B1_0 c_B1_1 f_B1_1 l_B1 c_B2_0 f_B2_0 c_B2_1 f_B2_1 l_B2
            obtain ⟨W7, hW7⟩ : ∃ W, W = wr.drew := ⟨_, rfl⟩
            replace hW7 := Lib.hid hW7
            have kn : Keeps Nil wr W7 := by rw [hW7.out]; exact keeps_drew _
            replace hst := Lib.hid (hst.out.nil kn)
            replace hX1 := Lib.hid (hX1.out.keeps_nil kn)
            replace ho := Lib.hid (ho.out.keeps_nil kn)
            replace hsb := Lib.hid (Nat.le_trans hsb.out kn.size)
            replace hT := Lib.hid (hT.out.nil kn)
            replace hB1 := Lib.hid (hB1.out.nil kn)
            replace hB2 := Lib.hid (hB2.out.nil kn)
            clear kn
            refine wp_region_held_drew (S := fun w' => w'.cell? ⟨B2, 0, none⟩ = some (.slice (some ⟨ab, ao, none⟩) 600 ac) ∧ w'.cell? ⟨B2, 1, none⟩ = some (.slice a3 P1.length c3)) (by kernel_rfl) (by rw [← hW7.out]; exact ⟨hB2.out.cell 0 _ rfl, hB2.out.cell 1 _ rfl⟩) (fun hHeld => ?_)
            rw [← hW7.out] at hHeld ⊢
            refine wpAnyH_take (i := 0) (oi := _) (v := ?m14_v) rfl (by kernel_rfl) (by kernel_rfl) (by kernel_rfl) (fun _ _ _ h => h) (Or.inl ⟨by kernel_rfl, ?m14_h⟩) hHeld ?m14_r
            case m14_h => (intro w hSw; (try dsimp only at hSw); go_simp; try with_reducible rfl)
            try simp only [Act.put, List.getElem_toArray, List.getElem_cons_zero, List.setIfInBounds_toArray, List.set_cons_zero, List.set_cons_succ]
            refine wpAnyH_take (i := 1) (oi := _) (v := ?m15_v) rfl (by kernel_rfl) (by kernel_rfl) (by kernel_rfl) (fun _ _ _ h => h) (Or.inl ⟨by kernel_rfl, ?m15_h⟩) hHeld ?m15_r
            case m15_h => (intro w hSw; (try dsimp only at hSw); go_simp; try with_reducible rfl)
            try simp only [Act.put, List.getElem_toArray, List.getElem_cons_succ, List.getElem_cons_zero, List.setIfInBounds_toArray, List.set_cons_zero, List.set_cons_succ]
            refine wpAnyH_take (i := 2) (oi := _) (v := ?m16_v) rfl (by kernel_rfl) (by kernel_rfl) (by kernel_rfl) (fun _ _ _ h => h) (Or.inl ⟨by kernel_rfl, ?m16_h⟩) hHeld ?m16_r
            case m16_h => (intro w hSw; (try dsimp only at hSw); go_simp; try with_reducible rfl)
            try simp only [Act.put, List.getElem_toArray, List.getElem_cons_succ, List.getElem_cons_zero, List.setIfInBounds_toArray, List.set_cons_zero, List.set_cons_succ]
            refine wpAnyH_take (i := 3) (oi := _) (v := ?m17_v) rfl (by kernel_rfl) (by kernel_rfl) (by kernel_rfl) (fun _ _ _ h => h) (Or.inl ⟨by kernel_rfl, ?m17_h⟩) hHeld ?m17_r
            case m17_h => (intro w hSw; (try dsimp only at hSw); go_simp; try with_reducible rfl)
            try simp only [Act.put, List.getElem_toArray, List.getElem_cons_succ, List.getElem_cons_zero, List.setIfInBounds_toArray, List.set_cons_zero, List.set_cons_succ]
            refine wpAnyH_ready (rs := [4]) (by kernel_rfl) (by simp) ?_
            refine (AllReadyH.cons (o := _) rfl (fun K hK => ?_) AllReadyH.nil)
            have c_B1_0 := hB1.out.cell 0 _ rfl
            have f_B1_0 := hB1.out.frz 0
            have c_B1_1 := hB1.out.cell 1 _ rfl
            have f_B1_1 := hB1.out.frz 1
            have l_B1 := hB1.out.lt
            have c_B2_0 := hB2.out.cell 0 _ rfl
            have f_B2_0 := hB2.out.frz 0
            have c_B2_1 := hB2.out.cell 1 _ rfl
            have f_B2_1 := hB2.out.frz 1
            have l_B2 := hB2.out.lt
            obtain ⟨W8, hW8⟩ : ∃ W, W = ((W7.setCell ⟨B1, 0, none⟩ (.slice (some ⟨ab, ao, none⟩) 600 ac)).setCell ⟨B1, 1, none⟩ (.slice a3 P1.length c3)) := ⟨_, rfl⟩
            replace hW8 := Lib.hid hW8
            go_simp
            clear c_B1_0 f_B1_0 c_B1_1 f_B1_1 l_B1 c_B2_0 f_B2_0 c_B2_1 f_B2_1 l_B2
            rw [← hW8.out]
            have kr1 : Keeps (fun k => k = B1) W7 W8 := by rw [hW8.out]; exact (keeps_setCell W7 ⟨B1, 0, none⟩ _).trans' (keeps_setCell _ ⟨B1, 1, none⟩ _)
            replace ho := Lib.hid (ho.out.keeps' kr1 (fun g hg e => (own_ne_old ho.out o_rb_B1.out) (by rw [← e]; exact hg)))
            replace hsb := Lib.hid (Nat.le_trans hsb.out kr1.size)
            clear kr1
            replace hX1 := Lib.hid (hX1.out.box hB1.out.1 (show Keeps (fun i => i = B1) W7 W8 by rw [hW8.out]; exact (keeps_setCell W7 ⟨B1, 0, none⟩ _).trans' (keeps_setCell _ ⟨B1, 1, none⟩ _)))
            replace hst := Lib.hid (show Step _ S2 w W8 by rw [hW8.out]; exact ((hst.out.set gB1.out _ _).set gB1.out _ _))
            replace hT := Lib.hid (show TxF W8 t f 4800 S2 by rw [hW8.out]; exact ((hT.out.set hB1.out.2 _ _).set hB1.out.2 _ _))
            replace hB1 := Lib.hid (show Bx W8 S2 B1 #[.slice (some ⟨ab, ao, none⟩) 600 ac, .slice a3 P1.length c3] 71 by rw [hW8.out]; exact ((hB1.out.set _ _).set _ _))
            replace hB2 := Lib.hid (show Bx W8 S2 B2 #[.slice (some ⟨ab, ao, none⟩) 600 ac, .slice a3 P1.length c3] 71 by rw [hW8.out]; exact ((hB2.out.other (Nat.ne_of_gt nB1B2.out) _ _).other (Nat.ne_of_gt nB1B2.out) _ _))
            refine hK.out _ _ (⟨hB2.out.cell 0 _ rfl, hB2.out.cell 1 _ rfl⟩) (fun hHeld => ?_)
            clear hK K
            try simp only [Act.put, List.getElem_toArray, List.getElem_cons_succ, List.getElem_cons_zero, List.setIfInBounds_toArray, List.set_cons_zero, List.set_cons_succ]
            refine wpAnyH_take (i := 5) (oi := _) (v := ?m18_v) rfl (by kernel_rfl) (by kernel_rfl) (by kernel_rfl) (fun _ _ _ h => h) (Or.inl ⟨by kernel_rfl, ?m18_h⟩) hHeld ?m18_r
            case m18_h => (intro w hSw; (try dsimp only at hSw); go_simp; try with_reducible rfl)
            try simp only [Act.put, List.getElem_toArray, List.getElem_cons_succ, List.getElem_cons_zero, List.setIfInBounds_toArray, List.set_cons_zero, List.set_cons_succ]
            refine wpAnyH_done (by kernel_rfl) ?_ _
            clear hHeld
            have c_B1_0 := hB1.out.cell 0 _ rfl
            have f_B1_0 := hB1.out.frz 0
            have c_B1_1 := hB1.out.cell 1 _ rfl
            have f_B1_1 := hB1.out.frz 1
            have l_B1 := hB1.out.lt
            have c_B2_0 := hB2.out.cell 0 _ rfl
            have f_B2_0 := hB2.out.frz 0
            have c_B2_1 := hB2.out.cell 1 _ rfl
            have f_B2_1 := hB2.out.frz 1
            have l_B2 := hB2.out.lt
            go_wp2_with fail
            clear c_B1_0 f_B1_0 c_B1_1 f_B1_1 l_B1 c_B2_0 f_B2_0 c_B2_1 f_B2_1 l_B2
            refine bodyPost_ret (results_tmp_row_tmp rfl rfl hB1.out.1 Tryz.underlying71 rfl (by kernel_rfl)) rfl ?_
            rw [← hQ.out]
            exact ⟨t, ab, ao, ac, a3, c3, _, _, rfl, hT.out, hX1.out, ho.out.view (fun g hg e => absurd (hSb.out g e) (Nat.not_lt.2 hg)), hst.out⟩
  · skip
    have hst := Lib.hid (Step.refl Nil w)
    go_enter Tryz.func44, Tryz.ntmps44
    obtain ⟨W1, hW1⟩ : ∃ W, W = w.alloc (.cells #[.slice none 0 0, .slice none 0 0] 71) := ⟨_, rfl⟩
    obtain ⟨B1, eB1⟩ : ∃ B, B = w.heap.size := ⟨_, rfl⟩
    replace hW1 := Lib.hid hW1
    replace eB1 := Lib.hid eB1
    go_wp2_with fail
    rw [← hW1.out]
    try rw [← eB1.out]
    have k1 : Keeps Nil w W1 := by rw [hW1.out]; exact alloc_keeps _ _
    have e0B1 : B1 = w.heap.size := by rw [eB1.out]
    have hB1 := Lib.hid (show Bx W1 Nil B1 #[.slice none 0 0, .slice none 0 0] 71 by rw [hW1.out]; exact Bx.new Nil.lt _ _ e0B1)
    have gB1 := Lib.hid (show w.heap.size ≤ B1 by rw [e0B1]; exact hst.out.keeps.size)
    replace hst := Lib.hid (hst.out.nil k1)
    clear k1 e0B1
    refine (formedN07 4800 _ (by rfl)).mono ?_
    rintro _ W2 ⟨t, ab, ao, ac, a2, c2, S1, rfl, hT, hX, kn⟩
    replace hT := Lib.hid hT
    replace hX := Lib.hid hX
    replace hT := hT.out; replace hX := hX.out
    rw [← HW.out.1] at hT hX
    replace hT := Lib.hid hT; replace hX := Lib.hid hX
    replace hst := Lib.hid (hst.out.trans kn)
    replace hB1 := Lib.hid (hB1.out.steps kn)
    clear kn
    have c_B1_0 := hB1.out.cell 0 _ rfl
    have f_B1_0 := hB1.out.frz 0
    have c_B1_1 := hB1.out.cell 1 _ rfl
    have f_B1_1 := hB1.out.frz 1
    have l_B1 := hB1.out.lt
    obtain ⟨W3, hW3⟩ : ∃ W, W = W2.alloc (.cells #[.slice (some ⟨ab, ao, none⟩) 600 ac, .slice a2 0 c2] 71) := ⟨_, rfl⟩
    obtain ⟨B2, eB2⟩ : ∃ B, B = W2.heap.size := ⟨_, rfl⟩
    replace hW3 := Lib.hid hW3
    replace eB2 := Lib.hid eB2
    go_wp2_with fail
    clear c_B1_0 f_B1_0 c_B1_1 f_B1_1 l_B1
    rw [← hW3.out]
    try rw [← eB2.out]
    have k2 : Keeps Nil W2 W3 := by rw [hW3.out]; exact alloc_keeps _ _
    have e0B2 : B2 = W2.heap.size := by rw [eB2.out]
    have hB2 := Lib.hid (show Bx W3 S1 B2 #[.slice (some ⟨ab, ao, none⟩) 600 ac, .slice a2 0 c2] 71 by rw [hW3.out]; exact Bx.new hT.out.lt _ _ e0B2)
    have gB2 := Lib.hid (show w.heap.size ≤ B2 by rw [e0B2]; exact hst.out.keeps.size)
    have nB1B2 := Lib.hid (show B1 < B2 by rw [e0B2]; exact hB1.out.lt)
    replace hst := Lib.hid (hst.out.nil k2)
    replace hX := Lib.hid (hX.out.keeps_nil k2)
    replace hT := Lib.hid (hT.out.nil k2)
    replace hB1 := Lib.hid (hB1.out.nil k2)
    clear k2 e0B2
    refine (rLay_any hX.out hT.out.lt (GoodP.nil ws) (HL.out.keeps_nil hst.out.keeps)).mono ?_
    rintro _ W4 ⟨a3, c3, rfl, hv, kn⟩
    rw [show layAll ws [] ps = P1 by rw [HP.out.1, List.take_of_length_le (by have := HN.out.1; omega)]] at hv ⊢
    have hX1 := Lib.hid hv
    clear hv
    replace hst := Lib.hid (hst.out.nil kn)
    replace hX := Lib.hid (hX.out.keeps_nil kn)
    replace hT := Lib.hid (hT.out.nil kn)
    replace hB1 := Lib.hid (hB1.out.nil kn)
    replace hB2 := Lib.hid (hB2.out.nil kn)
    clear kn
    have c_B1_0 := hB1.out.cell 0 _ rfl
    have f_B1_0 := hB1.out.frz 0
    have c_B1_1 := hB1.out.cell 1 _ rfl
    have f_B1_1 := hB1.out.frz 1
    have l_B1 := hB1.out.lt
    have c_B2_0 := hB2.out.cell 0 _ rfl
    have f_B2_0 := hB2.out.frz 0
    have c_B2_1 := hB2.out.cell 1 _ rfl
    have f_B2_1 := hB2.out.frz 1
    have l_B2 := hB2.out.lt
    have ne_B1_B2 : (B1 = B2) = False := eq_false (Nat.ne_of_lt nB1B2.out)
    have ne_B2_B1 : (B2 = B1) = False := eq_false (Ne.symm (Nat.ne_of_lt nB1B2.out))
    obtain ⟨W5, hW5⟩ : ∃ W, W = ((W4.setCell ⟨B2, 0, none⟩ (.slice (some ⟨ab, ao, none⟩) 600 ac)).setCell ⟨B2, 1, none⟩ (.slice a3 P1.length c3)) := ⟨_, rfl⟩
    replace hW5 := Lib.hid hW5
    go_wp2_with fail
    clear c_B1_0 f_B1_0 c_B1_1 f_B1_1 l_B1 c_B2_0 f_B2_0 c_B2_1 f_B2_1 l_B2 ne_B1_B2 ne_B2_B1
    rw [← hW5.out]
    replace hX := Lib.hid (hX.out.box hB2.out.1 (show Keeps (fun i => i = B2) W4 W5 by rw [hW5.out]; exact (keeps_setCell W4 ⟨B2, 0, none⟩ _).trans' (keeps_setCell _ ⟨B2, 1, none⟩ _)))
    replace hX1 := Lib.hid (hX1.out.box hB2.out.1 (show Keeps (fun i => i = B2) W4 W5 by rw [hW5.out]; exact (keeps_setCell W4 ⟨B2, 0, none⟩ _).trans' (keeps_setCell _ ⟨B2, 1, none⟩ _)))
    replace hst := Lib.hid (show Step _ S1 w W5 by rw [hW5.out]; exact ((hst.out.set gB2.out _ _).set gB2.out _ _))
    replace hT := Lib.hid (show TxF W5 t (txLoad ws []) 4800 S1 by rw [hW5.out]; exact ((hT.out.set hB2.out.2 _ _).set hB2.out.2 _ _))
    replace hB1 := Lib.hid (show Bx W5 S1 B1 #[.slice none 0 0, .slice none 0 0] 71 by rw [hW5.out]; exact ((hB1.out.other (Nat.ne_of_lt nB1B2.out) _ _).other (Nat.ne_of_lt nB1B2.out) _ _))
    replace hB2 := Lib.hid (show Bx W5 S1 B2 #[.slice (some ⟨ab, ao, none⟩) 600 ac, .slice a3 P1.length c3] 71 by rw [hW5.out]; exact ((hB2.out.set _ _).set _ _))
    have c_B1_0 := hB1.out.cell 0 _ rfl
    have f_B1_0 := hB1.out.frz 0
    have c_B1_1 := hB1.out.cell 1 _ rfl
    have f_B1_1 := hB1.out.frz 1
    have l_B1 := hB1.out.lt
    have c_B2_0 := hB2.out.cell 0 _ rfl
    have f_B2_0 := hB2.out.frz 0
    have c_B2_1 := hB2.out.cell 1 _ rfl
    have f_B2_1 := hB2.out.frz 1
    have l_B2 := hB2.out.lt
    go_wp2_with fail
    clear c_B1_0 f_B1_0 c_B1_1 f_B1_1 l_B1 c_B2_0 f_B2_0 c_B2_1 f_B2_1 l_B2
    go_loopw [7] (fun i wr => ∃ (k : Nat) (S2 : Nat → Prop), k ≤ P1.length ∧ i = .int .i64 (k : Int) ∧ Hid (Step Nil S2 w wr) ∧ Hid (TxF wr t (txLoad ws (thP ws (P1.take k))) 4800 S2) ∧ Hid (TxV S2 wr (.slice (some ⟨ab, ao, none⟩) 600 ac) (.slice a3 P1.length c3) ws P1) ∧ Hid (Bx wr S2 B1 #[.slice none 0 0, .slice none 0 0] 71) ∧ Hid (Bx wr S2 B2 #[.slice (some ⟨ab, ao, none⟩) 600 ac, .slice a3 P1.length c3] 71)) (fun i _ => P1.length - (intOf i).toNat)
    case atStart => exact ⟨0, _, Nat.zero_le _, rfl, hst, hT, hX1, hB1, hB2⟩
    case round =>
      clear hst hT hX1 hB1 hB2
      obtain ⟨k, S2, hk, rfl, hst, hT, hX1, hB1, hB2⟩ := hrel
      by_cases hlt : k < P1.length
      · obtain ⟨gq, oq, cq, hvv, _, _, _, _, _⟩ := hX1.out.2.2.2.pos (by omega)
        simp only [Value.slice.injEq] at hvv
        obtain ⟨rfl, _, rfl⟩ := hvv
        obtain ⟨⟨y1, y2⟩, hy⟩ : ∃ y, P1[k]? = some y := ⟨P1[k]'(by omega), by simp⟩
        have HYK := Lib.hid hy
        clear hy
        have c_B1_0 := hB1.out.cell 0 _ rfl
        have f_B1_0 := hB1.out.frz 0
        have c_B1_1 := hB1.out.cell 1 _ rfl
        have f_B1_1 := hB1.out.frz 1
        have l_B1 := hB1.out.lt
        have c_B2_0 := hB2.out.cell 0 _ rfl
        have f_B2_0 := hB2.out.frz 0
        have c_B2_1 := hB2.out.cell 1 _ rfl
        have f_B2_1 := hB2.out.frz 1
        have l_B2 := hB2.out.lt
        have e_0 := (View.cellP hX1.out.2.2.2.at.2.2.2.2.2 k (y1, y2) HYK.out).1
        have e_1 := (View.cellP hX1.out.2.2.2.at.2.2.2.2.2 k (y1, y2) HYK.out).2
        have l_gq := hX1.out.2.2.2.at.2.2.2.1
        go_wp2_with fail
        clear c_B1_0 f_B1_0 c_B1_1 f_B1_1 l_B1 c_B2_0 f_B2_0 c_B2_1 f_B2_1 l_B2 e_0 e_1 l_gq
        obtain ⟨W6, hW6⟩ : ∃ W, W = wr.drew := ⟨_, rfl⟩
        replace hW6 := Lib.hid hW6
        have kn : Keeps Nil wr W6 := by rw [hW6.out]; exact keeps_drew _
        replace hst := Lib.hid (hst.out.nil kn)
        replace hX1 := Lib.hid (hX1.out.keeps_nil kn)
        replace hT := Lib.hid (hT.out.nil kn)
        replace hB1 := Lib.hid (hB1.out.nil kn)
        replace hB2 := Lib.hid (hB2.out.nil kn)
        clear kn
        refine wp_region_held_drew (S := fun w' => w'.cell? ⟨B1, 0, none⟩ = some (.slice none 0 0) ∧ w'.cell? ⟨B1, 1, none⟩ = some (.slice none 0 0) ∧ w'.cell? ⟨B2, 0, none⟩ = some (.slice (some ⟨ab, ao, none⟩) 600 ac) ∧ w'.cell? ⟨B2, 1, none⟩ = some (.slice (some ⟨gq, oq, none⟩) P1.length c3) ∧ w'.cell? ⟨gq, oq + k * 2, none⟩ = some (.int .u64 (y1.toNat : Int)) ∧ w'.cell? ⟨gq, oq + k * 2 + 1, none⟩ = some (.int .u64 (y2.toNat : Int))) (by kernel_rfl) (by rw [← hW6.out]; exact ⟨hB1.out.cell 0 _ rfl, hB1.out.cell 1 _ rfl, hB2.out.cell 0 _ rfl, hB2.out.cell 1 _ rfl, (View.cellP hX1.out.2.2.2.at.2.2.2.2.2 k (y1, y2) HYK.out).1, (View.cellP hX1.out.2.2.2.at.2.2.2.2.2 k (y1, y2) HYK.out).2⟩) (fun hHeld => ?_)
        rw [← hW6.out] at hHeld ⊢
        refine wpAnyH_take (i := 0) (oi := _) (v := ?m19_v) rfl (by kernel_rfl) (by kernel_rfl) (by kernel_rfl) (fun _ _ _ h => h) (Or.inl ⟨by kernel_rfl, ?m19_h⟩) hHeld ?m19_r
        case m19_h => (intro w hSw; (try dsimp only at hSw); go_simp; try with_reducible rfl)
        try simp only [Act.put, List.getElem_toArray, List.getElem_cons_zero, List.setIfInBounds_toArray, List.set_cons_zero, List.set_cons_succ]
        refine wpAnyH_take (i := 1) (oi := _) (v := ?m20_v) rfl (by kernel_rfl) (by kernel_rfl) (by kernel_rfl) (fun _ _ _ h => h) (Or.inl ⟨by kernel_rfl, ?m20_h⟩) hHeld ?m20_r
        case m20_h => (intro w hSw; (try dsimp only at hSw); go_simp; try with_reducible rfl)
        try simp only [Act.put, List.getElem_toArray, List.getElem_cons_succ, List.getElem_cons_zero, List.setIfInBounds_toArray, List.set_cons_zero, List.set_cons_succ]
        refine wpAnyH_take (i := 2) (oi := _) (v := ?m21_v) rfl (by kernel_rfl) (by kernel_rfl) (by kernel_rfl) (fun _ _ _ h => h) (Or.inl ⟨by kernel_rfl, ?m21_h⟩) hHeld ?m21_r
        case m21_h => (intro w hSw; (try dsimp only at hSw); go_simp; try with_reducible rfl)
        try simp only [Act.put, List.getElem_toArray, List.getElem_cons_succ, List.getElem_cons_zero, List.setIfInBounds_toArray, List.set_cons_zero, List.set_cons_succ]
        refine wpAnyH_take (i := 3) (oi := _) (v := ?m22_v) rfl (by kernel_rfl) (by kernel_rfl) (by kernel_rfl) (fun _ _ _ h => h) (Or.inl ⟨by kernel_rfl, ?m22_h⟩) hHeld ?m22_r
        case m22_h => (intro w hSw; (try dsimp only at hSw); go_simp; try with_reducible rfl)
        try simp only [Act.put, List.getElem_toArray, List.getElem_cons_succ, List.getElem_cons_zero, List.setIfInBounds_toArray, List.set_cons_zero, List.set_cons_succ]
        refine wpAnyH_take (i := 4) (oi := _) (v := ?m23_v) rfl (by kernel_rfl) (by kernel_rfl) (by kernel_rfl) (fun _ _ _ h => h) (Or.inl ⟨by kernel_rfl, ?m23_h⟩) hHeld ?m23_r
        case m23_h => (intro w hSw; (try dsimp only at hSw); go_simp; try with_reducible rfl)
        try simp only [Act.put, List.getElem_toArray, List.getElem_cons_succ, List.getElem_cons_zero, List.setIfInBounds_toArray, List.set_cons_zero, List.set_cons_succ]
        refine wpAnyH_take (i := 5) (oi := _) (v := ?m24_v) rfl (by kernel_rfl) (by kernel_rfl) (by kernel_rfl) (fun _ _ _ h => h) (Or.inl ⟨by kernel_rfl, ?m24_h⟩) hHeld ?m24_r
        case m24_h => (intro w hSw; (try dsimp only at hSw); go_simp; try with_reducible rfl)
        try simp only [Act.put, List.getElem_toArray, List.getElem_cons_succ, List.getElem_cons_zero, List.setIfInBounds_toArray, List.set_cons_zero, List.set_cons_succ]
        refine wpAnyH_take (i := 6) (oi := _) (v := ?m25_v) rfl (by kernel_rfl) (by kernel_rfl) (by kernel_rfl) (fun _ _ _ h => h) (Or.inl ⟨by kernel_rfl, ?m25_h⟩) hHeld ?m25_r
        case m25_h => (intro w hSw; (try dsimp only at hSw); go_simp; try with_reducible rfl)
        try simp only [Act.put, List.getElem_toArray, List.getElem_cons_succ, List.getElem_cons_zero, List.setIfInBounds_toArray, List.set_cons_zero, List.set_cons_succ]
        refine wpAnyH_take (i := 7) (oi := _) (v := ?m26_v) rfl (by kernel_rfl) (by kernel_rfl) (by kernel_rfl) (fun _ _ _ h => h) (Or.inl ⟨by kernel_rfl, ?m26_h⟩) hHeld ?m26_r
        case m26_h => (intro w hSw; (try dsimp only at hSw); go_simp; try with_reducible rfl)
        try simp only [Act.put, List.getElem_toArray, List.getElem_cons_succ, List.getElem_cons_zero, List.setIfInBounds_toArray, List.set_cons_zero, List.set_cons_succ]
        refine wpAnyH_take (i := 8) (oi := _) (v := ?m27_v) rfl (by kernel_rfl) (by kernel_rfl) (by kernel_rfl) (fun _ _ _ h => h) (Or.inl ⟨by kernel_rfl, ?m27_h⟩) hHeld ?m27_r
        case m27_h => (intro w hSw; (try dsimp only at hSw); go_simp; try with_reducible rfl)
        try simp only [Act.put, List.getElem_toArray, List.getElem_cons_succ, List.getElem_cons_zero, List.setIfInBounds_toArray, List.set_cons_zero, List.set_cons_succ]
        refine wpAnyH_take (i := 9) (oi := _) (v := ?m28_v) rfl (by kernel_rfl) (by kernel_rfl) (by kernel_rfl) (fun _ _ _ h => h) (Or.inl ⟨by kernel_rfl, ?m28_h⟩) hHeld ?m28_r
        case m28_h => (intro w hSw; (try dsimp only at hSw); go_simp; try with_reducible rfl)
        try simp only [Act.put, List.getElem_toArray, List.getElem_cons_succ, List.getElem_cons_zero, List.setIfInBounds_toArray, List.set_cons_zero, List.set_cons_succ]
        refine wpAnyH_take (i := 10) (oi := _) (v := ?m29_v) rfl (by kernel_rfl) (by kernel_rfl) (by kernel_rfl) (fun _ _ _ h => h) (Or.inl ⟨by kernel_rfl, ?m29_h⟩) hHeld ?m29_r
        case m29_h => (intro w hSw; (try dsimp only at hSw); go_simp; try with_reducible rfl)
        try simp only [Act.put, List.getElem_toArray, List.getElem_cons_succ, List.getElem_cons_zero, List.setIfInBounds_toArray, List.set_cons_zero, List.set_cons_succ]
        refine wpAnyH_take (i := 11) (oi := _) (v := ?m30_v) rfl (by kernel_rfl) (by kernel_rfl) (by kernel_rfl) (fun _ _ _ h => h) (Or.inl ⟨by kernel_rfl, ?m30_h⟩) hHeld ?m30_r
        case m30_h => (intro w hSw; (try dsimp only at hSw); go_simp; try with_reducible rfl)
        try simp only [Act.put, List.getElem_toArray, List.getElem_cons_succ, List.getElem_cons_zero, List.setIfInBounds_toArray, List.set_cons_zero, List.set_cons_succ]
        refine wpAnyH_take (i := 12) (oi := _) (v := ?m31_v) rfl (by kernel_rfl) (by kernel_rfl) (by kernel_rfl) (fun _ _ _ h => h) (Or.inl ⟨by kernel_rfl, ?m31_h⟩) hHeld ?m31_r
        case m31_h => (intro w hSw; (try dsimp only at hSw); go_simp; try with_reducible rfl)
        try simp only [Act.put, List.getElem_toArray, List.getElem_cons_succ, List.getElem_cons_zero, List.setIfInBounds_toArray, List.set_cons_zero, List.set_cons_succ]
        refine wpAnyH_ready (rs := [13]) (by kernel_rfl) (by simp) ?_
        refine (AllReadyH.cons (o := _) rfl (fun K hK => ?_) AllReadyH.nil)
        go_simp
        refine (hT.out.store y1 y2 _ _ rfl rfl).mono ?_
        rintro _ W7 ⟨rfl, S1, hT2, kn⟩
        replace hst := Lib.hid (hst.out.trans kn)
        replace hX1 := Lib.hid (hX1.out.steps kn)
        replace hB1 := Lib.hid (hB1.out.steps kn)
        replace hB2 := Lib.hid (hB2.out.steps kn)
        replace hT := Lib.hid hT2
        clear kn hT2
        refine hK.out _ _ (⟨hB1.out.cell 0 _ rfl, hB1.out.cell 1 _ rfl, hB2.out.cell 0 _ rfl, hB2.out.cell 1 _ rfl, (View.cellP hX1.out.2.2.2.at.2.2.2.2.2 k (y1, y2) HYK.out).1, (View.cellP hX1.out.2.2.2.at.2.2.2.2.2 k (y1, y2) HYK.out).2⟩) (fun hHeld => ?_)
        clear hK K
        try simp only [Act.put, List.getElem_toArray, List.getElem_cons_succ, List.getElem_cons_zero, List.setIfInBounds_toArray, List.set_cons_zero, List.set_cons_succ]
        refine wpAnyH_done (by kernel_rfl) ?_ _
        clear hHeld
        have c_B1_0 := hB1.out.cell 0 _ rfl
        have f_B1_0 := hB1.out.frz 0
        have c_B1_1 := hB1.out.cell 1 _ rfl
        have f_B1_1 := hB1.out.frz 1
        have l_B1 := hB1.out.lt
        have c_B2_0 := hB2.out.cell 0 _ rfl
        have f_B2_0 := hB2.out.frz 0
        have c_B2_1 := hB2.out.cell 1 _ rfl
        have f_B2_1 := hB2.out.frz 1
        have l_B2 := hB2.out.lt
        have e_0 := (View.cellP hX1.out.2.2.2.at.2.2.2.2.2 k (y1, y2) HYK.out).1
        have e_1 := (View.cellP hX1.out.2.2.2.at.2.2.2.2.2 k (y1, y2) HYK.out).2
        have l_gq := hX1.out.2.2.2.at.2.2.2.1
        go_wp2_with fail
        clear c_B1_0 f_B1_0 c_B1_1 f_B1_1 l_B1 c_B2_0 f_B2_0 c_B2_1 f_B2_1 l_B2 e_0 e_1 l_gq
        go_roundw
        case rel => exact ⟨k + 1, _, by omega, by go_num, hst, Lib.hid (by rw [thP_take HYK.out, txLoad_stF, HW.out.2]; exact hT.out), hX1, hB1, hB2⟩
        case measure => simp [intOf]; omega
      · skip
        have hq : thP ws (P1.take k) = P1 := thP_full HG.out (by omega)
        replace hT := hT.out
        rw [hq, ← HP.out.2] at hT
        replace hT := Lib.hid hT
        clear hq
        have c_B1_0 := hB1.out.cell 0 _ rfl
        have f_B1_0 := hB1.out.frz 0
        have c_B1_1 := hB1.out.cell 1 _ rfl
        have f_B1_1 := hB1.out.frz 1
        have l_B1 := hB1.out.lt
        have c_B2_0 := hB2.out.cell 0 _ rfl
        have f_B2_0 := hB2.out.frz 0
        have c_B2_1 := hB2.out.cell 1 _ rfl
        have f_B2_1 := hB2.out.frz 1
        have l_B2 := hB2.out.lt
        go_wp2_with fail
        clear c_B1_0 f_B1_0 c_B1_1 f_B1_1 l_B1 c_B2_0 f_B2_0 c_B2_1 f_B2_1 l_B2
        refine (rWalk6_any hX1.out hT.out.lt HG.out).mono ?_
        rintro _ W6 ⟨v, rfl, ho, kn⟩
        rw [HW.out.2, show 8 * 600 = 4800 from rfl, ← HP.out.2, HE.out.2] at ho
        rw [HW.out.2, show 8 * 600 = 4800 from rfl, ← HP.out.2, HE.out.1]
        replace ho := ho.view (S := S2) (fun g hg e => absurd (hT.out.lt g e) (Nat.not_lt.2 hg))
        obtain ⟨gb, go, cb, rfl, hcl, hcm, hgb, _, hcell⟩ := ho.pos (by rw [← HN.out.2]; exact hM0)
        clear hcl hcm hgb hcell
        have hV := Lib.hid ho
        clear ho
        rw [← HN.out.2]
        rw [codeOf_true]
        replace hst := Lib.hid (hst.out.nil kn)
        replace hX1 := Lib.hid (hX1.out.keeps_nil kn)
        replace hT := Lib.hid (hT.out.nil kn)
        replace hB1 := Lib.hid (hB1.out.nil kn)
        replace hB2 := Lib.hid (hB2.out.nil kn)
        clear kn
        have c_B1_0 := hB1.out.cell 0 _ rfl
        have f_B1_0 := hB1.out.frz 0
        have c_B1_1 := hB1.out.cell 1 _ rfl
        have f_B1_1 := hB1.out.frz 1
        have l_B1 := hB1.out.lt
        have c_B2_0 := hB2.out.cell 0 _ rfl
        have f_B2_0 := hB2.out.frz 0
        have c_B2_1 := hB2.out.cell 1 _ rfl
        have f_B2_1 := hB2.out.frz 1
        have l_B2 := hB2.out.lt
        go_wp2_with fail
        clear c_B1_0 f_B1_0 c_B1_1 f_B1_1 l_B1 c_B2_0 f_B2_0 c_B2_1 f_B2_1 l_B2
        have hTb := hT; have hXb := hX1; have hVb := hV; have hstb := hst
        have hB1b := hB1
        have hB2b := hB2
        obtain ⟨rb, hrb⟩ : ∃ b, b = W6.heap.size := ⟨_, rfl⟩
        have hSb := Lib.hid (show ∀ g, S2 g → g < rb by rw [hrb]; exact hT.out.lt)
        have grb := Lib.hid (show W6.heap.size ≤ rb by rw [hrb]; exact Nat.le_refl _)
        have hWb := Lib.hid (show w.heap.size ≤ rb by rw [hrb]; exact hst.out.keeps.size)
        have o_rb_B1 := Lib.hid (show B1 < rb by rw [hrb]; exact hB1.out.lt)
        have o_rb_B2 := Lib.hid (show B2 < rb by rw [hrb]; exact hB2.out.lt)
        have srb := Lib.hid (show rb ≤ W6.heap.size by rw [hrb]; exact Nat.le_refl _)
        clear hrb
        replace hst := Lib.hid (Step.refl Nil W6)
        clear hT hX1 hV
        replace hB1 := Lib.hid (show Bx W6 Nil B1 #[.slice none 0 0, .slice none 0 0] 71 from ⟨hB1.out.1, fun e => e⟩)
        replace hB2 := Lib.hid (show Bx W6 Nil B2 #[.slice (some ⟨ab, ao, none⟩) 600 ac, .slice a3 P1.length c3] 71 from ⟨hB2.out.1, fun e => e⟩)
        go_loopw [10, 11] (fun vrow i wr => ((∃ (k : Nat) (Q : List UInt64) (rv : Value), k ≤ M ∧ rv = vrow ∧ i = .int .i64 (k : Int) ∧ Hid (Q = freeOf (L.take k) ∧ Q.length ≤ k) ∧ Hid (Keeps Nil W6 wr) ∧ Hid (Own kU wr rb rv Q) ∧ Hid (rb ≤ wr.heap.size)) ∧ Hid (Bx wr Nil B1 #[.slice none 0 0, .slice none 0 0] 71)) ∧ Hid (Bx wr Nil B2 #[.slice (some ⟨ab, ao, none⟩) 600 ac, .slice a3 P1.length c3] 71)) (fun vrow i _ => M - (intOf i).toNat)
        case atStart => exact ⟨⟨⟨0, [], _, by omega, rfl, rfl, Lib.hid ⟨rfl, Nat.zero_le _⟩, Lib.hid hst.out.keeps, Lib.hid (Own.nil _ _ _), srb⟩, hB1⟩, hB2⟩
        case round =>
          clear hB2
          obtain ⟨hrel, hB2⟩ := hrel
          clear hB1
          obtain ⟨hrel, hB1⟩ := hrel
          obtain ⟨k, Q, rv, hk, rfl, rfl, HP3, hK0, ho, hsb⟩ := hrel
          replace hst := Lib.hid (Step.of_nil (S := Nil) hK0.out)
          clear hK0
          have HP3l := Lib.hid HP3.out.2
          have hPl : Q.length < 4294967296 := by have := HP3.out.2; omega
          replace HP3 := Lib.hid HP3.out.1
          by_cases hlt : k < M
          · obtain ⟨⟨bo, ⟨bs, bu, bw⟩, bl⟩, hx⟩ : ∃ x, L[k]? = some x := ⟨L[k]'(by have := HN.out.2; omega), by simp⟩
            have HX := Lib.hid hx
            have HLT := Lib.hid hlt
            clear hx
            cases bu with
            | false =>
              skip
              have c_B1_0 := hB1.out.cell 0 _ rfl
              have f_B1_0 := hB1.out.frz 0
              have c_B1_1 := hB1.out.cell 1 _ rfl
              have f_B1_1 := hB1.out.frz 1
              have l_B1 := hB1.out.lt
              have c_B2_0 := hB2.out.cell 0 _ rfl
              have f_B2_0 := hB2.out.frz 0
              have c_B2_1 := hB2.out.cell 1 _ rfl
              have f_B2_1 := hB2.out.frz 1
              have l_B2 := hB2.out.lt
              have e_x0 := (hst.out.keeps.cell hVb.out.at.2.2.2.1 (fun e => e) _).trans (View.cellB hVb.out.toB7.at.2.2.2.2.2 k _ HX.out).1
              have e_x2 := (hst.out.keeps.cell hVb.out.at.2.2.2.1 (fun e => e) _).trans (View.cellB hVb.out.toB7.at.2.2.2.2.2 k _ HX.out).2.2.1
              go_wp2_with (at_builtin
                           refine wpList_append_one kU rfl _ _ rfl ho.out rfl (bo) _ rfl rfl hPl hsb.out ?_
                           rintro _ W7 ho7 kA7 ⟨g7, cap7, rfl, hg7⟩
                           have hst7 := Lib.hid (hst.out.own ho.out grb.out kA7)
                           have hB1_7 := Lib.hid (hB1.out.own ho.out kA7 (own_ne_old ho.out o_rb_B1.out))
                           have hB2_7 := Lib.hid (hB2.out.own ho.out kA7 (own_ne_old ho.out o_rb_B2.out))
                           replace ho7 := Lib.hid ho7
                           have hs7 := Lib.hid (Nat.le_trans hsb.out kA7.size)
                           clear kA7
                           have c_B1_0 := hB1_7.out.cell 0 _ rfl
                           have f_B1_0 := hB1_7.out.frz 0
                           have c_B1_1 := hB1_7.out.cell 1 _ rfl
                           have f_B1_1 := hB1_7.out.frz 1
                           have l_B1 := hB1_7.out.lt
                           have c_B2_0 := hB2_7.out.cell 0 _ rfl
                           have f_B2_0 := hB2_7.out.frz 0
                           have c_B2_1 := hB2_7.out.cell 1 _ rfl
                           have f_B2_1 := hB2_7.out.frz 1
                           have l_B2 := hB2_7.out.lt)
              clear hst; have hst := hst7; clear hst7
              clear c_B1_0 f_B1_0 c_B1_1 f_B1_1 l_B1 c_B2_0 f_B2_0 c_B2_1 f_B2_1 l_B2 e_x0 e_x2
              go_roundw
              case rel => exact ⟨⟨⟨k + 1, _, _, by have := HLT.out; omega, rfl, by go_num, Lib.hid ⟨by rw [take_succ' HX.out, freeOf_add, HP3.out]; rfl, by have := HP3l.out; simp; omega⟩, Lib.hid hst.out.keeps, ho7, hs7⟩, hB1_7⟩, hB2_7⟩
              case measure => simp [intOf]; have := HLT.out; omega
            | true =>
              skip
              have c_B1_0 := hB1.out.cell 0 _ rfl
              have f_B1_0 := hB1.out.frz 0
              have c_B1_1 := hB1.out.cell 1 _ rfl
              have f_B1_1 := hB1.out.frz 1
              have l_B1 := hB1.out.lt
              have c_B2_0 := hB2.out.cell 0 _ rfl
              have f_B2_0 := hB2.out.frz 0
              have c_B2_1 := hB2.out.cell 1 _ rfl
              have f_B2_1 := hB2.out.frz 1
              have l_B2 := hB2.out.lt
              have e_x0 := (hst.out.keeps.cell hVb.out.at.2.2.2.1 (fun e => e) _).trans (View.cellB hVb.out.toB7.at.2.2.2.2.2 k _ HX.out).1
              have e_x2 := (hst.out.keeps.cell hVb.out.at.2.2.2.1 (fun e => e) _).trans (View.cellB hVb.out.toB7.at.2.2.2.2.2 k _ HX.out).2.2.1
              go_wp2_with fail
              clear c_B1_0 f_B1_0 c_B1_1 f_B1_1 l_B1 c_B2_0 f_B2_0 c_B2_1 f_B2_1 l_B2 e_x0 e_x2
              go_roundw
              case rel => exact ⟨⟨⟨k + 1, _, _, by have := HLT.out; omega, rfl, by go_num, Lib.hid ⟨by rw [take_succ' HX.out, freeOf_add, HP3.out]; rfl, by have := HP3l.out; omega⟩, Lib.hid hst.out.keeps, ho, hsb⟩, hB1⟩, hB2⟩
              case measure => simp [intOf]; have := HLT.out; omega
          · skip
            have kb := hst.out.keeps
            have hT := Lib.hid (hTb.out.nil kb)
            have hX1 := Lib.hid (hXb.out.keeps_nil kb)
            replace hst := Lib.hid (hstb.out.nil kb)
            replace hB1 := Lib.hid (hB1b.out.nil kb)
            replace hB2 := Lib.hid (hB2b.out.nil kb)
            clear kb hTb hXb hVb hstb hB1b hB2b
            have hQ := Lib.hid (show Q = freeOf L by rw [HP3.out, List.take_of_length_le (by have := HN.out.2; omega)])
            have c_B1_0 := hB1.out.cell 0 _ rfl
            have f_B1_0 := hB1.out.frz 0
            have c_B1_1 := hB1.out.cell 1 _ rfl
            have f_B1_1 := hB1.out.frz 1
            have l_B1 := hB1.out.lt
            have c_B2_0 := hB2.out.cell 0 _ rfl
            have f_B2_0 := hB2.out.frz 0
            have c_B2_1 := hB2.out.cell 1 _ rfl
            have f_B2_1 := hB2.out.frz 1
            have l_B2 := hB2.out.lt
            go_wp2_with fail
            clear c_B1_0 f_B1_0 c_B1_1 f_B1_1 l_B1 c_B2_0 f_B2_0 c_B2_1 f_B2_1 l_B2
            obtain ⟨W7, hW7⟩ : ∃ W, W = wr.drew := ⟨_, rfl⟩
            replace hW7 := Lib.hid hW7
            have kn : Keeps Nil wr W7 := by rw [hW7.out]; exact keeps_drew _
            replace hst := Lib.hid (hst.out.nil kn)
            replace hX1 := Lib.hid (hX1.out.keeps_nil kn)
            replace ho := Lib.hid (ho.out.keeps_nil kn)
            replace hsb := Lib.hid (Nat.le_trans hsb.out kn.size)
            replace hT := Lib.hid (hT.out.nil kn)
            replace hB1 := Lib.hid (hB1.out.nil kn)
            replace hB2 := Lib.hid (hB2.out.nil kn)
            clear kn
            refine wp_region_held_drew (S := fun w' => w'.cell? ⟨B2, 0, none⟩ = some (.slice (some ⟨ab, ao, none⟩) 600 ac) ∧ w'.cell? ⟨B2, 1, none⟩ = some (.slice a3 P1.length c3)) (by kernel_rfl) (by rw [← hW7.out]; exact ⟨hB2.out.cell 0 _ rfl, hB2.out.cell 1 _ rfl⟩) (fun hHeld => ?_)
            rw [← hW7.out] at hHeld ⊢
            refine wpAnyH_take (i := 0) (oi := _) (v := ?m32_v) rfl (by kernel_rfl) (by kernel_rfl) (by kernel_rfl) (fun _ _ _ h => h) (Or.inl ⟨by kernel_rfl, ?m32_h⟩) hHeld ?m32_r
            case m32_h => (intro w hSw; (try dsimp only at hSw); go_simp; try with_reducible rfl)
            try simp only [Act.put, List.getElem_toArray, List.getElem_cons_zero, List.setIfInBounds_toArray, List.set_cons_zero, List.set_cons_succ]
            refine wpAnyH_take (i := 1) (oi := _) (v := ?m33_v) rfl (by kernel_rfl) (by kernel_rfl) (by kernel_rfl) (fun _ _ _ h => h) (Or.inl ⟨by kernel_rfl, ?m33_h⟩) hHeld ?m33_r
            case m33_h => (intro w hSw; (try dsimp only at hSw); go_simp; try with_reducible rfl)
            try simp only [Act.put, List.getElem_toArray, List.getElem_cons_succ, List.getElem_cons_zero, List.setIfInBounds_toArray, List.set_cons_zero, List.set_cons_succ]
            refine wpAnyH_take (i := 2) (oi := _) (v := ?m34_v) rfl (by kernel_rfl) (by kernel_rfl) (by kernel_rfl) (fun _ _ _ h => h) (Or.inl ⟨by kernel_rfl, ?m34_h⟩) hHeld ?m34_r
            case m34_h => (intro w hSw; (try dsimp only at hSw); go_simp; try with_reducible rfl)
            try simp only [Act.put, List.getElem_toArray, List.getElem_cons_succ, List.getElem_cons_zero, List.setIfInBounds_toArray, List.set_cons_zero, List.set_cons_succ]
            refine wpAnyH_take (i := 3) (oi := _) (v := ?m35_v) rfl (by kernel_rfl) (by kernel_rfl) (by kernel_rfl) (fun _ _ _ h => h) (Or.inl ⟨by kernel_rfl, ?m35_h⟩) hHeld ?m35_r
            case m35_h => (intro w hSw; (try dsimp only at hSw); go_simp; try with_reducible rfl)
            try simp only [Act.put, List.getElem_toArray, List.getElem_cons_succ, List.getElem_cons_zero, List.setIfInBounds_toArray, List.set_cons_zero, List.set_cons_succ]
            refine wpAnyH_ready (rs := [4]) (by kernel_rfl) (by simp) ?_
            refine (AllReadyH.cons (o := _) rfl (fun K hK => ?_) AllReadyH.nil)
            have c_B1_0 := hB1.out.cell 0 _ rfl
            have f_B1_0 := hB1.out.frz 0
            have c_B1_1 := hB1.out.cell 1 _ rfl
            have f_B1_1 := hB1.out.frz 1
            have l_B1 := hB1.out.lt
            have c_B2_0 := hB2.out.cell 0 _ rfl
            have f_B2_0 := hB2.out.frz 0
            have c_B2_1 := hB2.out.cell 1 _ rfl
            have f_B2_1 := hB2.out.frz 1
            have l_B2 := hB2.out.lt
            obtain ⟨W8, hW8⟩ : ∃ W, W = ((W7.setCell ⟨B1, 0, none⟩ (.slice (some ⟨ab, ao, none⟩) 600 ac)).setCell ⟨B1, 1, none⟩ (.slice a3 P1.length c3)) := ⟨_, rfl⟩
            replace hW8 := Lib.hid hW8
            go_simp
            clear c_B1_0 f_B1_0 c_B1_1 f_B1_1 l_B1 c_B2_0 f_B2_0 c_B2_1 f_B2_1 l_B2
            rw [← hW8.out]
            have kr1 : Keeps (fun k => k = B1) W7 W8 := by rw [hW8.out]; exact (keeps_setCell W7 ⟨B1, 0, none⟩ _).trans' (keeps_setCell _ ⟨B1, 1, none⟩ _)
            replace ho := Lib.hid (ho.out.keeps' kr1 (fun g hg e => (own_ne_old ho.out o_rb_B1.out) (by rw [← e]; exact hg)))
            replace hsb := Lib.hid (Nat.le_trans hsb.out kr1.size)
            clear kr1
            replace hX1 := Lib.hid (hX1.out.box hB1.out.1 (show Keeps (fun i => i = B1) W7 W8 by rw [hW8.out]; exact (keeps_setCell W7 ⟨B1, 0, none⟩ _).trans' (keeps_setCell _ ⟨B1, 1, none⟩ _)))
            replace hst := Lib.hid (show Step _ S2 w W8 by rw [hW8.out]; exact ((hst.out.set gB1.out _ _).set gB1.out _ _))
            replace hT := Lib.hid (show TxF W8 t f 4800 S2 by rw [hW8.out]; exact ((hT.out.set hB1.out.2 _ _).set hB1.out.2 _ _))
            replace hB1 := Lib.hid (show Bx W8 S2 B1 #[.slice (some ⟨ab, ao, none⟩) 600 ac, .slice a3 P1.length c3] 71 by rw [hW8.out]; exact ((hB1.out.set _ _).set _ _))
            replace hB2 := Lib.hid (show Bx W8 S2 B2 #[.slice (some ⟨ab, ao, none⟩) 600 ac, .slice a3 P1.length c3] 71 by rw [hW8.out]; exact ((hB2.out.other (Nat.ne_of_gt nB1B2.out) _ _).other (Nat.ne_of_gt nB1B2.out) _ _))
            refine hK.out _ _ (⟨hB2.out.cell 0 _ rfl, hB2.out.cell 1 _ rfl⟩) (fun hHeld => ?_)
            clear hK K
            try simp only [Act.put, List.getElem_toArray, List.getElem_cons_succ, List.getElem_cons_zero, List.setIfInBounds_toArray, List.set_cons_zero, List.set_cons_succ]
            refine wpAnyH_take (i := 5) (oi := _) (v := ?m36_v) rfl (by kernel_rfl) (by kernel_rfl) (by kernel_rfl) (fun _ _ _ h => h) (Or.inl ⟨by kernel_rfl, ?m36_h⟩) hHeld ?m36_r
            case m36_h => (intro w hSw; (try dsimp only at hSw); go_simp; try with_reducible rfl)
            try simp only [Act.put, List.getElem_toArray, List.getElem_cons_succ, List.getElem_cons_zero, List.setIfInBounds_toArray, List.set_cons_zero, List.set_cons_succ]
            refine wpAnyH_done (by kernel_rfl) ?_ _
            clear hHeld
            have c_B1_0 := hB1.out.cell 0 _ rfl
            have f_B1_0 := hB1.out.frz 0
            have c_B1_1 := hB1.out.cell 1 _ rfl
            have f_B1_1 := hB1.out.frz 1
            have l_B1 := hB1.out.lt
            have c_B2_0 := hB2.out.cell 0 _ rfl
            have f_B2_0 := hB2.out.frz 0
            have c_B2_1 := hB2.out.cell 1 _ rfl
            have f_B2_1 := hB2.out.frz 1
            have l_B2 := hB2.out.lt
            go_wp2_with fail
            clear c_B1_0 f_B1_0 c_B1_1 f_B1_1 l_B1 c_B2_0 f_B2_0 c_B2_1 f_B2_1 l_B2
            refine bodyPost_ret (results_tmp_row_tmp rfl rfl hB1.out.1 Tryz.underlying71 rfl (by kernel_rfl)) rfl ?_
            rw [← hQ.out]
            exact ⟨t, ab, ao, ac, a3, c3, _, _, rfl, hT.out, hX1.out, ho.out.view (fun g hg e => absurd (hSb.out g e) (Nat.not_lt.2 hg)), hst.out⟩
end Go.Proofs.YtefpbljekfkefaaGreat
