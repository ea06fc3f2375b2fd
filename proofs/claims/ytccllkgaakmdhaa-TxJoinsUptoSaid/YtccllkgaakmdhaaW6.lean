/- carracklaw03.TxJoins, where both rows are of 1048576 puts at most. -/
import Derived.Test.YtccllkgaakmdhaaW11
namespace Go.Proofs.Ytccllkgaakmdhaa
open Go.RowKit

section
variable {α : Type}
theorem wpList_append_look (K : Kind α) {w : World} {ops : Array Oper} {rest : List Oper} {o : Oper} {a : Act} {Q : Exit → Act → World → Prop} (hgd : o.guard = none) (s x : Operand)
    (ho : o.op = .call { callee := .builtin .append, args := #[s, x], argTypes := #[K.slice, K.slice] })
    {base : Nat} {v v2 : Value} {l l2 : List α} (hown : Own K w base v l) (hs : a.eval s = v) (hx : a.eval x = v2) (hv : Look K w v2 l2) (hn : (l.length + l2.length) * K.bytes ≤ 140737488355328) (hbase : base ≤ w.heap.size) (hb1 : 0 < K.bytes)
    (h : ∀ v' w', Own K w' base v' (l ++ l2) → Keeps (fun k => v.ownBlock = some k) w w' → wpList Try.prog ops Q rest (a.put o.dst v') w') :
    wpList Try.prog ops Q (o :: rest) a w := by
  by_cases hp : 0 < l2.length
  · exact wpList_append_all K hgd s x ho hown hs hx (hv.view hp) hp hn hbase hb1 (fun v' w' h1 h2 _ => h v' w' h1 h2)
  · obtain ⟨a2, c, rfl, _⟩ := hv.val
    have h0 : l2 = [] := List.eq_nil_of_length_eq_zero (by omega)
    subst h0
    exact wpList_append_zero K hgd s x ho hown hs a2 c hx (h v w (by simpa using hown) (Keeps.refl _ _))
end

theorem Mem.again {w : World} {s t : Nat} {l : List Put} {ws : List UInt64} {S : Nat → Prop} (h : Mem w s t l ws S) :
    Calls Try.prog 42 #[.pointer (some ⟨s, 0, none⟩)] w fun e w' => ∃ t' S', e = .returned (.pointer (some ⟨t', 0, none⟩)) ∧ Mem w' s t' [] ws S' ∧ Keeps Nil w w' ∧ ∀ k, S' k → S k ∨ w.heap.size ≤ k := by
  obtain ⟨q, m, tv, h1, h2, h3, h4, h5⟩ := h
  refine (Mem.new h2).mono ?_
  rintro e w' ⟨t', S', rfl, g1, g2, g3, _⟩
  refine ⟨t', S', rfl, g1, g2, fun k hk => ?_⟩
  rcases g3 k hk with rfl | rfl | e
  · exact .inl ((h5 _).2 (.inr (.inl rfl)))
  · exact .inl ((h5 _).2 (.inr (.inr rfl)))
  · exact .inr e
theorem Mem.diff2 {w : World} {s t s' t' : Nat} {l l' : List Put} {ws vs : List UInt64} {S S' : Nat → Prop} (h : Mem w s t l ws S) (h' : Mem w s' t' l' vs S') (hl : ws = vs) :
    Calls Try.prog 44 #[.pointer (some ⟨s, 0, none⟩), .pointer (some ⟨s', 0, none⟩)] w fun e w' => ∃ a c, e = .returned (.slice a 0 c) ∧ Keeps Nil w w' := by
  obtain ⟨q, m, tv, h1, h2, h3, h4, h5⟩ := h'
  refine (h.diff h2 (by rw [hl])).mono ?_
  rintro e w' ⟨v, rfl, ho, hK⟩
  rw [hl, diffL_self] at ho
  obtain ⟨a, c, rfl⟩ := Own.empty ho
  exact ⟨a, c, rfl, hK⟩

set_option maxRecDepth 100000 in
set_option maxHeartbeats 2000000 in
theorem joins_any {w : World} {v1 v2 v3 : Value} {l k m : List Put} (h1 : Look kP w v1 l) (h2 : Look kP w v2 k) (h3 : Look kP w v3 m) (_ : l.length ≤ 1048576) (hk : k.length ≤ 1048576) (hm : m.length ≤ 1048576) :
    Calls Try.prog 6 #[v1, v2, v3] w fun e w' => e = .returned (.bool true) ∧ Keeps Nil w w' := by
  obtain ⟨a1, c1, rfl, _⟩ := h1.val
  obtain ⟨a2, c2, rfl, _⟩ := h2.val
  obtain ⟨a3, c3, rfl, _⟩ := h3.val
  have H := Lib.hid (And.intro h1 (And.intro h2 h3))
  have hwr : IntKind.i64.wrap ((k.length : Int) + (m.length : Int)) = (k.length : Int) + (m.length : Int) := IntWalk.i64_in _ (by omega)
  clear h1 h2 h3
  by_cases hsum : k.length + m.length ≤ 40
  · have hsum' : ¬ ((40 : Int) < (k.length : Int) + (m.length : Int)) := by omega
    go_enter Try.func6, Try.ntmps6
    go_wp2_with fail
    refine (awake3 _).mono ?_
    rintro e w1 ⟨rfl, hK1⟩
    go_wp2_with fail
    refine (thought_any (H.out.1.keeps_nil hK1) (H.out.2.1.keeps_nil hK1)).mono ?_
    rintro e w2 ⟨s, t, b, o, cap, vP, S, rfl, hM, hv, hp, hK2, hS⟩
    obtain ⟨aP, cP, rfl, hPl⟩ := hp.val
    clear hPl
    obtain ⟨ws, hws⟩ : ∃ ws, ws = fillW 10 l := ⟨_, rfl⟩
    rw [← hws] at hM hv hp ⊢
    obtain ⟨P, hP⟩ : ∃ P, P = thP ws (k.take 40) := ⟨_, rfl⟩
    rw [← hP] at hM hp ⊢
    have hk40 : k.take 40 = k := List.take_of_length_le (by omega)
    rw [hk40] at hP
    have hwl : ws.length = 10 := by rw [hws]; exact fillW_length 10 l
    have hPlen : P.length ≤ 40 := by rw [hP]; have := thP_length ws k; omega
    have htold : told P = P := by rw [hP]; exact told_thP _ _
    have happ : applyW ws P = applyW ws k := by rw [hP]; exact applyW_thP (by omega) k
    have hSw : ∀ j, S j → w.heap.size ≤ j := fun j hj => Nat.le_trans hK1.size (hS j hj)
    obtain ⟨w3, hw3⟩ : ∃ w3, w3 = w2.alloc (.cells #[.slice (some ⟨b, o, none⟩) 10 cap, .slice aP P.length cP] 28) := ⟨_, rfl⟩
    have hK3 : Keeps Nil w2 w3 := by rw [hw3]; exact (Keeps.refl Nil w2).alloc _
    have HA := Lib.hid ((hM.keeps_nil hK3).apply (by omega))
    have HW := Lib.hid hw3
    have H3 := Lib.hid (And.intro (hK1.trans' (hK2.trans' hK3)) (And.intro hSw (And.intro htold (And.intro happ (And.intro hwl hws)))))
    clear hw3 hM hv hp hK1 hK2 hK3 hS hws hP hwl htold happ hSw hk40
    go_wp2_with fail
    rw [← HW.out]
    refine HA.out.mono ?_
    rintro e w4 ⟨rfl, hM4, hK4⟩
    obtain ⟨hKw, hSw, htold, happ, hwl, hws⟩ := H3.out
    rw [htold, happ] at hM4
    have hK04 : Keeps Nil w w4 := hKw.trans hK4 (fun i hi e => by have := hSw i e; omega)
    have HB := Lib.hid hM4.again
    have H4 := Lib.hid (And.intro hK04 (And.intro hSw (And.intro hwl hws)))
    clear hKw hSw htold happ hwl hws hM4 hK4 hK04 HA H3
    go_wp2_with fail
    refine HB.out.mono ?_
    rintro e w5 ⟨u, S5, rfl, hM5, hK5, hS5⟩
    obtain ⟨hK04, hSw, hwl, hws⟩ := H4.out
    have hS5w : ∀ j, S5 j → w.heap.size ≤ j := fun j hj => (hS5 j hj).elim (hSw j) (fun e => by have := hK04.size; omega)
    obtain ⟨ws1, hws1⟩ : ∃ ws1, ws1 = applyW ws k := ⟨_, rfl⟩
    rw [← hws1] at hM5
    have hw1l : ws1.length = 10 := by rw [hws1, applyW_length]; exact hwl
    have H5 := Lib.hid (And.intro hM5 (And.intro (hK04.trans' hK5) (And.intro hS5w (And.intro hws (And.intro hws1 hw1l)))))
    clear hK04 hSw hwl hws hM5 hK5 hS5 hS5w hws1 hw1l HB H4
    go_wp2_with fail
    have hml : m.length ≤ 40 := by omega
    go_loopw [12] (fun i wr => ∃ j : Nat, j ≤ m.length ∧ i = .int .i64 (j : Int) ∧ Hid (∃ S', Mem wr s u (thP ws1 (m.take j)) ws1 S' ∧ Step S5 S' w5 wr)) (fun i _ => 60 - (intOf i).toNat)
    case atStart => exact ⟨0, by omega, rfl, S5, H5.out.1, Step.refl _ _⟩
    case round =>
      obtain ⟨j, hj, rfl, HH⟩ := hrel
      by_cases hlt : j < m.length
      · obtain ⟨x, hx⟩ : ∃ x, m[j]? = some x := ⟨m[j]'(by omega), by simp⟩
        obtain ⟨S', r1, r2⟩ := HH.out
        obtain ⟨b2, o2, cap3, hvv, _, _, hbl, _, hcell⟩ := H.out.2.2.pos (by omega)
        simp only [Value.slice.injEq] at hvv
        obtain ⟨rfl, _, rfl⟩ := hvv
        obtain ⟨y1, y2⟩ := View.cellP hcell j x hx
        have hKr : Keeps Nil w _ := H5.out.2.1.trans r2.keeps (fun i hi e => by have := H5.out.2.2.1 i e; omega)
        have y1' := (hKr.cell hbl (fun e => e) _).trans y1
        have y2' := (hKr.cell hbl (fun e => e) _).trans y2
        have HX := Lib.hid hx
        have hplen : (thP ws1 (m.take j)).length ≤ 40 := by have := thP_length ws1 (m.take j); have := List.length_take_le j m; omega
        have HR := Lib.hid ((r1.keeps_nil (keeps_drew _)).store x.1 x.2 (by omega) _ _ rfl rfl)
        have R := Lib.hid (And.intro r1 r2)
        clear hcell hx y1 y2 r1 r2 hKr hplen HH
        go_wp2_with fail
        go_still_tail 11, (by kernel_rfl)
        change wpList _ _ _ _ _ (World.drew _)
        go_wp2_with fail
        refine HR.out.mono ?_
        rintro e w6 ⟨rfl, S6, hM6, hst6⟩
        have H6 := Lib.hid (And.intro hM6 hst6)
        clear hM6 hst6 y1' y2'
        go_wp2_with fail
        go_roundw
        case rel =>
          refine ⟨j + 1, by omega, by go_num, S6, ?_, (R.out.2.nil (keeps_drew _)).trans H6.out.2⟩
          rw [thP_take HX.out]; exact H6.out.1
        case measure => simp [intOf]; omega
      · obtain ⟨S', r1, r2⟩ := HH.out
        have hej : m.take j = m := List.take_of_length_le (by omega)
        rw [hej] at r1
        obtain ⟨hM5, hK05, hS5w, hws, hws1, hw1l⟩ := H5.out
        have hplen : (thP ws1 m).length ≤ 40 := by have := thP_length ws1 m; omega
        have hS'w : ∀ g, S' g → w.heap.size ≤ g := fun g hg => (r2.grow g hg).elim (hS5w g) (fun e => by have := hK05.size; omega)
        have hKr : Keeps Nil w _ := hK05.trans r2.keeps (fun i hi e => by have := hS5w i e; omega)
        have HA := Lib.hid (r1.apply (by omega))
        have H6 := Lib.hid (And.intro hKr (And.intro hS'w (And.intro hws (And.intro hws1 hw1l))))
        clear hM5 hK05 hS5w hws hws1 hw1l hplen hS'w hKr r1 r2 HH H5 hej
        go_wp2_with fail
        refine HA.out.mono ?_
        rintro e w7 ⟨rfl, hM7, hK7⟩
        obtain ⟨hKr, hS'w, hws, hws1, hw1l⟩ := H6.out
        rw [told_thP, applyW_thP (by omega)] at hM7
        have hK07 : Keeps Nil w w7 := hKr.trans hK7 (fun i hi e => by have := hS'w i e; omega)
        have H7 := Lib.hid (And.intro hM7 (And.intro hK07 (And.intro hS'w (And.intro hws (And.intro hws1 hw1l)))))
        have L2 := Lib.hid (H.out.2.1.keeps_nil (hK07.alloc (.cells #[] 38)))
        have hK07' := Lib.hid hK07
        clear hKr hS'w hws hws1 hw1l hM7 hK07 hK7 HA H6
        have hb2 : (([] : List Put).length + k.length) * kP.bytes ≤ 140737488355328 := by
          rw [show kP.bytes = 16 from rfl, List.length_nil]; omega
        have hb3 : (([] ++ k : List Put).length + m.length) * kP.bytes ≤ 140737488355328 := by
          rw [show kP.bytes = 16 from rfl, List.nil_append]; omega
        go_wp2_with (first
          | (at_builtin; refine wpList_append_look kP rfl _ _ rfl (Own.made kP w7 w7.heap.size (Nat.le_refl _)) rfl rfl L2.out hb2 (by simp) (by decide) ?_; intro v8 w8 ho8 hK8; clear L2
             have hK08 : Keeps Nil w w8 := (hK07'.out.alloc _).trans hK8 (fun i hi e => by have := hK07'.out.size; simp [Value.ownBlock] at e; omega)
             have hK78 : Keeps Nil w7 w8 := ((Keeps.refl Nil w7).alloc _).trans hK8 (fun i hi e => by simp [Value.ownBlock] at e; omega)
             have L3 := Lib.hid (And.intro (H.out.2.2.keeps_nil hK08) ho8)
             have HK8 := Lib.hid (And.intro hK08 hK78)
             have hsz8 : w7.heap.size ≤ w8.heap.size := by have := hK8.size; simp at this; omega
             clear ho8 hK8 hK08 hK78)
          | (at_builtin; refine wpList_append_look kP rfl _ _ rfl L3.out.2 rfl rfl L3.out.1 hb3 hsz8 (by decide) ?_; intro v9 w9 ho9 hK9))
        obtain ⟨hK08, hK78⟩ := HK8.out
        have hnew : ∀ g, v8.ownBlock = some g → w7.heap.size ≤ g := fun g e => (L3.out.2.block e).1
        have hK09 : Keeps Nil w w9 := hK08.trans hK9 (fun i hi e => by have := hnew i e; have := hK07'.out.size; omega)
        have hK79 : Keeps Nil w7 w9 := hK78.trans hK9 (fun i hi e => by have := hnew i e; omega)
        obtain ⟨hM7, hK07, hS'w, hws, hws1, hw1l⟩ := H7.out
        have hM9 := hM7.keeps_nil hK79
        have hlk : Look kP w9 v9 (k ++ m) := by have := (ho9.view (S := Nil) (fun g hg e => e)).look; simpa using this
        have HT := Lib.hid (thought_any (H.out.1.keeps_nil hK09) hlk)
        have hb40 : (k ++ m).take 40 = k ++ m := List.take_of_length_le (by rw [List.length_append]; omega)
        have hfin : applyW ws (thP ws (k ++ m)) = applyW ws1 m := by
          rw [applyW_thP (by rw [hws, fillW_length]; decide), hws1]; simp [applyW]
        have hpl : (thP ws (k ++ m)).length ≤ 40 := by have := thP_length ws (k ++ m); rw [List.length_append] at this; omega
        have H9 := Lib.hid (And.intro hM9 (And.intro hK09 (And.intro hws (And.intro hb40 (And.intro hfin hpl)))))
        clear hK08 hK78 hnew hK09 hK79 hM7 hK07 hS'w hws hws1 hw1l hM9 hlk hb40 hfin hpl ho9 hK9 L3 H7 HK8 hK07' hsz8 hb2 hb3
        refine HT.out.mono ?_
        rintro e w10 ⟨r, v, b', o', cap', vP', S2, rfl, hM', hv', hp', hK10, hS2⟩
        obtain ⟨aP', cP', rfl, hPl⟩ := hp'.val
        clear hPl
        obtain ⟨hM9, hK09, hws, hb40, hfin, hpl⟩ := H9.out
        rw [hb40, ← hws] at hM' hp' ⊢
        obtain ⟨P', hP'⟩ : ∃ P', P' = thP ws (k ++ m) := ⟨_, rfl⟩
        rw [← hP'] at hM' hp' hfin hpl ⊢
        have htold : told P' = P' := by rw [hP']; exact told_thP _ _
        obtain ⟨w11, hw11⟩ : ∃ w11, w11 = w10.alloc (.cells #[.slice (some ⟨b', o', none⟩) 10 cap', .slice aP' P'.length cP'] 28) := ⟨_, rfl⟩
        have hK11 : Keeps Nil w10 w11 := by rw [hw11]; exact (Keeps.refl Nil w10).alloc _
        have HA := Lib.hid ((hM'.keeps_nil hK11).apply (by omega))
        have HW2 := Lib.hid hw11
        have hS2w : ∀ g, S2 g → w9.heap.size ≤ g := hS2
        have hlt9 : ∀ g, S' g → g < w9.heap.size := fun g hg => hM9.lt hg
        have H11 := Lib.hid (And.intro ((hM9.keeps_nil hK10).keeps_nil hK11) (And.intro (hK09.trans' (hK10.trans' hK11)) (And.intro htold (And.intro hfin (And.intro hS2w (And.intro hK09.size hlt9))))))
        clear hM9 hK09 hws hb40 hfin hpl hP' htold hw11 hK11 hM' hv' hp' hK10 hS2 hS2w hlt9 H9 HT
        go_wp2_with fail
        rw [← HW2.out]
        refine HA.out.mono ?_
        rintro e w12 ⟨rfl, hM12, hK12⟩
        obtain ⟨hMs, hK011, htold, hfin, hS2w, hsz, hlt9⟩ := H11.out
        rw [htold, hfin] at hM12
        have hMs12 := hMs.keeps hK12 (fun g hg e => by have := hS2w g e; have := hlt9 g hg; omega)
        have HD := Lib.hid (hM12.diff2 hMs12 rfl)
        have HE := Lib.hid (hK011.trans hK12 (fun i hi e => by have := hS2w i e; omega) : Keeps Nil w w12)
        clear hMs hK011 htold hfin hS2w hsz hlt9 hM12 hK12 hMs12 H11 HA
        go_wp2_with fail
        refine HD.out.mono ?_
        rintro e w13 ⟨ae, ce, rfl, hK13⟩
        have HF := Lib.hid (HE.out.trans' hK13)
        clear hK13
        go_wp2_with fail
        go_ret
        exact ⟨rfl, HF.out⟩
  · have hsum' : ((40 : Int) < (k.length : Int) + (m.length : Int)) := by omega
    go_enter Try.func6, Try.ntmps6
    go_wp2_with fail
    refine (awake3 _).mono ?_
    rintro e w1 ⟨rfl, hK1⟩
    go_wp2_with fail
    go_ret
    exact ⟨rfl, hK1⟩
end Go.Proofs.Ytccllkgaakmdhaa
