/- carracklaw03.TxOnce. -/
import Derived.Test.YtccllkgaakmdhaaW10
namespace Go.Proofs.Ytccllkgaakmdhaa
open Go.RowKit

theorem diff_sub {ws : List UInt64} {l : List Put} (hs : ws.length ≤ 131072) (h : GoodP ws l) {x : UInt64} (hx : x ∈ diffL ws (applyW ws l)) : x ∈ keysP l := by
  unfold diffL diffTo at hx
  obtain ⟨i, hi, rfl⟩ := List.mem_map.1 hx
  obtain ⟨hr, hne⟩ := List.mem_filter.1 hi
  have hi' : i < ws.length := List.mem_range.1 hr
  have hg := applyW_get h.1 h.2 i (offU i) hi' (off_ofNat (by omega))
  cases e : loadP l (offU i) with
  | none =>
    rw [hg, e] at hne
    simp at hne
  | some u => exact List.mem_map.2 ⟨_, loadP_mem e, rfl⟩
theorem diff_nodup {ws vs : List UInt64} (hs : ws.length ≤ 131072) : (diffL ws vs).Nodup := by
  unfold diffL diffTo List.Nodup
  rw [List.pairwise_map]
  have h1 : (List.range ws.length).Pairwise (fun a b => a < b) := List.pairwise_lt_range
  have h2 := h1.filter (fun i => ws[i]?.getD 0 != vs[i]?.getD 0)
  refine h2.imp_of_mem fun {a b} ha hb hlt e => ?_
  have h3 : a < ws.length := List.mem_range.1 (List.mem_filter.1 ha).1
  have h4 : b < ws.length := List.mem_range.1 (List.mem_filter.1 hb).1
  have := congrArg UInt64.toNat e
  rw [off_ofNat (by omega), off_ofNat (by omega)] at this
  omega
theorem diff_le {ws : List UInt64} {l : List Put} (hs : ws.length ≤ 131072) (h : GoodP ws l) : (diffL ws (applyW ws l)).length ≤ l.length := by
  have := nodup_sub (diff_nodup hs) (fun x hx => diff_sub hs h hx)
  simpa [keysP] using this
theorem keys_apart {l : List Put} (hn : (keysP l).Nodup) {i j : Nat} {x y : Put} (hi : l[i]? = some x) (hj : l[j]? = some y) (hne : j < i) : y.1 ≠ x.1 := by
  intro e
  have h1 := List.pairwise_iff_getElem.1 hn
  obtain ⟨a1, a2⟩ := List.getElem?_eq_some_iff.1 hi
  obtain ⟨b1, b2⟩ := List.getElem?_eq_some_iff.1 hj
  have := h1 j i (by simpa [keysP] using b1) (by simpa [keysP] using a1) hne
  simp only [keysP, List.getElem_map, a2, b2] at this
  exact this e
theorem once_load {ws : List UInt64} {l : List Put} (hn : (keysP l).Nodup) {i : Nat} {x : Put} (hi : l[i]? = some x) : txLoad ws l x.1 = x.2 := by
  unfold txLoad
  rw [loadP_nodup hn (List.mem_of_getElem? hi)]
  rfl
theorem Mem.copy {w : World} {s t : Nat} {l : List Put} {ws : List UInt64} {S : Nat → Prop} (h : Mem w s t l ws S) :
    Calls Try.prog 58 #[.pointer (some ⟨s, 0, none⟩)] w fun e w' =>
      ∃ p' q', e = .returned (.pointer (some ⟨p', 0, none⟩)) ∧ w.heap.size ≤ p' ∧ w.heap.size ≤ q' ∧ SegAt w' p' q' ws ∧ Keeps Nil w w' := by
  obtain ⟨q, m, tv, h1, h2, h3, h4, h5⟩ := h
  exact Copy_some h2
theorem Mem.diffOf {w : World} {s t p' q' : Nat} {l : List Put} {ws vs : List UInt64} {S : Nat → Prop} (h : Mem w s t l ws S) (h' : SegAt w p' q' vs) (hl : vs.length = ws.length) :
    Calls Try.prog 44 #[.pointer (some ⟨p', 0, none⟩), .pointer (some ⟨s, 0, none⟩)] w fun e w' => ∃ v, e = .returned v ∧ Own kU w' w.heap.size v (diffL vs ws) ∧ Keeps Nil w w' := by
  obtain ⟨q, m, tv, h1, h2, h3, h4, h5⟩ := h
  exact Diff_any h' h2 hl
theorem ne_u64 {a b : UInt64} (h : a ≠ b) : ((a.toNat : Int) == (b.toNat : Int)) = false := by
  rw [beq_eq_false_iff_ne]; intro e; exact h (UInt64.toNat_inj.1 (by omega))

set_option maxRecDepth 100000 in
set_option maxHeartbeats 2000000 in
theorem once_any {w : World} {v1 v2 : Value} {l k : List Put} (h1 : Look kP w v1 l) (h2 : Look kP w v2 k) :
    Calls Try.prog 11 #[v1, v2] w fun e w' => e = .returned (.bool true) ∧ Keeps Nil w w' := by
  obtain ⟨a1, c1, rfl, _⟩ := h1.val
  obtain ⟨a2, c2, rfl, _⟩ := h2.val
  have H := Lib.hid (And.intro h1 h2)
  clear h1 h2
  go_enter Try.func11, Try.ntmps11
  go_wp2_with fail
  refine (awake3 _).mono ?_
  rintro e w1 ⟨rfl, hK1⟩
  go_wp2_with fail
  refine (thought_any (H.out.1.keeps_nil hK1) (H.out.2.keeps_nil hK1)).mono ?_
  rintro e w2 ⟨s, t, b, o, cap, vP, S, rfl, hm, hv, hp, hK2, hS⟩
  obtain ⟨aP, cP, rfl, hPl⟩ := hp.val
  clear hPl
  obtain ⟨ws, hws⟩ : ∃ ws, ws = fillW 10 l := ⟨_, rfl⟩
  rw [← hws] at hm hv hp ⊢
  obtain ⟨P, hP⟩ : ∃ P, P = thP ws (k.take 40) := ⟨_, rfl⟩
  rw [← hP] at hm hp ⊢
  have hwl : ws.length = 10 := by rw [hws]; exact fillW_length 10 l
  have htold : told P = P := by rw [hP]; exact told_thP _ _
  have hgood : GoodP ws P := by rw [hP]; exact good_thP _ _
  have hPlen : P.length ≤ 10 := by have := good_length hgood; omega
  have hdl := diff_le (ws := ws) (l := P) (by omega) hgood
  have hSw : ∀ j, S j → w.heap.size ≤ j := fun j hj => Nat.le_trans hK1.size (hS j hj)
  obtain ⟨m, hmm⟩ : ∃ m, m = w2.heap.size := ⟨_, rfl⟩
  obtain ⟨w3, hw3⟩ : ∃ w3, w3 = w2.alloc (.cells #[.slice (some ⟨b, o, none⟩) 10 cap, .slice aP P.length cP] 28) := ⟨_, rfl⟩
  have hK3 : Keeps Nil w2 w3 := by rw [hw3]; exact (Keeps.refl Nil w2).alloc _
  have hKw := hK1.trans' (hK2.trans' hK3)
  have hm3 := hm.keeps_nil hK3
  have HA := Lib.hid hm3.copy
  have HW := Lib.hid (And.intro hw3 hmm)
  have H3 := Lib.hid (And.intro hKw (And.intro hm3 (And.intro hwl (And.intro htold (And.intro hgood (And.intro hSw hPlen))))))
  have HL := Lib.hid hdl
  clear hw3 hmm hKw hm hv hp hK1 hK2 hK3 hS hws hP hwl htold hgood hm3 hSw hdl
  go_wp2_with fail
  rw [← HW.out.1]
  refine HA.out.mono ?_
  rintro e w4 ⟨p2, q2, rfl, hp2, hq2, hs2, hK4⟩
  obtain ⟨hKw, hm3, hwl, htold, hgood, hSw, _⟩ := H3.out
  have hm4 := hm3.keeps_nil hK4
  have HB := Lib.hid (hm4.puts (by omega))
  have hS4 : ∀ g, S g → g ≠ p2 ∧ g ≠ q2 := fun g hg => by have := hm3.lt hg; exact ⟨by omega, by omega⟩
  have H4 := Lib.hid (And.intro hs2 (And.intro hK4 (And.intro hm4 hS4)))
  clear hs2 hK4 hKw hm3 hwl htold hgood hSw hm4 hS4 hp2 hq2 HA
  go_wp2_with fail
  refine HB.out.mono ?_
  rintro e w5 ⟨vp, rfl, hop, hK5⟩
  obtain ⟨hs2, hK4, hm4, hS4⟩ := H4.out
  obtain ⟨hKw, hm3, hwl, htold, hgood, hSw, _⟩ := H3.out
  rw [htold] at hop
  have hvp := hop.view (S := S) (fun g hg e => by have := hm4.lt e; omega)
  obtain ⟨ap, cp, rfl, _⟩ := hvp.val
  have hm5 := hm4.keeps_nil hK5
  have HA := Lib.hid (hm5.apply (by omega))
  have H5 := Lib.hid (And.intro (hs2.keeps hK5 (fun e => e) (fun e => e)) (And.intro hvp (And.intro hS4 (And.intro (hKw.trans' (hK4.trans' hK5)) (And.intro hwl (And.intro htold (And.intro hgood hSw)))))))
  clear hs2 hK4 hm4 hS4 hKw hm3 hwl htold hgood hSw hop hvp hm5 hK5 HB H4 H3
  go_wp2_with fail
  refine HA.out.mono ?_
  rintro e w6 ⟨rfl, hm6, hK6⟩
  obtain ⟨hs2, hvp, hS4, hKw, hwl, htold, hgood, hSw⟩ := H5.out
  rw [htold] at hm6
  have hs6 := hs2.keeps hK6 (fun e => (hS4 _ e).1 rfl) (fun e => (hS4 _ e).2 rfl)
  have hvp6 := hvp.keeps hK6 (fun _ e => e)
  have HB := Lib.hid (hm6.diffOf hs6 (by rw [applyW_length]))
  have hK06 : Keeps Nil w w6 := hKw.trans hK6 (fun i hi e => by have := hSw i e; omega)
  have H6 := Lib.hid (And.intro hm6 (And.intro hvp6 (And.intro hK06 (And.intro hwl hgood))))
  clear hs2 hvp hS4 hKw hwl htold hgood hSw hm6 hs6 hvp6 hK06 hK6 HA H5
  go_wp2_with fail
  refine HB.out.mono ?_
  rintro e w7 ⟨vd, rfl, hod, hK7⟩
  obtain ⟨hm6, hvp6, hK06, hwl, hgood⟩ := H6.out
  have hdl := HL.out
  obtain ⟨D, hD⟩ : ∃ D, D = diffL ws (applyW ws P) := ⟨_, rfl⟩
  rw [← hD] at hod hdl
  have hvd := hod.view (S := Nil) (fun g hg e => e)
  obtain ⟨ad, cd, rfl, _⟩ := hvd.val
  have hsub : ∀ x ∈ D, x ∈ keysP P := fun x hx => by rw [hD] at hx; exact diff_sub (by omega) hgood hx
  have H7 := Lib.hid (And.intro (hm6.keeps_nil hK7) (And.intro (hvp6.keeps_nil hK7) (And.intro (hK06.trans' hK7) (And.intro hvd (And.intro hsub hgood)))))
  clear hm6 hvp6 hK06 hwl hgood hD hvd hsub hod hK7 H6 HB HL
  go_wp2_with fail
  go_loopw [12] (fun i wr => ∃ j : Nat, j ≤ P.length ∧ i = .int .i64 (j : Int) ∧ Keeps Nil w7 wr) (fun i _ => 20 - (intOf i).toNat)
  case atStart => exact ⟨0, by omega, rfl, Keeps.refl _ _⟩
  case round =>
    obtain ⟨i, hi, rfl, hK⟩ := hrel
    by_cases hlt : i < P.length
    · obtain ⟨x, hx⟩ : ∃ x, P[i]? = some x := ⟨P[i], by simp⟩
      obtain ⟨hm7, hvp7, hK07, hvd, hsub, hgood⟩ := H7.out
      obtain ⟨bP, oP, cap3, hvv, _, _, hbl, _, hcell⟩ := hvp7.pos (by omega)
      simp only [Value.slice.injEq] at hvv
      obtain ⟨rfl, _, rfl⟩ := hvv
      obtain ⟨x1, x2⟩ := View.cellP hcell i x hx
      have HC := Lib.hid hcell
      have HX := Lib.hid (And.intro hx hgood)
      have HM := Lib.hid hm7
      clear hm7 hvp7 hK07 hvd hsub hgood hcell hx
      go_wp2_with fail
      go_loopw [13] (fun q wr' => ∃ j : Nat, j ≤ i ∧ q = .int .i64 (j : Int) ∧ Keeps Nil w7 wr') (fun q _ => 20 - (intOf q).toNat)
      case atStart => exact ⟨0, by omega, rfl, hK⟩
      case round =>
        obtain ⟨j, hj, rfl, hK2⟩ := hrel
        have xb1 := (hK2.cell hbl (fun e => e) _).trans x1
        have xb2 := (hK2.cell hbl (fun e => e) _).trans x2
        by_cases hlj : j < i
        · obtain ⟨y, hy⟩ : ∃ y, P[j]? = some y := ⟨P[j]'(by omega), by simp⟩
          have hap := ne_u64 (keys_apart HX.out.2.1 HX.out.1 hy hlj)
          have yb1 := (hK2.cell hbl (fun e => e) _).trans (View.cellP HC.out j y hy).1
          have HY := Lib.hid hy
          clear hy x1 x2 xb2
          go_wp2_with fail
          go_quiet (fail)
          go_wp2_with fail
          go_roundw
          case rel => exact ⟨j + 1, by omega, by go_num, hK2.trans' ⟨rfl, rfl, rfl, Nat.le_refl _, fun _ _ _ => rfl⟩⟩
          case measure => simp [intOf]; omega
        · obtain rfl : j = i := by omega
          have hbl2 : bP < _ := Nat.lt_of_lt_of_le hbl (hK2.trans' (keeps_drew _)).size
          have LT := Lib.hid ((HM.out.keeps_nil hK2).keeps_nil (keeps_drew _) |>.load x.1 _ rfl)
          rw [once_load HX.out.2.1 HX.out.1] at LT
          clear x1 x2
          go_wp2_with fail
          go_region_held3 (fun w' => w'.cell? ⟨bP, oP + j * 2, none⟩ = some (.int .u64 ↑x.1.toNat) ∧ w'.cell? ⟨bP, oP + j * 2 + 1, none⟩ = some (.int .u64 ↑x.2.toNat))
            (first | exact ⟨xb1, xb2⟩ | exact ⟨z1, z2⟩ | go_keep)
            ((go_at_call 36; refine LT.out.mono ?_; rintro e w9 ⟨rfl, hK9⟩; have z1 := (hK9.cell hbl2 (fun e => e) _).trans xb1; have z2 := (hK9.cell hbl2 (fun e => e) _).trans xb2))
          have HK9 := Lib.hid (hK2.trans' ((keeps_drew _).trans' hK9))
          clear hK9 hK2 xb1 xb2 z1 z2 hbl2 LT
          go_wp2_with fail
          go_roundw
          case rel => exact ⟨j + 1, by omega, by go_num, HK9.out⟩
          case measure => simp [intOf]; omega
    · have HK := Lib.hid hK
      clear hK
      go_wp2_with fail
      obtain ⟨hm7, hvp7, hK07, hvd, hsub, hgood⟩ := H7.out
      have hDm : D.length ≤ 10 := by omega
      clear hm7 hvp7 hK07 hvd hsub hgood
      go_loopw [14] (fun q wr => ∃ j : Nat, j ≤ D.length ∧ q = .int .i64 (j : Int) ∧ Keeps Nil w7 wr) (fun q _ => 20 - (intOf q).toNat)
      case atStart => exact ⟨0, by omega, rfl, HK.out⟩
      case round =>
        obtain ⟨j, hj, rfl, hK⟩ := hrel
        by_cases hlj : j < D.length
        · obtain ⟨y, hy⟩ : ∃ y, D[j]? = some y := ⟨D[j]'(by omega), by simp⟩
          obtain ⟨hm7, hvp7, hK07, hvd, hsub, hgood⟩ := H7.out
          obtain ⟨bD, oD, cap3, hvv, _, _, hbl, _, hcell⟩ := hvd.pos (by omega)
          simp only [Value.slice.injEq] at hvv
          obtain ⟨rfl, _, rfl⟩ := hvv
          have y1 : w7.cell? ⟨bD, oD + j, none⟩ = some (.int .u64 ↑y.toNat) := by
            have := hcell j 0 (by decide) (by omega)
            rw [hy] at this
            simpa using this
          have HY := Lib.hid (And.intro hy (hsub y (List.mem_of_getElem? hy)))
          have HV := Lib.hid hvp7
          clear hm7 hvp7 hK07 hvd hsub hgood hcell hy
          go_wp2_with fail
          go_loopw [15, 16] (fun v q wr => ∃ n : Nat, n ≤ P.length ∧ q = .int .i64 (n : Int) ∧ v = .bool (decide (y ∈ keysP (P.take n))) ∧ Keeps Nil w7 wr) (fun _ q _ => 20 - (intOf q).toNat)
          case atStart => exact ⟨0, by omega, rfl, by simp [keysP], hK⟩
          case round =>
            obtain ⟨n, hn, rfl, rfl, hK2⟩ := hrel
            have yb := (hK2.cell hbl (fun e => e) _).trans y1
            by_cases hln : n < P.length
            · obtain ⟨x, hx⟩ : ∃ x, P[n]? = some x := ⟨P[n]'(by omega), by simp⟩
              obtain ⟨bP, oP, cap4, hvv, _, _, hbl2, _, hcell⟩ := HV.out.pos (by omega)
              simp only [Value.slice.injEq] at hvv
              obtain ⟨rfl, _, rfl⟩ := hvv
              have xb := (hK2.cell hbl2 (fun e => e) _).trans (View.cellP hcell n x hx).1
              have HX := Lib.hid hx
              clear hcell hx y1
              by_cases hin : y ∈ keysP (P.take n)
              · have hin' : y ∈ keysP (P.take (n + 1)) := by rw [take_succ' HX.out]; simp [keysP] at hin ⊢; exact .inl hin
                have HI := Lib.hid hin'
                rw [decide_eq_true hin]
                clear hin hin'
                go_wp2_with fail
                go_quiet (fail)
                go_wp2_with fail
                go_roundw
                case rel => exact ⟨n + 1, by omega, by go_num, by rw [decide_eq_true HI.out], hK2.trans' ⟨rfl, rfl, rfl, Nat.le_refl _, fun _ _ _ => rfl⟩⟩
                case measure => simp [intOf]; omega
              · rw [decide_eq_false hin]
                have HN := Lib.hid hin
                clear hin
                by_cases hd : x.1 = y
                · have hb' : ((x.1.toNat : Int) == (y.toNat : Int)) = true := by rw [hd]; simp
                  have HD := Lib.hid hd
                  clear hd
                  go_wp2_with fail
                  go_quiet (fail)
                  go_wp2_with fail
                  go_roundw
                  case rel =>
                    have hin' : y ∈ keysP (P.take (n + 1)) := by rw [take_succ' HX.out, ← HD.out]; simp [keysP]
                    exact ⟨n + 1, by omega, by go_num, by rw [decide_eq_true hin'], hK2.trans' ⟨rfl, rfl, rfl, Nat.le_refl _, fun _ _ _ => rfl⟩⟩
                  case measure => simp [intOf]; omega
                · have hb' := ne_u64 hd
                  have HD := Lib.hid hd
                  clear hd
                  go_wp2_with fail
                  go_quiet (fail)
                  go_wp2_with fail
                  go_roundw
                  case rel =>
                    have hin' : y ∉ keysP (P.take (n + 1)) := by
                      rw [take_succ' HX.out]
                      have h1 := HN.out
                      simp only [keysP, List.map_append, List.mem_append, List.map_cons, List.map_nil, List.mem_singleton, not_or] at h1 ⊢
                      exact ⟨h1, fun e => HD.out e.symm⟩
                    exact ⟨n + 1, by omega, by go_num, by rw [decide_eq_false hin'], hK2.trans' ⟨rfl, rfl, rfl, Nat.le_refl _, fun _ _ _ => rfl⟩⟩
                  case measure => simp [intOf]; omega
            · have hall : P.take n = P := List.take_of_length_le (by omega)
              rw [hall, decide_eq_true HY.out.2]
              clear hall
              go_wp2_with fail
              go_roundw
              case rel => exact ⟨j + 1, by omega, by go_num, hK2⟩
              case measure => simp [intOf]; omega
        · have HKe := Lib.hid (H7.out.2.2.1.trans' hK)
          clear hK
          have hle : ((D.length : Int) ≤ (P.length : Int)) := by omega
          have hle2 : ((P.length : Int) ≤ 10) := by omega
          go_wp2_with fail
          go_ret
          exact ⟨rfl, HKe.out⟩
end Go.Proofs.Ytccllkgaakmdhaa
