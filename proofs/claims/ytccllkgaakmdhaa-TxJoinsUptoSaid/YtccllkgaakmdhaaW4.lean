/- carracklaw03.TxLater. -/
import Derived.Test.YtccllkgaakmdhaaL3Awake
import Derived.Test.YtccllkgaakmdhaaL3Pure
import Derived.Test.YtccllkgaakmdhaaEqS
import Derived.Test.YtccllkgaakmdhaaW7
import Derived.Deep.RegionHeld3
namespace Go.Proofs.Ytccllkgaakmdhaa
open Go.RowKit

theorem later_out {ws : List UInt64} {k : List Put} {off : UInt64} (h : inB ws off = false) (v : UInt64) : txLoad (putW ws off v) (thP ws k) off = 0 := by
  have hn : loadP (thP ws k) off = none := by
    cases e : loadP (thP ws k) off with
    | none => rfl
    | some u =>
      have := (good_thP ws k).2 _ (loadP_mem e)
      rw [h] at this; cases this
  simp [txLoad, hn, loadV, putW, h]
theorem later_hit {ws : List UInt64} {l : List Put} {off : UInt64} (h : off ∈ keysP l) (v : UInt64) : txLoad (putW ws off v) l off = txLoad ws l off := by
  unfold txLoad
  cases e : loadP l off with
  | none => exact absurd h (loadP_none.1 e)
  | some u => rfl
theorem later_miss {ws : List UInt64} {l : List Put} {off : UInt64} (h : off ∉ keysP l) (hin : inB ws off = true) (v : UInt64) : txLoad (putW ws off v) l off = v := by
  have hb := inB_iff.1 hin
  unfold txLoad loadV
  rw [loadP_none.2 h, if_pos (by rw [inB_len (putW_length _ _ _)]; exact hin), putW_get _ _ _ hin _ (by omega), if_pos (by omega)]
  rfl

/-- a Tx's two rows in a block, behind steps that turn nothing -/
theorem row2 {w : World} {m : Nat} {a b : Value} {T : TypeId} (h : w.heap[m]? = some (.cells #[a, b] T (0, 0))) : w.cell? ⟨m, 0, none⟩ = some a ∧ w.cell? ⟨m, 1, none⟩ = some b :=
  ⟨by simp [World.cell?, h], by simp [World.cell?, h]⟩

theorem rTxLoad10 {S : Nat → Prop} {w : World} {b o cap : Nat} {vP : Value} {l : List Put} {ws : List UInt64} (h : View kU S w (.slice (some ⟨b, o, none⟩) 10 cap) ws) (hl : ws.length = 10) (h2 : View kP S w vP l) (off : UInt64) (x : Int) (hx : x = (off.toNat : Int)) :
    Calls Try.prog 35 #[.agg #[.slice (some ⟨b, o, none⟩) 10 cap, vP], .int .u64 x] w fun e w' => e = .returned (.int .u64 ↑(txLoad ws l off).toNat) ∧ Keeps Nil w w' := by
  rw [← hl] at h
  have := rTxLoad_any h h2 off x hx
  rw [hl] at this
  exact this

set_option maxRecDepth 100000 in
set_option maxHeartbeats 1000000 in
theorem later_any {w : World} {v2 : Value} {k : List Put} (h2 : Look kP w v2 k) (off val : UInt64) :
    Calls Try.prog 4 #[v2, .agg #[.int .u64 (off.toNat : Int), .int .u64 (val.toNat : Int)]] w fun e w' => e = .returned (.bool true) ∧ Keeps Nil w w' := by
  obtain ⟨a2, c2, rfl, _⟩ := h2.val
  have H := Lib.hid h2
  clear h2
  go_enter Try.func4, Try.ntmps4
  go_wp2_with fail
  obtain ⟨bx, hbx⟩ : ∃ bx, bx = w.heap.size := ⟨_, rfl⟩
  obtain ⟨w0, hw0⟩ : ∃ w0, w0 = w.alloc (.cells #[.int .u64 ↑off.toNat, .int .u64 ↑val.toNat] 38) := ⟨_, rfl⟩
  have hK0 : Keeps Nil w w0 := by rw [hw0]; exact (Keeps.refl Nil w).alloc _
  have q0 : w0.heap[bx]? = some (.cells #[.int .u64 ↑off.toNat, .int .u64 ↑val.toNat] 38 (0, 0)) := by rw [hw0, hbx]; exact heap_new w _
  rw [← hw0, ← hbx]
  have HW0 := Lib.hid (And.intro hw0 (And.intro hK0 (And.intro q0 hbx)))
  clear hw0 hK0 q0 hbx
  refine (awake3 _).mono ?_
  rintro e w1 ⟨rfl, hK1⟩
  go_wp2_with fail
  refine (thought_any Look.nil ((H.out.keeps_nil HW0.out.2.1).keeps_nil hK1)).mono ?_
  rintro e w2 ⟨s, t, b, o, cap, vP, S, rfl, hm, hv, hp, hK2, hS⟩
  obtain ⟨aP, cP, rfl, hPl⟩ := hp.val
  clear hPl
  obtain ⟨ws, hws⟩ : ∃ ws, ws = fillW 10 [] := ⟨_, rfl⟩
  rw [← hws] at hm hv hp ⊢
  obtain ⟨P, hP⟩ : ∃ P, P = thP ws (k.take 40) := ⟨_, rfl⟩
  rw [← hP] at hm hp ⊢
  have hPlen : P.length ≤ 40 := by rw [hP]; have := thP_length ws (k.take 40); have := List.length_take_le 40 k; omega
  have hwl : ws.length = 10 := by rw [hws]; exact fillW_length 10 []
  obtain ⟨m, hmm⟩ : ∃ m, m = w2.heap.size := ⟨_, rfl⟩
  obtain ⟨w3, hw3⟩ : ∃ w3, w3 = w2.alloc (.cells #[.slice (some ⟨b, o, none⟩) 10 cap, .slice aP P.length cP] 28) := ⟨_, rfl⟩
  have hK3 : Keeps Nil w2 w3 := by rw [hw3]; exact (Keeps.refl Nil w2).alloc _
  have q3 : w3.heap[m]? = some (.cells #[.slice (some ⟨b, o, none⟩) 10 cap, .slice aP P.length cP] 28 (0, 0)) := by rw [hw3, hmm]; exact heap_new w2 _
  have hSm : ¬ S m := fun e => by have := hm.lt e; omega
  have hSb : ¬ S bx := fun e => by have := hS _ e; have := hK1.size; have := getElem?_lt HW0.out.2.2.1; omega
  have hSw : ∀ j, S j → w.heap.size ≤ j := fun j hj => Nat.le_trans (HW0.out.2.1.trans' hK1).size (hS j hj)
  have hb3 := (hK1.trans' (hK2.trans' hK3)).at HW0.out.2.2.1 (fun e => e)
  have hKw := HW0.out.2.1.trans' (hK1.trans' (hK2.trans' hK3))
  have HA := Lib.hid ((hm.keeps_nil hK3).segStore off val _ _ rfl rfl)
  have HW := Lib.hid (And.intro hw3 hmm)
  have H3 := Lib.hid (And.intro q3 (And.intro hSm (And.intro hSb (And.intro hSw (And.intro hKw (And.intro hb3 (And.intro (hv.keeps_nil hK3) (And.intro (hp.keeps_nil hK3) (And.intro hws (And.intro hP hwl))))))))))
  obtain ⟨y0, y1⟩ := row2 hb3
  rw [hw3] at y0 y1
  clear hw3 hmm q3 hSm hSb hSw hKw hb3 hm hv hp hK1 hK2 hK3 hS hws hP hwl
  go_wp2_with fail
  rw [← HW.out.1, ← HW.out.2]
  refine HA.out.mono ?_
  rintro e w4 ⟨rfl, hm4, hK4⟩
  obtain ⟨q3, hSm, hSb, hSw, hKw, hb3, hv3, hp3, hws, hP, hwl⟩ := H3.out
  have q4 := hK4.at q3 hSm
  have hb4 := hK4.at hb3 hSb
  have hv4 := hv3.keeps hK4 (fun _ e => e)
  have hp4 := hp3.keeps hK4 (fun _ e => e)
  have hK04 : Keeps Nil w w4 := hKw.trans hK4 (fun i hi e => by have := hSw i e; omega)
  obtain ⟨er, her⟩ : ∃ er, er = errV ws off := ⟨_, rfl⟩
  rw [← her]
  have H4 := Lib.hid (And.intro q4 (And.intro hb4 (And.intro hv4 (And.intro hp4 (And.intro hm4 (And.intro hK04 (And.intro hws (And.intro hP (And.intro hwl her)))))))))
  have hPm : (P.length : Int) ≤ 40 := by omega
  clear q3 hSm hSb hSw hKw hb3 hv3 hp3 hws hP hwl hK4 hm4 q4 hb4 hv4 hp4 hK04 her y0 y1 H3 HA
  go_wp2_with fail
  go_loopw [10, 11] (fun v i wr => ∃ j : Nat, j ≤ P.length ∧ i = .int .i64 (j : Int) ∧ v = .bool (decide (off ∈ keysP (P.take j))) ∧ Keeps Nil w4 wr) (fun _ i _ => 40 - (intOf i).toNat)
  case atStart => exact ⟨0, by omega, rfl, by simp [keysP], Keeps.refl _ _⟩
  case round =>
    obtain ⟨j, hj, rfl, rfl, hK⟩ := hrel
    obtain ⟨q4, hb4, hv4, hp4, hm4, hK04, hws, hP, hwl, her⟩ := H4.out
    obtain ⟨c0, c1⟩ := row2 (hK.at q4 (fun e => e))
    obtain ⟨y0, y1⟩ := row2 (hK.at hb4 (fun e => e))
    by_cases hlt : j < P.length
    · obtain ⟨x, hx⟩ : ∃ x, P[j]? = some x := ⟨P[j], by simp⟩
      obtain ⟨bP, oP, cap3, hvv, _, _, hbl, _, hcell⟩ := hp4.pos (by omega)
      simp only [Value.slice.injEq] at hvv
      obtain ⟨rfl, _, rfl⟩ := hvv
      have z1 := (hK.cell hbl (fun e => e) _).trans (View.cellP hcell j x hx).1
      have HX := Lib.hid hx
      by_cases hin : off ∈ keysP (P.take j)
      · have hin' : off ∈ keysP (P.take (j + 1)) := by rw [take_succ' hx]; simp [keysP] at hin ⊢; exact .inl hin
        have HI := Lib.hid hin'
        rw [decide_eq_true hin]
        clear hcell hx q4 hb4 hv4 hp4 hm4 hK04 hws hP hwl her hin hin'
        go_wp2_with fail
        go_quiet (fail)
        go_wp2_with fail
        go_roundw
        case rel => exact ⟨j + 1, by omega, by go_num, by rw [decide_eq_true HI.out], hK.trans' ⟨rfl, rfl, rfl, Nat.le_refl _, fun _ _ _ => rfl⟩⟩
        case measure => simp [intOf]; omega
      · have HN := Lib.hid hin
        rw [decide_eq_false hin]
        clear hcell q4 hb4 hv4 hp4 hm4 hK04 hws hP hwl her hx hin
        by_cases hd : x.1 = off
        · have hb' : ((x.1.toNat : Int) == (off.toNat : Int)) = true := by rw [hd]; simp
          have HD := Lib.hid hd
          clear hd
          go_wp2_with fail
          go_quiet (fail)
          go_wp2_with fail
          go_roundw
          case rel =>
            have hin' : off ∈ keysP (P.take (j + 1)) := by rw [take_succ' HX.out, ← HD.out]; simp [keysP]
            exact ⟨j + 1, by omega, by go_num, by rw [decide_eq_true hin'], hK.trans' ⟨rfl, rfl, rfl, Nat.le_refl _, fun _ _ _ => rfl⟩⟩
          case measure => simp [intOf]; omega
        · have hb' : ((x.1.toNat : Int) == (off.toNat : Int)) = false := by
            rw [beq_eq_false_iff_ne]; intro e; exact hd (UInt64.toNat_inj.1 (by omega))
          have HD := Lib.hid hd
          clear hd
          go_wp2_with fail
          go_quiet (fail)
          go_wp2_with fail
          go_roundw
          case rel =>
            have hin' : off ∉ keysP (P.take (j + 1)) := by
              rw [take_succ' HX.out]
              have h1 := HN.out
              simp only [keysP, List.map_append, List.mem_append, List.map_cons, List.map_nil, List.mem_singleton, not_or] at h1 ⊢
              exact ⟨h1, fun e => HD.out e.symm⟩
            exact ⟨j + 1, by omega, by go_num, by rw [decide_eq_false hin'], hK.trans' ⟨rfl, rfl, rfl, Nat.le_refl _, fun _ _ _ => rfl⟩⟩
          case measure => simp [intOf]; omega
    · have hej : P.take j = P := List.take_of_length_le (by omega)
      rw [hej]
      have HC := Lib.hid (Mem.load (hm4.keeps_nil hK) off _ rfl)
      have HK2 := Lib.hid (hK04.trans' hK)
      by_cases hin : inB ws off = true
      · have e0 : er = 0 := by rw [her]; simp [errV, hin]
        subst e0
        by_cases hk : off ∈ keysP P
        · rw [decide_eq_true hk]
          rw [later_hit hk] at HC
          have HR := Lib.hid (rTxLoad10 (hv4.keeps_nil hK) hwl (hp4.keeps_nil hK) off _ rfl)
          have hbl := getElem?_lt (hK.at hb4 (fun e => e))
          have HM := Lib.hid (hm4.keeps_nil hK)
          have hk' := Lib.hid hk
          clear q4 hb4 hv4 hp4 hm4 hK04 hws hP hwl her hk hej hin HC
          go_wp2_with fail
          refine HR.out.mono ?_
          rintro e w5 ⟨rfl, hK5⟩
          have z0 := (hK5.cell hbl (fun e => e) 0).trans y0
          have HC := Lib.hid (Mem.load (HM.out.keeps_nil hK5) off _ rfl)
          rw [later_hit hk'.out] at HC
          have HK5 := Lib.hid hK5
          clear hK5
          go_wp2_with fail
          refine HC.out.mono ?_
          rintro e w6 ⟨rfl, hK6⟩
          go_wp2_with fail
          go_ret
          exact ⟨rfl, HK2.out.trans' (HK5.out.trans' hK6)⟩
        · rw [decide_eq_false hk]
          rw [later_miss hk hin] at HC
          clear q4 hb4 hv4 hp4 hm4 hK04 hws hP hwl her hk hej hin
          go_wp2_with fail
          refine HC.out.mono ?_
          rintro e w6 ⟨rfl, hK6⟩
          go_wp2_with fail
          go_ret
          exact ⟨rfl, HK2.out.trans' hK6⟩
      · have hin' : inB ws off = false := by simpa using hin
        have e0 : er = 1 := by rw [her]; simp [errV, hin']
        subst e0
        have hk : off ∉ keysP P := fun hk => by
          rw [hP] at hk
          obtain ⟨x, hx, e⟩ := List.mem_map.1 hk
          have := (good_thP ws (k.take 40)).2 x hx
          rw [e, hin'] at this; cases this
        rw [decide_eq_false hk]
        have e2 : txLoad (putW ws off val) P off = 0 := by rw [hP]; exact later_out hin' val
        rw [e2] at HC
        clear q4 hb4 hv4 hp4 hm4 hK04 hws hP hwl her hk hej hin hin' e2
        go_wp2_with fail
        refine HC.out.mono ?_
        rintro e w6 ⟨rfl, hK6⟩
        go_wp2_with fail
        go_ret
        exact ⟨rfl, HK2.out.trans' hK6⟩
end Go.Proofs.Ytccllkgaakmdhaa
