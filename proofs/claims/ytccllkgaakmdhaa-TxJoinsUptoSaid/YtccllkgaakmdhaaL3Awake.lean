/- carracklaw03.awake, words. -/
import Derived.Test.YtccllkgaakmdhaaL3Thought
namespace Go.Proofs.Ytccllkgaakmdhaa
open Go.RowKit

def z4 : List UInt64 := List.replicate 4 0
theorem aw1 : txStore z4 (txStore z4 (txStore z4 [] 8 1) 8 2) 3 9 = [((8 : UInt64), (2 : UInt64))] := by decide
theorem aw2 : told [((8 : UInt64), (2 : UInt64))] = [((8 : UInt64), (2 : UInt64))] := by decide
theorem aw3 : loadV z4 8 = 0 := by decide
theorem aw4 : errV z4 8 = 0 := by decide
theorem aw5 : loadV (applyW z4 [((8 : UInt64), (2 : UInt64))]) 8 = 2 := by decide
theorem aw6 : errV (applyW z4 [((8 : UInt64), (2 : UInt64))]) 8 = 0 := by decide
theorem aw7 : txLoad (applyW z4 [((8 : UInt64), (2 : UInt64))]) [((8 : UInt64), (2 : UInt64))] 8 = 2 := by decide

set_option maxRecDepth 100000 in
set_option maxHeartbeats 4000000 in
theorem awake3 (w : World) : Calls Try.prog 26 #[] w fun e w' => e = .returned (.bool true) ∧ Keeps Nil w w' := by
  have hgd := eqg_put
  have hq : ∀ w, (binOp .eql 38 (.agg #[.int .u64 8, .int .u64 2]) (.agg #[.int .u64 8, .int .u64 2])).run Try.prog w = .ok (.bool true) w := fun w => by rw [eql_put]; rfl
  go_enter Try.func26, Try.ntmps26
  go_wp2_with fail
  refine (New_yes w 32 (by decide) _ (by rfl)).mono ?_
  rintro e w1 ⟨rfl, hs, hK1, hsz⟩
  have HM := Lib.hid (Mem.new hs)
  have HZ := Lib.hid hsz
  clear hs hsz
  go_wp2_with fail
  refine HM.out.mono ?_
  rintro e w2 ⟨t, S2, rfl, m2, hK2, hS2, _⟩
  have m2' : Mem w2 (w.heap.size + 1) t [] z4 S2 := m2
  have hS : ∀ k, S2 k → w.heap.size ≤ k := fun k hk => by have := HZ.out; rcases hS2 k hk with rfl | rfl | e <;> omega
  have HS := Lib.hid hS
  clear HM m2 hS2 hS
  have hKw := hK1.trans' hK2
  go_wp2_with fail
  refine (m2'.store 8 1 (by decide) _ _ (by rfl) (by rfl)).mono ?_
  rintro e w3 ⟨rfl, S3, m3, t3⟩
  go_wp2_with fail
  refine (m3.store 8 2 (by decide) _ _ (by rfl) (by rfl)).mono ?_
  rintro e w4 ⟨rfl, S4, m4, t4⟩
  go_wp2_with fail
  refine (m4.store 3 9 (by decide) _ _ (by rfl) (by rfl)).mono ?_
  rintro e w5 ⟨rfl, S5, m5, t5⟩
  rw [aw1] at m5
  have ht := (t3.trans t4).trans t5
  clear m2' m3 m4 t3 t4 t5
  go_wp2_with fail
  refine (m5.puts (by decide)).mono ?_
  rintro e w6 ⟨v, rfl, ho6, hK6⟩
  rw [aw2] at ho6
  have hv6 := ho6.view (S := S5) (fun g hg e => by have := m5.lt e; omega)
  obtain ⟨b, o, cap, rfl, hc, hmx, hb, hn, hcell⟩ := hv6.pos (by decide)
  have m6 := m5.keeps_nil hK6
  clear ho6 m5
  go_wp2_with fail
  refine (m6.segLoad 8 _ (by rfl)).mono ?_
  rintro e w7 ⟨rfl, hK7⟩
  rw [aw3, aw4]
  have m7 := m6.keeps_nil hK7
  go_wp2_with fail
  refine (m7.apply (by decide)).mono ?_
  rintro e w8 ⟨rfl, m8, hK8⟩
  rw [aw2] at m8
  go_wp2_with fail
  refine (m8.segLoad 8 _ (by rfl)).mono ?_
  rintro e w9 ⟨rfl, hK9⟩
  rw [aw5, aw6]
  have m9 := m8.keeps_nil hK9
  have hv9 := ((hv6.keeps_nil hK7).keeps hK8 (fun g e => e)).keeps_nil hK9
  obtain ⟨_, _, _, _, _, hcell9⟩ := hv9.at
  obtain ⟨y1, y2⟩ := View.cellP hcell9 0 ((8 : UInt64), (2 : UInt64)) rfl
  have y1' : w9.cell? ⟨b, o, none⟩ = some (.int .u64 8) := y1
  have y2' : w9.cell? ⟨b, o + 1, none⟩ = some (.int .u64 2) := y2
  have HF := Lib.hid (And.intro HS.out (And.intro hKw (And.intro ht (And.intro hK6 (And.intro hK7 (And.intro hK8 hK9))))))
  clear hcell hcell9 y1 y2 hKw ht hK1 hK2 hK6 hK7 hK8 hK9
  go_wp2_with fail
  refine (m9.load 8 _ (by rfl)).mono ?_
  rintro e w10 ⟨rfl, hK10⟩
  rw [aw7]
  go_wp2_with fail
  go_ret
  obtain ⟨hS, hKw, ht, hK6, hK7, hK8, hK9⟩ := HF.out
  refine ⟨rfl, ?_⟩
  have h1 : Step S2 S5 w2 w10 := (ht.trans (Step.of_nil (hK6.trans' hK7))).trans ((Step.of_keeps hK8).nil (hK9.trans' hK10))
  exact hKw.trans h1.keeps (fun i hi e => by have := hS i e; omega)

set_option maxRecDepth 100000 in
set_option maxHeartbeats 2000000 in
/-- all words of a segment of 80 bytes -/
theorem words3 {w : World} {p q : Nat} {ws : List UInt64} (h : SegAt w p q ws) (hl : ws.length = 10) :
    Calls Try.prog 30 #[.pointer (some ⟨p, 0, none⟩)] w fun e w' => ∃ v, e = .returned v ∧ Own kU w' w.heap.size v ws ∧ Keeps Nil w w' := by
  have HL := Lib.hid hl
  clear hl
  go_enter Try.func30, Try.ntmps30
  go_wp2_with fail
  go_loopw [3, 4] (fun v o wr => ∃ k : Nat, k ≤ 10 ∧ o = .int .u64 ((8 * k : Nat) : Int) ∧ Own kU wr w.heap.size v (ws.take k) ∧ Keeps Nil w wr) (fun _ o _ => 80 - (intOf o).toNat)
  case atStart => exact ⟨0, by omega, rfl, Own.nil _ _ _, Keeps.refl _ _⟩
  case round =>
    obtain ⟨k, hk, rfl, hown, hK⟩ := hrel
    by_cases hlt : k < 10
    · have hs := h.keeps hK (fun e => e) (fun e => e)
      have HC := Lib.hid (Load_at hs k (by have := HL.out; omega) (8 * (k : Int)) (by simp))
      clear hs
      go_wp2_with fail
      refine HC.out.mono ?_
      rintro e w1 ⟨rfl, hK1⟩
      have hown1 := hown.keeps_nil hK1
      have hb := (hK.trans' hK1).size
      have hln : (ws.take k).length = k := by rw [List.length_take]; have := HL.out; omega
      have HN := Lib.hid hln
      clear hln
      go_wp2_with (at_builtin; refine wpList_append_u64 rfl _ _ rfl k HN.out hown1 rfl (ws[k]?.getD 0) _ rfl rfl (by omega) hb ?_; rintro _ w3 hown3 hK3 ⟨g, cap, rfl, hg⟩)
      go_roundw
      case rel =>
        have hx : ws[k]? = some (ws[k]?.getD 0) := by
          have : k < ws.length := by have := HL.out; omega
          simp [this]
        exact ⟨k + 1, by omega, by go_num, by rw [take_succ' hx]; exact hown3, (hK.trans' hK1).trans hK3 (fun i hi e => by have := (hown1.block e).1; omega)⟩
      case measure => simp [intOf]; omega
    · go_wp2_with fail
      go_ret
      have : ws.take k = ws := List.take_of_length_le (by have := HL.out; omega)
      rw [this] at hown
      exact ⟨_, rfl, hown, hK⟩

end Go.Proofs.Ytccllkgaakmdhaa
