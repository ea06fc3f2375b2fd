/- tag.Write. -/
import Derived.Test.YtccllkgaakmdhaaTagRR
namespace Go.Proofs.Ytccllkgaakmdhaa
open Go.RowKit

def writeP (ws : List UInt64) (l : List Put) (off : UInt64) (g : TagV) : List Put :=
  if writeB (txLoad ws l) off g then txStore ws (txStore ws l off (packU g)) (off + g.size - 8) (packU g) else l
theorem writeP_yes {ws : List UInt64} {l : List Put} {off : UInt64} {g : TagV} (h : writeB (txLoad ws l) off g = true) : writeP ws l off g = txStore ws (txStore ws l off (packU g)) (off + g.size - 8) (packU g) := if_pos h
theorem writeP_no {ws : List UInt64} {l : List Put} {off : UInt64} {g : TagV} (h : writeB (txLoad ws l) off g = false) : writeP ws l off g = l := if_neg (by rw [h]; decide)
theorem writeP_length (ws : List UInt64) (l : List Put) (off : UInt64) (g : TagV) : (writeP ws l off g).length ≤ l.length + 2 := by
  unfold writeP
  split
  · have := txStore_length ws (txStore ws l off (packU g)) (off + g.size - 8) (packU g)
    have := txStore_length ws l off (packU g)
    omega
  · omega

/-- A new block beside. -/
theorem Live.box {w0 w : World} {s t : Nat} {l : List Put} {ws : List UInt64} {R : World → (Nat → Prop) → Prop} (h : Live w0 w s t l ws R) (hR : Stable R) (c : Array Value) (T : TypeId) :
    Live w0 (w.alloc (.cells c T)) s t l ws (fun w' S => R w' S ∧ Still w.heap.size c T w' S) := by
  obtain ⟨S, h1, h2, h3, h4⟩ := h
  have k : Keeps Nil w (w.alloc (.cells c T)) := (Keeps.refl Nil w).alloc _
  exact ⟨S, h1.keeps_nil k, h2, h3.trans' k, hR S S _ _ (Step.of_nil k) h4, heap_new w _, fun e => by have := h1.lt e; omega⟩
theorem Live.still {w0 w : World} {s t n : Nat} {l : List Put} {ws : List UInt64} {R : World → (Nat → Prop) → Prop} {c : Array Value} {T : TypeId} (h : Live w0 w s t l ws (fun w' S => R w' S ∧ Still n c T w' S)) : w.heap[n]? = some (.cells c T (0, 0)) := by
  obtain ⟨S, h1, h2, h3, h4⟩ := h
  exact h4.2.1
theorem Live.drop {w0 w : World} {s t : Nat} {l : List Put} {ws : List UInt64} {R R' : World → (Nat → Prop) → Prop} (h : Live w0 w s t l ws (fun w' S => R w' S ∧ R' w' S)) : Live w0 w s t l ws R := h.reads (fun _ _ r => r.1)

set_option maxRecDepth 100000 in
set_option maxHeartbeats 4000000 in
theorem Live.tagWrite {w0 w : World} {s t : Nat} {l : List Put} {ws : List UInt64} {R : World → (Nat → Prop) → Prop} (h : Live w0 w s t l ws R) (hR : Stable R) (off : UInt64) (g : TagV) (hlen : l.length < 4294967290) (x : Int) (hx : x = (off.toNat : Int)) :
    Calls Try.prog 71 #[.pointer (some ⟨t, 0, none⟩), .int .u64 x, .agg g.cells] w fun e w' => e = .returned (.int .i64 (codeOf (writeB (txLoad ws l) off g))) ∧ Live w0 w' s t (writeP ws l off g) ws R := by
  subst hx
  obtain ⟨sz, u, o⟩ := g
  obtain ⟨b, hb⟩ : ∃ b, b = writeB (txLoad ws l) off ⟨sz, u, o⟩ := ⟨_, rfl⟩
  obtain ⟨P, hP⟩ : ∃ P, P = writeP ws l off ⟨sz, u, o⟩ := ⟨_, rfl⟩
  have hbb : b = (mayT ⟨sz, u, o⟩ && inT (txLoad ws l 16) off sz) := hb
  have hpy : b = true → P = txStore ws (txStore ws l off (packU ⟨sz, u, o⟩)) (off + sz - 8) (packU ⟨sz, u, o⟩) := fun h => by rw [hP]; exact writeP_yes (by rw [← hb]; exact h)
  have hpn : b = false → P = l := fun h => by rw [hP]; exact writeP_no (by rw [← hb]; exact h)
  rw [← hb, ← hP, TagV.cells_def]
  obtain ⟨B, hB⟩ : ∃ B, B = w.heap.size := ⟨_, rfl⟩
  obtain ⟨w1, hw1⟩ : ∃ w1, w1 = w.alloc (.cells #[.int .u64 (sz.toNat : Int), .bool u, .int .i64 o] 70) := ⟨_, rfl⟩
  have L1 := h.box hR #[.int .u64 (sz.toNat : Int), .bool u, .int .i64 o] 70
  rw [← hw1, ← hB] at L1
  have hS : Stable (fun w' S => R w' S ∧ Still B #[.int .u64 (sz.toNat : Int), .bool u, .int .i64 o] 70 w' S) := hR.and (Stable.still _ _ _)
  obtain ⟨y1, hy1⟩ : ∃ y, y = off + sz := ⟨_, rfl⟩
  obtain ⟨y2, hy2⟩ : ∃ y, y = off + sz - 8 := ⟨_, rfl⟩
  have q1 := add_eq off sz
  have q2 := sub8_eq (off + sz)
  rw [← hy1] at q1 q2
  rw [← hy1] at hy2
  rw [← hy2] at q2
  rw [← hy1, ← hy2] at hpy
  have HQ := Lib.hid (And.intro q1 q2)
  have HP := Lib.hid (And.intro hbb (And.intro hpy hpn))
  obtain ⟨w2, hw2⟩ : ∃ w2, w2 = w1.alloc (.cells #[.int .u64 (sz.toNat : Int), .bool u, .int .i64 o] 70) := ⟨_, rfl⟩
  have hk2 : Keeps Nil w1 w2 := by rw [hw2]; exact (Keeps.refl Nil w1).alloc _
  have b1 := L1.still
  have b2 := hk2.at b1 (fun e => e)
  have L2 := L1.quiet hS hk2
  obtain ⟨d0, d1, d2⟩ := row3 b1
  obtain ⟨e0, e1, e2⟩ := row3 b2
  have HW := Lib.hid (And.intro hw1 (And.intro hB hw2))
  have H2 := Lib.hid (And.intro L2 (And.intro hS hlen))
  have HM := Lib.hid (May_any w1 ⟨sz, u, o⟩)
  rw [TagV.cells_def, ← hw2] at HM
  clear h hb hP hbb hpy hpn hw1 L1 hB hS q1 q2 hy1 hy2 hw2 hk2 b1 b2 L2 hlen
  cases hm : mayT ⟨sz, u, o⟩ with
  | false =>
    have HMM := Lib.hid hm
    clear hm
    go_enter Try.func71, Try.ntmps71
    go_wp2_with fail
    rw [← HW.out.1, ← HW.out.2.1]
    refine HM.out.mono ?_
    rintro e w' ⟨rfl, rfl⟩
    rw [HMM.out]
    go_wp2_with fail
    go_ret
    have hbf : b = false := by rw [HP.out.1, HMM.out]; rfl
    exact ⟨by rw [hbf]; rfl, by rw [HP.out.2.2 hbf]; exact H2.out.1.drop⟩
  | true =>
    have HMM := Lib.hid hm
    clear hm
    cases hn : inT (txLoad ws l 16) off sz with
    | false =>
      have HN := Lib.hid hn
      clear hn
      go_enter Try.func71, Try.ntmps71
      go_wp2_with fail
      rw [← HW.out.1, ← HW.out.2.1]
      refine HM.out.mono ?_
      rintro e w' ⟨rfl, rfl⟩
      rw [HMM.out]
      go_wp2_with fail
      refine (in_any H2.out.1.tells off sz _ _ rfl rfl).mono ?_
      rintro e w3 ⟨rfl, k3⟩
      rw [HN.out]
      have H3 := Lib.hid (H2.out.1.quiet H2.out.2.1 k3)
      clear k3
      go_wp2_with fail
      go_ret
      have hbf : b = false := by rw [HP.out.1, HMM.out, HN.out]; rfl
      exact ⟨by rw [hbf]; rfl, by rw [HP.out.2.2 hbf]; exact H3.out.drop⟩
    | true =>
      have HN := Lib.hid hn
      clear hn
      have q1 := HQ.out.1
      have q2 := HQ.out.2
      go_enter Try.func71, Try.ntmps71
      go_wp2_with fail
      rw [← HW.out.1, ← HW.out.2.1]
      refine HM.out.mono ?_
      rintro e w' ⟨rfl, rfl⟩
      rw [HMM.out]
      go_wp2_with fail
      refine (in_any H2.out.1.tells off sz _ _ rfl rfl).mono ?_
      rintro e w3 ⟨rfl, k3⟩
      rw [HN.out]
      have L3 := H2.out.1.quiet H2.out.2.1 k3
      clear d0 d1 d2 e0 e1 e2
      obtain ⟨d0, d1, d2⟩ := row3 L3.still
      have H3 := Lib.hid L3
      clear k3 L3
      go_wp2_with fail
      refine (Pack_any _ ⟨sz, u, o⟩).mono ?_
      rintro e w4 ⟨rfl, k4⟩
      have H4 := Lib.hid (H3.out.quiet H2.out.2.1 k4)
      clear k4
      go_wp2_with fail
      refine (H4.out.store H2.out.2.1 off (packU ⟨sz, u, o⟩) (by have := H2.out.2.2; omega) _ _ rfl rfl).mono ?_
      rintro e w5 ⟨rfl, L5⟩
      have hb5 := L5.still
      clear d0 d1 d2
      have d0 : w5.drew.cell? ⟨B, 0, none⟩ = some (.int .u64 (sz.toNat : Int)) := (row3 hb5).1
      have d1 : w5.drew.cell? ⟨B, 1, none⟩ = some (.bool u) := (row3 hb5).2.1
      have d2 : w5.drew.cell? ⟨B, 2, none⟩ = some (.int .i64 o) := (row3 hb5).2.2
      have hbl : B < w5.drew.heap.size := getElem?_lt hb5
      have H5 := Lib.hid (L5.quiet H2.out.2.1 (keeps_drew _))
      have hl5 := txStore_length ws l off (packU ⟨sz, u, o⟩)
      have HL5 := Lib.hid hl5
      clear L5 hb5 hl5
      have hK : Keeps Nil w5.drew w5.drew := Keeps.refl _ _
      go_wp2_with fail
      go_region_held3 (fun w' => w'.cell? ⟨B, 0, none⟩ = some (.int .u64 (sz.toNat : Int)) ∧ w'.cell? ⟨B, 1, none⟩ = some (.bool u) ∧ w'.cell? ⟨B, 2, none⟩ = some (.int .i64 o))
        (first | exact ⟨d0, d1, d2⟩ | exact ⟨g0, g1, g2⟩ | exact ⟨h0, h1, h2⟩ | go_keep)
        (first
          | (go_at_call 66; refine (Pack_any _ ⟨sz, u, o⟩).mono ?_; rintro e w' ⟨rfl, kn⟩; have hK := hK.trans' kn; have g0 := (hK.cell hbl (fun e => e) 0).trans d0; have g1 := (hK.cell hbl (fun e => e) 1).trans d1; have g2 := (hK.cell hbl (fun e => e) 2).trans d2)
          | (go_at_call 43; refine ((H5.out.quiet H2.out.2.1 hK).store H2.out.2.1 y2 (packU ⟨sz, u, o⟩) (by have := H2.out.2.2; have := HL5.out; omega) _ _ rfl rfl).mono ?_; rintro e w' ⟨rfl, L6⟩; have hb6 := L6.still; have h0 := (row3 hb6).1; have h1 := (row3 hb6).2.1; have h2 := (row3 hb6).2.2; have H6 := Lib.hid L6; clear L6 hb6))
      clear d0 d1 d2 g0 g1 g2 h0 h1 h2 hK
      go_wp2_with fail
      go_ret
      have hbf : b = true := by rw [HP.out.1, HMM.out, HN.out]; rfl
      exact ⟨by rw [hbf]; rfl, by rw [HP.out.2.1 hbf]; exact H6.out.drop⟩
end Go.Proofs.Ytccllkgaakmdhaa
