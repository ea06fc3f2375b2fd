/- carracklaw04.HeadMoves. -/
import Derived.Test.YtccllkgaakmdhaaHFormed
namespace Go.Proofs.Ytccllkgaakmdhaa
open Go.RowKit

/-- what is thought of behind Resize and Plant -/
def movesP (ws : List UInt64) (next root : UInt64) : List Put := txStore ws (txStore ws (txStore ws [] 16 next) 40 (sumU next)) 32 root
theorem moves_is {ws : List UInt64} (hl : ws.length = 600) (next root : UInt64) : movesP ws next root = [(16, next), (40, sumU next), (32, root)] := by
  have i16 : inB ws 16 = true := by rw [inB_iff, hl]; decide
  have i40 : inB ws 40 = true := by rw [inB_iff, hl]; decide
  have i32 : inB ws 32 = true := by rw [inB_iff, hl]; decide
  simp [movesP, txStore, i16, i40, i32, storeP]
theorem moves_told {ws : List UInt64} (hl : ws.length = 600) (next root : UInt64) : (told (movesP ws next root)).length = 3 := by
  rw [moves_is hl]; simp [told]
theorem moves_load {ws : List UInt64} (hl : ws.length = 600) (next root o : UInt64) : txLoad ws (movesP ws next root) o = if o = 32 then root else if o = 40 then sumU next else if o = 16 then next else loadV ws o := by
  have i16 : inB ws 16 = true := by rw [inB_iff, hl]; decide
  have i40 : inB ws 40 = true := by rw [inB_iff, hl]; decide
  have i32 : inB ws 32 = true := by rw [inB_iff, hl]; decide
  unfold movesP
  rw [txLoad_store i32, txLoad_store i40, txLoad_store i16, txLoad_nil]
theorem moves_chk {size : UInt64} (h : fitsN size 4800 = true) (next root : UInt64) : chkB 4800 (txLoad (fmtW 600 size) (movesP (fmtW 600 size) next root)) = fitsN next 4800 := by
  have hl := fmtW_length 600 size
  obtain ⟨h0, h1, h2, h3, h4, h5⟩ := fmt_tells (n := 600) h
  unfold chkB
  simp only [moves_load hl]
  simp [h0, h1]

set_option maxRecDepth 100000 in
set_option maxHeartbeats 2000000 in
theorem hmoves_any {w : World} (size next root : UInt64) : Calls Try.prog 18 #[.int .u64 (size.toNat : Int), .int .u64 (next.toNat : Int), .int .u64 (root.toNat : Int)] w fun e w' => e = .returned (.bool true) ∧ Keeps Nil w w' := by
  cases hf : fitsN size 4800 with
  | false =>
    have HF := Lib.hid hf
    clear hf
    go_enter Try.func18, Try.ntmps18
    go_wp2_with fail
    refine (awake4 _).mono ?_
    rintro e w1 ⟨rfl, k1⟩
    have H1 := Lib.hid k1
    clear k1
    go_wp2_with fail
    refine (New_yes w1 4800 mayB_4800 _ (by rfl)).mono ?_
    rintro e w2 ⟨rfl, hs, k2, hsz⟩
    have H2 := Lib.hid (H1.out.trans' k2)
    clear hs k2 hsz
    go_wp2_with fail
    refine (rFits_any _ size 4800 _ _ rfl (by rfl)).mono ?_
    rintro e w' ⟨rfl, rfl⟩
    rw [HF.out]
    go_wp2_with fail
    go_ret
    exact ⟨rfl, H2.out⟩
  | true =>
    have HF := Lib.hid hf
    clear hf
    obtain ⟨ws, hws⟩ : ∃ ws, ws = fmtW 600 size := ⟨_, rfl⟩
    have hl : ws.length = 600 := by rw [hws]; exact fmtW_length 600 size
    have ml := moves_load hl next root
    have HB := Lib.hid (And.intro (And.intro hws hl) (And.intro ml (And.intro (by have := moves_chk HF.out next root; rw [← hws] at this; exact this : chkB 4800 (txLoad ws (movesP ws next root)) = fitsN next 4800) (moves_told hl next root))))
    have hlen : (movesP ws next root).length < 100 := by rw [moves_is hl]; simp
    have HL := Lib.hid hlen
    clear hws hl ml hlen
    obtain ⟨b, hb⟩ : ∃ b, b = fitsN next 4800 := ⟨_, rfl⟩
    have HNX := Lib.hid hb
    have te : (codeOf b == 0) = b := by cases b <;> rfl
    clear hb
    go_enter Try.func18, Try.ntmps18
    go_wp2_with fail
    refine (awake4 _).mono ?_
    rintro e w1 ⟨rfl, k1⟩
    have H1 := Lib.hid k1
    clear k1
    go_wp2_with fail
    refine (New_yes w1 4800 mayB_4800 _ (by rfl)).mono ?_
    rintro e w2 ⟨rfl, hs, k2, hsz⟩
    have hs' : SegAt w2 (w1.heap.size + 1) w1.heap.size (List.replicate 600 0) := hs
    have H2 := Lib.hid (And.intro hs' (And.intro H1.out k2))
    clear hs k2 hsz hs'
    go_wp2_with fail
    refine (rFits_any _ size 4800 _ _ rfl (by rfl)).mono ?_
    rintro e w' ⟨rfl, rfl⟩
    rw [HF.out]
    go_wp2_with fail
    refine (Format_yes H2.out.1 size _ rfl (by rw [List.length_replicate]; exact HF.out)).mono ?_
    rintro e w3 ⟨rfl, hs, k3⟩
    rw [List.length_replicate, ← HB.out.1.1] at hs
    have H3 := Lib.hid (And.intro hs ((H2.out.2.1.trans' H2.out.2.2).trans k3 (fun i hi e => by have := H2.out.2.1.size; omega) : Keeps Nil w w3))
    clear k3 hs
    go_wp2_with fail
    refine (H3.out.1.live H3.out.2 (by have := H2.out.2.1.size; omega) (by have := H2.out.2.1.size; omega)).mono ?_
    rintro e w4 ⟨t, rfl, L, _⟩
    have H4 := Lib.hid L
    clear L
    go_wp2_with fail
    refine (H4.out.resize Stable.top next (by decide) _ rfl).mono ?_
    rintro e w5 ⟨rfl, L⟩
    have H5 := Lib.hid L
    clear L
    go_wp2_with fail
    refine (H5.out.plant Stable.top root (by
      have h1 := txStore_length ws (txStore ws [] 16 next) 40 (sumU next)
      have h2 := txStore_length ws [] 16 next
      simp only [List.length_nil] at h2
      omega) _ rfl).mono ?_
    rintro e w6 ⟨rfl, L⟩
    have L' : Live w w6 (w1.heap.size + 1) t (movesP ws next root) ws Top := L
    have T : Reads (.pointer (some ⟨t, 0, none⟩)) (txLoad ws (movesP ws next root)) 4800 w6 := by have := L'.tells; rwa [HB.out.1.2] at this
    have H6 := Lib.hid (And.intro L' (And.intro L'.keeps T))
    clear L L' T
    go_wp2_with fail
    refine (rFits_any _ next 4800 _ _ rfl (by rfl)).mono ?_
    rintro e w' ⟨rfl, rfl⟩
    rw [← HNX.out]
    go_wp2_with fail
    refine (hSize_any H6.out.2.2).mono ?_
    rintro e w7 ⟨rfl, k7⟩
    rw [HB.out.2.1, if_neg (by decide), if_neg (by decide), if_pos rfl]
    have H7 := Lib.hid k7
    clear k7
    go_wp2_with fail
    refine (hRoot_any (H6.out.2.2.keeps H7.out)).mono ?_
    rintro e w8 ⟨rfl, k8⟩
    rw [HB.out.2.1, if_pos rfl]
    have H8 := Lib.hid (H7.out.trans' k8)
    clear k8
    go_wp2_with fail
    refine (hCheck_any (H6.out.2.2.keeps H8.out)).mono ?_
    rintro e w9 ⟨rfl, k9⟩
    unfold chkE
    rw [HB.out.2.2.1, ← HNX.out]
    have H9 := Lib.hid (H8.out.trans' k9)
    clear k9
    go_wp2_with fail
    refine ((H6.out.2.2.keeps H9.out).load w9 (Keeps.refl _ _) 40 _ (by rfl)).mono ?_
    rintro e w10 ⟨rfl, k10⟩
    rw [HB.out.2.1, if_neg (by decide), if_pos rfl]
    have H10 := Lib.hid (H9.out.trans' k10)
    clear k10
    go_wp2_with fail
    refine (rSum_any _ next _ rfl).mono ?_
    rintro e w' ⟨rfl, rfl⟩
    go_wp2_with fail
    refine ((H6.out.1.quiet Stable.top H10.out).puts Stable.top (by have := HL.out; omega)).mono ?_
    rintro e w11 ⟨v, rfl, ho, L, _⟩
    obtain ⟨a, c, rfl, _⟩ := (ho.view (S := Nil) (fun _ _ e => e)).val
    rw [HB.out.2.2.2]
    have H11 := Lib.hid L.keeps
    clear L ho
    go_wp2_with fail
    go_ret
    exact ⟨rfl, H11.out⟩
end Go.Proofs.Ytccllkgaakmdhaa
