/- carracklaw03.filled. -/
import Derived.Test.YtccllkgaakmdhaaRef3Apply
import Derived.Test.YtccllkgaakmdhaaLook
namespace Go.Proofs.Ytccllkgaakmdhaa
open Go.RowKit

theorem keeps_drew (w : World) : Keeps Nil w w.drew := (Keeps.refl Nil w).drew

/-- the words of a segment of n words in which words were stored -/
def fillW (n : Nat) (l : List Put) : List UInt64 := applyW (List.replicate n 0) (l.take 40)
theorem fillW_length (n : Nat) (l : List Put) : (fillW n l).length = n := by simp [fillW, applyW_length]

theorem replicate_len (n k : Nat) (l : List Put) : (applyW (List.replicate n 0) (l.take k)).length = n := by simp [applyW_length]

theorem take_min {α : Type} (l : List α) (k m : Nat) (h : ¬ (k < l.length ∧ k < m)) (hk : k ≤ m) (_ : k ≤ l.length) : l.take k = l.take m := by
  by_cases h2 : k = m
  · rw [h2]
  · rw [List.take_of_length_le (by omega), List.take_of_length_le (by omega)]

set_option maxRecDepth 100000 in
set_option maxHeartbeats 4000000 in
theorem filled_any {w : World} {vl : Value} {l : List Put} (h : Look kP w vl l) :
    Calls Try.prog 56 #[vl] w fun e w' =>
      ∃ p q b o cap, e = .returned (.tuple #[.pointer (some ⟨p, 0, none⟩), .slice (some ⟨b, o, none⟩) 10 cap]) ∧ SegAt w' p q (fillW 10 l) ∧ View kU (segS p q) w' (.slice (some ⟨b, o, none⟩) 10 cap) (fillW 10 l) ∧ Keeps Nil w w' ∧ w.heap.size ≤ p ∧ w.heap.size ≤ q := by
  obtain ⟨a, lcap, rfl, hlm⟩ := h.val
  obtain ⟨n, hn⟩ : ∃ n, n = l.length := ⟨_, rfl⟩
  rw [← hn] at h ⊢
  have hnm : n ≤ 9223372036854775807 := by unfold maxLen at hlm; omega
  have HV := Lib.hid (And.intro h hn)
  clear h hn hlm
  go_enter Try.func56, Try.ntmps56
  go_wp2_with fail
  refine (New_yes w 80 (by decide) _ (by rfl)).mono ?_
  rintro e w1 ⟨rfl, hs, hK1, hsz1⟩
  have H1 := Lib.hid (And.intro hs hsz1)
  clear hs hsz1
  go_wp2_with fail
  refine (rNew_yes w1 80 (by decide) _ (by rfl)).mono ?_
  rintro e w2 ⟨rfl, hv, hK2⟩
  have H2 := Lib.hid hv
  clear hv
  go_wp2_with fail
  obtain ⟨p, hp⟩ : ∃ p, p = w.heap.size + 1 := ⟨_, rfl⟩
  obtain ⟨q, hq⟩ : ∃ q, q = w.heap.size := ⟨_, rfl⟩
  have hpq : w.heap.size ≤ p ∧ w.heap.size ≤ q ∧ p ≠ q := ⟨by omega, by omega, by omega⟩
  have HS0 : Hid (SegAt w2 p q (List.replicate 10 0)) := by rw [hp, hq]; exact H1.out.1.keeps hK2 (fun e => e) (fun e => e)
  have HV0 : Hid (View kU (segS p q) w2 (.slice (some ⟨w1.heap.size, 0, none⟩) 10 10) (List.replicate 10 0)) :=
    H2.out.view (fun g hg e => by have := H1.out.2; rcases e with e | e <;> omega)
  have hK12 := hK1.trans' hK2
  rw [← hp]
  have HP := Lib.hid (And.intro hp hq)
  clear hp hq H1 H2 hK1 hK2
  go_loopw [5, 6] (fun v i wr => ∃ (k b o cap : Nat), k ≤ n ∧ k ≤ 40 ∧ i = .int .i64 (k : Int) ∧ v = .slice (some ⟨b, o, none⟩) 10 cap ∧ Hid (SegAt wr p q (applyW (List.replicate 10 0) (l.take k)) ∧ View kU (segS p q) wr (.slice (some ⟨b, o, none⟩) 10 cap) (applyW (List.replicate 10 0) (l.take k))) ∧ Keeps Nil w wr) (fun _ i _ => 40 - (intOf i).toNat)
  case atStart => exact ⟨0, _, _, _, by omega, by omega, rfl, rfl, ⟨HS0.out, HV0.out⟩, hK12⟩
  case round =>
    obtain ⟨k, b, o, cap, hk, hk2, rfl, rfl, HH, hK⟩ := hrel
    by_cases hlt : k < n ∧ k < 40
    · obtain ⟨hlt1, hlt2⟩ := hlt
      obtain ⟨x, hx⟩ : ∃ x, l[k]? = some x := ⟨l[k]'(by have := HV.out.2; omega), by have := HV.out.2; simp⟩
      obtain ⟨b2, o2, cap3, hv, _, _, hb2, _, hcell⟩ := HV.out.1.pos (by have := HV.out.2; omega)
      simp only [Value.slice.injEq] at hv
      obtain ⟨rfl, hn2, rfl⟩ := hv
      have HN := Lib.hid hn2
      obtain ⟨y1, y2⟩ := View.cellP hcell k x hx
      have y1' := (hK.cell hb2 (fun e => e) (o2 + k * 2)).trans y1
      have y2' := (hK.cell hb2 (fun e => e) (o2 + k * 2 + 1)).trans y2
      have HX := Lib.hid hx
      have hdr := keeps_drew wr
      have HR := Lib.hid (Store_any (w := wr.drew) (HH.out.1.keeps hdr (fun e => e) (fun e => e)) x.1 x.2 _ _ rfl rfl)
      clear hn2 y1 y2 hcell hx
      go_wp2_with fail
      go_still_tail 11, (by kernel_rfl)
      change wpList _ _ _ _ _ wr.drew
      go_wp2_with fail
      refine HR.out.mono ?_
      rintro e w3 ⟨rfl, hs3, hK3⟩
      have hb2w : b2 < wr.drew.heap.size := Nat.lt_of_lt_of_le hb2 hK.size
      have hb2q : ¬ b2 = q := by have := hpq.2.1; omega
      have z1 := (hK3.cell hb2w hb2q (o2 + k * 2)).trans y1'
      have z2 := (hK3.cell hb2w hb2q (o2 + k * 2 + 1)).trans y2'
      have hv3 : View kU (segS p q) w3.drew (.slice (some ⟨b, o, none⟩) (applyW (List.replicate 10 0) (l.take k)).length cap) (applyW (List.replicate 10 0) (l.take k)) := by
        rw [replicate_len]
        exact ((HH.out.2.keeps_nil hdr).keeps hK3 (fun g e => .inr e)).keeps_nil (keeps_drew w3)
      have hb2w3 : b2 < w3.drew.heap.size := Nat.lt_of_lt_of_le hb2w hK3.size
      have HR2 := Lib.hid (rStore_any hv3 (fun g hg => by have := hs3.lt; rcases hg with rfl | rfl; exact this.1; exact this.2) (by rw [replicate_len]; omega) x.1 x.2 _ _ rfl rfl)
      rw [replicate_len] at HR2
      have H3 := Lib.hid (And.intro hs3 hK3)
      clear hv3 hs3 hK3 y1' y2'
      go_wp2_with fail
      go_region_held3 (fun w' => w'.cell? ⟨b2, o2 + k * 2, none⟩ = some (.int .u64 ↑x.1.toNat) ∧ w'.cell? ⟨b2, o2 + k * 2 + 1, none⟩ = some (.int .u64 ↑x.2.toNat))
        (first | exact ⟨z1, z2⟩ | exact ⟨q1, q2⟩ | go_keep)
        ((go_at_call 89; refine HR2.out.mono ?_; rintro e w4 ⟨b4, o4, cap4, rfl, hv4, hK4⟩; have q1 := (hK4.cell hb2w3 (fun e => e) (o2 + k * 2)).trans z1; have q2 := (hK4.cell hb2w3 (fun e => e) (o2 + k * 2 + 1)).trans z2; have H4 := Lib.hid (And.intro hv4 hK4); clear hv4 hK4))
      go_wp2_with fail
      go_roundw
      case rel =>
        refine ⟨k + 1, b4, o4, cap4, by omega, by omega, by go_num, rfl, ?_, ?_⟩
        · rw [applyW_take HX.out]
          exact ⟨(H3.out.1.keeps (keeps_drew w3) (fun e => e) (fun e => e)).keeps H4.out.2 (fun e => e) (fun e => e), H4.out.1⟩
        · exact ((hK.drew.trans H3.out.2 (fun i hi e => by have := hpq.2.1; omega)).drew).trans' H4.out.2
      case measure => simp [intOf]; omega
    · have ht : l.take k = l.take 40 := take_min l k 40 (by have := HV.out.2; omega) hk2 (by have := HV.out.2; omega)
      have HT := Lib.hid ht
      clear ht
      by_cases h1 : k < n
      · have h2 : ¬ k < 40 := by omega
        clear hlt
        go_wp2_with fail
        go_ret2
        have := HH.out
        rw [HT.out] at this
        exact ⟨p, q, b, o, cap, rfl, this.1, this.2, hK, hpq.1, hpq.2.1⟩
      · clear hlt
        go_wp2_with fail
        go_ret2
        have := HH.out
        rw [HT.out] at this
        exact ⟨p, q, b, o, cap, rfl, this.1, this.2, hK, hpq.1, hpq.2.1⟩

end Go.Proofs.Ytccllkgaakmdhaa
