/- Lists of blocks: slices.IndexFunc, phys.Find, beside, Merged. -/
import Derived.Test.YtccllkgaakmdhaaPhysWalk
import Derived.Test.YtccllkgaakmdhaaHeadC
namespace Go.Proofs.Ytccllkgaakmdhaa
open Go.RowKit

theorem View.cellB {w : World} {b off : Nat} {l : List BlockV} (h : ∀ i j, j < kB.size → i < l.length → w.cell? ⟨b, off + (i * kB.size + j), none⟩ = (l[i]?).bind (fun x => (kB.enc x)[j]?)) (i : Nat) (x : BlockV) (hx : l[i]? = some x) :
    w.cell? ⟨b, off + i * 5, none⟩ = some (.int .u64 (x.off.toNat : Int)) ∧ w.cell? ⟨b, off + i * 5 + 1, none⟩ = some (.int .u64 (x.tag.size.toNat : Int)) ∧ w.cell? ⟨b, off + i * 5 + 2, none⟩ = some (.bool x.tag.used) ∧
      w.cell? ⟨b, off + i * 5 + 3, none⟩ = some (.int .i64 x.tag.owner) ∧ w.cell? ⟨b, off + i * 5 + 4, none⟩ = some (.int .u64 (x.len.toNat : Int)) := by
  have hi : i < l.length := (List.getElem?_eq_some_iff.1 hx).1
  have hk : kB.size = 5 := rfl
  refine ⟨?_, ?_, ?_, ?_, ?_⟩
  · have := h i 0 (by rw [hk]; decide) hi; rw [hx] at this; simpa [hk, BlockV.cells] using this
  · have := h i 1 (by rw [hk]; decide) hi; rw [hx] at this; simpa [hk, BlockV.cells, Nat.add_assoc] using this
  · have := h i 2 (by rw [hk]; decide) hi; rw [hx] at this; simpa [hk, BlockV.cells, Nat.add_assoc] using this
  · have := h i 3 (by rw [hk]; decide) hi; rw [hx] at this; simpa [hk, BlockV.cells, Nat.add_assoc] using this
  · have := h i 4 (by rw [hk]; decide) hi; rw [hx] at this; simpa [hk, BlockV.cells, Nat.add_assoc] using this

/-- the first one's place, or -1 -/
def idxP (p : BlockV → Bool) (l : List BlockV) : Int := match l.findIdx? p with | some i => (i : Int) | none => -1
theorem idxP_some {p : BlockV → Bool} {l : List BlockV} {k : Nat} {x : BlockV} (hx : l[k]? = some x) (hp : p x = true) (h : ∀ j y, j < k → l[j]? = some y → p y = false) : idxP p l = (k : Int) := by
  unfold idxP
  have hk : k < l.length := (List.getElem?_eq_some_iff.1 hx).1
  have e : l.findIdx? p = some k := by
    rw [List.findIdx?_eq_some_iff_getElem]
    refine ⟨hk, ?_, fun j hj => ?_⟩
    · rw [(List.getElem?_eq_some_iff.1 hx).2]; exact hp
    · rw [h j _ hj (List.getElem?_eq_getElem (by omega))]; decide
  rw [e]
theorem idxP_none {p : BlockV → Bool} {l : List BlockV} (h : ∀ j y, j < l.length → l[j]? = some y → p y = false) : idxP p l = -1 := by
  unfold idxP
  have e : l.findIdx? p = none := by
    rw [List.findIdx?_eq_none_iff]
    intro x hx
    obtain ⟨i, hi, e⟩ := List.getElem_of_mem hx
    exact h i x hi (by rw [← e]; exact List.getElem?_eq_getElem hi)
  rw [e]

set_option maxRecDepth 100000 in
set_option maxHeartbeats 2000000 in
theorem IndexFunc_any {S : Nat → Prop} {w : World} {v : Value} {l : List BlockV} (h : View kB S w v l) (g : Nat) (lb : Array Value) (p : BlockV → Bool)
    (eg : ∀ args w, (callFunc g args).run Try.prog w = .ok (.enter g args) w)
    (hp : ∀ w' x, Keeps Nil w w' → Calls Try.prog g (#[.agg x.cells] ++ lb) w' fun e w'' => e = .returned (.bool (p x)) ∧ Keeps Nil w' w'') :
    Calls Try.prog 107 #[v, .func (.func g) #[] lb] w fun e w' => e = .returned (.int .i64 (idxP p l)) ∧ Keeps Nil w w' := by
  by_cases hn : 0 < l.length
  · obtain ⟨b, o, cap, rfl, hc, hm, hb, _, hcell⟩ := h.pos hn
    obtain ⟨N, hN⟩ : ∃ N, N = l.length := ⟨_, rfl⟩
    have hNm : N ≤ 9223372036854775807 := by unfold maxLen at hm; omega
    rw [← hN]
    have HC := Lib.hid hcell
    have HL := Lib.hid hN
    have HP := Lib.hid hp
    have HE := Lib.hid eg
    clear hcell hc hm hn h hp hN
    go_enter Try.func107, Try.ntmps107
    go_wp2_with fail
    go_loopw [5, 8] (fun _ i wr => ∃ k : Nat, k ≤ N ∧ i = .int .i64 (k : Int) ∧ Keeps Nil w wr ∧ Hid (∀ j y, j < k → l[j]? = some y → p y = false)) (fun _ i _ => N - (intOf i).toNat)
    case atStart => exact ⟨0, by omega, rfl, Keeps.refl _ _, fun j y hj => by omega⟩
    case round =>
      obtain ⟨k, hk, rfl, hK, HS⟩ := hrel
      by_cases hlt : k < N
      · obtain ⟨x, hx⟩ : ∃ x, l[k]? = some x := ⟨l[k]'(by have := HL.out; omega), by have := HL.out; simp⟩
        obtain ⟨y0, y1, y2, y3, y4⟩ := View.cellB HC.out k x hx
        have c0 := (hK.cell hb (fun e => e) _).trans y0
        have c1 := (hK.cell hb (fun e => e) _).trans y1
        have c2 := (hK.cell hb (fun e => e) _).trans y2
        have c3 := (hK.cell hb (fun e => e) _).trans y3
        have c4 := (hK.cell hb (fun e => e) _).trans y4
        have HX := Lib.hid hx
        have HQ := Lib.hid (HP.out wr x hK)
        clear y0 y1 y2 y3 y4 hx
        go_wp2_with fail
        refine HQ.out.mono ?_
        rintro _ w2 ⟨rfl, k2⟩
        have HK := Lib.hid (hK.trans' k2)
        clear c0 c1 c2 c3 c4 k2 hK
        cases hpx : p x with
        | true =>
          have HPX := Lib.hid hpx
          clear hpx
          go_wp2_with fail
          go_ret
          exact ⟨by rw [idxP_some HX.out HPX.out HS.out]; rfl, HK.out⟩
        | false =>
          have HPX := Lib.hid hpx
          clear hpx
          go_wp2_with fail
          go_roundw
          case rel =>
            refine ⟨k + 1, by omega, by go_num, HK.out, fun j y hj hy => ?_⟩
            by_cases e : j = k
            · subst e; rw [HX.out] at hy; cases hy; exact HPX.out
            · exact HS.out j y (by omega) hy
          case measure => simp [intOf]; omega
      · go_wp2_with fail
        go_ret
        exact ⟨by rw [idxP_none (fun j y hj hy => HS.out j y (by have := HL.out; omega) hy)]; rfl, hK⟩
  · obtain ⟨a, cap, rfl, _⟩ := h.val
    have e1 : l = [] := List.eq_nil_of_length_eq_zero (by omega)
    subst e1
    clear h hn
    go_enter Try.func107, Try.ntmps107
    go_wp2_with fail
    go_loopw [5, 8] (fun _ i wr => i = .int .i64 0 ∧ w = wr) (fun _ _ _ => 0)
    case atStart => exact ⟨rfl, rfl⟩
    case round =>
      obtain ⟨rfl, rfl⟩ := hrel
      go_wp2_with fail
      go_ret
      exact ⟨rfl, Keeps.refl _ _⟩
end Go.Proofs.Ytccllkgaakmdhaa
