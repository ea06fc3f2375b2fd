/- The segment (package seg): how one stands in memory, and what each call does to it. -/
import Derived.Test.YtccllkgaakmdhaaBase
import Derived.Deep.QuietTactic
import Derived.BigQuiet
import Derived.StillTailTactics
namespace Go.Proofs.Ytccllkgaakmdhaa
open Go.RowKit

/-- byte i of words, the lowest byte of each first -/
def byteAt (ws : List UInt64) (i : Nat) : UInt8 := UInt8.ofNat ((ws.getD (i / 8) 0).toNat / 2 ^ (8 * (i % 8)))
theorem byteAt_toNat (ws : List UInt64) (i : Nat) : (byteAt ws i).toNat = (ws.getD (i / 8) 0).toNat / 2 ^ (8 * (i % 8)) % 256 := by simp [byteAt]

/-- A segment: block p points to block q, whose first cells are the bytes of ws. -/
def SegAt (w : World) (p q : Nat) (ws : List UInt64) : Prop :=
  p ≠ q ∧ ws.length ≤ 131072 ∧ 0 < ws.length ∧ ∃ (cap : Nat) (c : Array Value), 8 * ws.length ≤ cap ∧ cap ≤ maxLen ∧ w.heap[p]? = some (.cells #[.slice (some ⟨q, 0, none⟩) (8 * ws.length) cap] 132 (0, 0)) ∧
    w.heap[q]? = some (.cells c 5 (0, 0)) ∧ c.size = cap ∧ ∀ i, i < 8 * ws.length → c[i]? = some (.int .u8 ↑(byteAt ws i).toNat)

/-- the blocks of a segment -/
def segS (p q : Nat) : Nat → Prop := fun k => k = p ∨ k = q

theorem SegAt.keeps {S : Nat → Prop} {w w' : World} {p q : Nat} {ws : List UInt64} (h : SegAt w p q ws) (k : Keeps S w w') (hp : ¬ S p) (hq : ¬ S q) : SegAt w' p q ws := by
  obtain ⟨h1, h2, h3, cap, c, h4, h4', h5, h6, h7, h8⟩ := h
  exact ⟨h1, h2, h3, cap, c, h4, h4', k.at h5 hp, k.at h6 hq, h7, h8⟩
theorem SegAt.lt {w : World} {p q : Nat} {ws : List UInt64} (h : SegAt w p q ws) : p < w.heap.size ∧ q < w.heap.size := by
  obtain ⟨h1, h2, h3, cap, c, h4, h4', h5, h6, h7, h8⟩ := h
  exact ⟨getElem?_lt h5, getElem?_lt h6⟩

def inB (ws : List UInt64) (off : UInt64) : Bool := off.toNat % 8 = 0 && off.toNat < 8 * ws.length

set_option maxHeartbeats 400000 in
theorem Size_nil (w : World) : Calls Try.prog 94 #[.pointer none] w fun e w' => e = .returned (.int .u64 0) ∧ w = w' := by
  go_enter Try.func94, Try.ntmps94
  go_wp2
  go_ret
  exact ⟨rfl, rfl⟩

set_option maxHeartbeats 400000 in
theorem Size_some {w : World} {p q : Nat} {ws : List UInt64} (h : SegAt w p q ws) :
    Calls Try.prog 94 #[.pointer (some ⟨p, 0, none⟩)] w fun e w' => e = .returned (.int .u64 ((8 * ws.length : Nat) : Int)) ∧ w = w' := by
  obtain ⟨h1, h2, h3, cap, c, h4, h4', h5, h6, h7, h8⟩ := h
  have hc := cell_of_one h5
  clear h5 h6 h8
  go_enter Try.func94, Try.ntmps94
  go_wp2
  go_ret
  exact ⟨by go_num, rfl⟩

set_option maxHeartbeats 400000 in
theorem in_some {w : World} {p q : Nat} {ws : List UInt64} (h : SegAt w p q ws) (off : UInt64) :
    Calls Try.prog 90 #[.pointer (some ⟨p, 0, none⟩), .int .u64 ↑off.toNat] w fun e w' => e = .returned (.bool (inB ws off)) ∧ w = w' := by
  by_cases hm : off.toNat % 8 = 0
  · have hm' : (((off.toNat : Int) % 8) == 0) = true := by simp; omega
    go_enter Try.func90, Try.ntmps90
    go_wp2_with (go_at_call 94; refine (Size_some h).mono ?_; rintro e w' ⟨rfl, rfl⟩)
    go_ret
    exact ⟨by simp [inB, hm]; omega, rfl⟩
  · have hm' : (((off.toNat : Int) % 8) == 0) = false := by simp; omega
    go_enter Try.func90, Try.ntmps90
    go_wp2_with fail
    go_ret
    exact ⟨by simp [inB, hm], rfl⟩

set_option maxHeartbeats 400000 in
theorem Store1_any (v : UInt64) (i b : Nat) (hi : i < 8) (w : World) (hb : w.cell? ⟨b, 0, none⟩ = some (.int .u64 ↑v.toNat)) :
    Calls Try.prog 91 #[.int .i64 ↑i, .pointer (some ⟨b, 0, none⟩)] w fun e w' => e = .returned (.int .u8 ↑(v.toNat / 2 ^ (8 * i) % 256)) ∧ w = w' := by
  have hv := v.toNat_lt
  go_enter Try.func91, Try.ntmps91
  go_wp2
  go_ret
  exact ⟨by go_num, rfl⟩

/-- The bytes of block q, the first k of the word at o stored. -/
def Part (w0 w : World) (q : Nat) (c : Array Value) (o k : Nat) (v : UInt64) : Prop :=
  Keeps (fun b => b = q) w0 w ∧ ∃ c' : Array Value, w.heap[q]? = some (.cells c' 5 (0, 0)) ∧ c'.size = c.size ∧
    ∀ i, i < c.size → c'[i]? = if o ≤ i ∧ i < o + k then some (.int .u8 ((v.toNat / 2 ^ (8 * (i - o)) % 256 : Nat) : Int)) else c[i]?

theorem Part.step {w0 w : World} {q : Nat} {c : Array Value} {o k : Nat} {v : UInt64} (h : Part w0 w q c o k v) (hk : o + k < c.size) :
    Part w0 (w.setCell ⟨q, o + k, none⟩ (.int .u8 ((v.toNat / 2 ^ (8 * k) % 256 : Nat) : Int))) q c o (k + 1) v := by
  obtain ⟨h1, c', h2, h3, h4⟩ := h
  refine ⟨h1.setCell (p := ⟨q, o + k, none⟩) (fun _ => rfl) _, c'.setIfInBounds (o + k) (.int .u8 ((v.toNat / 2 ^ (8 * k) % 256 : Nat) : Int)), ?_, by simp [h3], ?_⟩
  · have hlt := getElem?_lt h2
    have h' : w.heap[q] = .cells c' 5 (0, 0) := by simpa [Array.getElem?_eq_getElem hlt] using h2
    show (w.heap.modify q _)[q]? = _
    rw [Array.getElem?_eq_getElem (by simpa using hlt), Array.getElem_modify_self, h']
    rfl
  · intro i hi
    rw [Array.getElem?_setIfInBounds]
    by_cases e : o + k = i
    · subst e
      rw [if_pos rfl, if_pos (by omega), if_pos (by omega)]
      simp
    · rw [if_neg e, h4 i hi]
      by_cases e1 : o ≤ i ∧ i < o + k
      · rw [if_pos e1, if_pos (by omega)]
      · rw [if_neg e1, if_neg (by omega)]

theorem Part.drew {w0 w : World} {q : Nat} {c : Array Value} {o k : Nat} {v : UInt64} (h : Part w0 w q c o k v) : Part w0 w.drew q c o k v := ⟨h.1.drew, h.2⟩

theorem Part.cell {w0 w : World} {q : Nat} {c : Array Value} {o k : Nat} {v : UInt64} (h : Part w0 w q c o k v) (i : Nat) (hi : i < c.size) :
    ∃ u, w.cell? ⟨q, i, none⟩ = some u ∧ w.frozen? ⟨q, i, none⟩ = false := by
  obtain ⟨h1, c', h2, h3, h4⟩ := h
  have hi' : i < c'.size := by omega
  exact ⟨c'[i], by simp [World.cell?, h2, hi'], by simp [World.frozen?, h2]⟩

set_option maxHeartbeats 1000000 in
set_option maxRecDepth 100000 in
theorem Store_yes {w : World} {p q : Nat} {ws : List UInt64} (h : SegAt w p q ws) (off v : UInt64) (hin : inB ws off = true) :
    Calls Try.prog 34 #[.pointer (some ⟨p, 0, none⟩), .int .u64 ↑off.toNat, .int .u64 ↑v.toNat] w fun e w' =>
      e = .returned (.int .i64 0) ∧ SegAt w' p q (ws.set (off.toNat / 8) v) ∧ Keeps (fun k => k = q) w w' := by
  have h0 := h
  obtain ⟨h1, h2, h3, cap, c, h4, h4', h5, h6, h7, h8⟩ := h
  have hin2 : off.toNat % 8 = 0 ∧ off.toNat < 8 * ws.length := by simpa [inB] using hin
  have hlim : off.toNat + 8 ≤ 8 * ws.length := by omega
  have hcs : 8 * ws.length ≤ c.size := by omega
  have hp := cell_of_one h5
  have hpl := getElem?_lt h5
  have hql := getElem?_lt h6
  have HC := Lib.hid (And.intro h7 h8)
  have HM := Lib.hid hin2.1
  have HI := Lib.hid hin
  have H5 := Lib.hid h5
  have H6 := Lib.hid h6
  clear hin2 h7 h8 hin h5 h6
  go_enter Try.func34, Try.ntmps34
  go_wp2_with (go_at_call 90; refine (in_some (h0.keeps ((Keeps.refl Nil w).alloc _) (fun e => e) (fun e => e)) off).mono ?_; rintro e w' ⟨rfl, rfl⟩; rw [HI.out])
  obtain ⟨W, hW⟩ : ∃ W : World, W = w.alloc (.cells #[.int .u64 ↑v.toNat] 36) := ⟨_, rfl⟩
  rw [← hW]
  have HW := Lib.hid hW
  have HB := Lib.hid (heap_new w (.cells #[.int .u64 ↑v.toNat] 36))
  have H5' := Lib.hid (heap_old w (.cells #[.int .u64 ↑v.toNat] 36) H5.out)
  have H6' := Lib.hid (heap_old w (.cells #[.int .u64 ↑v.toNat] 36) H6.out)
  rw [← hW] at H5' H6' HB
  clear hW hp
  go_loopw [14] (fun i wr => ∃ k : Nat, k ≤ 8 ∧ i = .int .i64 ↑k ∧ Part W wr q c off.toNat k v) (fun i _ => 8 - (intOf i).toNat)
  case atStart => exact ⟨0, by omega, rfl, Keeps.refl _ _, c, H6'.out, rfl, fun i _ => by rw [if_neg (by omega)]⟩
  case round =>
    obtain ⟨k, hk, rfl, hP⟩ := hrel
    by_cases hlt : k < 8
    · have hsz : off.toNat + k < c.size := by omega
      have hidx : off.toNat + k < 8 * ws.length := by omega
      have hp : wr.cell? ⟨p, 0, none⟩ = some (.slice (some ⟨q, 0, none⟩) (8 * ws.length) cap) := cell_of_one (hP.1.at H5'.out h1)
      have hv : wr.cell? ⟨w.heap.size, 0, none⟩ = some (.int .u64 ↑v.toNat) := cell_of_one (hP.1.at HB.out (by omega))
      obtain ⟨u, hq1, hq2⟩ := hP.cell (off.toNat + k) hsz
      go_wp2
      have e1 : IntKind.u64.wrap (k : Int) = (k : Int) := IntWalk.u64_in _ (by omega)
      have e2 : IntKind.u64.wrap ((off.toNat : Int) + (k : Int)) = (off.toNat : Int) + (k : Int) := IntWalk.u64_in _ (by omega)
      have e3 : ((off.toNat : Int) + (k : Int)).toNat = off.toNat + k := by omega
      have e4 : (off.toNat : Int) + (k : Int) < 8 * (ws.length : Int) := by omega
      have e5 : (0 : Int) ≤ (off.toNat : Int) + (k : Int) := by omega
      go_still_tail 12, (by kernel_rfl)
      refine wpStill_step (fun K hK => ?_)
      go_simp
      refine ⟨_, (Store1_any v k w.heap.size hlt wr.drew hv).mono (fun e w' (hh : _ ∧ wr.drew = w') => ⟨hh.1, hh.2.symm⟩), hK _ ?_⟩
      clear hK K
      still_step
      refine wpStill_nil ?_
      clear e1 e2 e3 e4 e5
      change wpList _ _ _ _ _ wr.drew
      go_wp2
      go_roundw
      case rel => exact ⟨k + 1, by omega, by go_num, by first | exact (hP.step hsz).drew | exact hP.drew.step hsz⟩
      case measure => simp [intOf]; omega
    · go_wp2
      have hk8 : k = 8 := by omega
      subst hk8
      go_ret
      obtain ⟨hK, c', hq1, hq2, hq3⟩ := hP
      have hWw : Keeps Nil w W := by rw [HW.out]; exact (Keeps.refl Nil w).alloc _
      have hKw : Keeps (fun k => k = q) w wr := (hWw.of_nil).trans' hK
      refine ⟨rfl, ⟨h1, by simpa using h2, by simpa using h3, cap, c', by simpa using h4, h4', by simpa using hK.at H5'.out h1, hq1, by rw [hq2]; exact HC.out.1, ?_⟩, hKw⟩
      intro i hi
      rw [List.length_set] at hi
      rw [hq3 i (by omega)]
      have hm := HM.out
      by_cases e : off.toNat ≤ i ∧ i < off.toNat + 8
      · rw [if_pos e]
        have e1 : i / 8 = off.toNat / 8 := by omega
        have e2 : i % 8 = i - off.toNat := by omega
        have e3 : off.toNat / 8 < ws.length := by omega
        simp only [byteAt_toNat, e1, e2]
        rw [List.getD_eq_getElem?_getD, List.getElem?_set_self e3]
        rfl
      · rw [if_neg e, HC.out.2 i (by omega)]
        have e1 : off.toNat / 8 ≠ i / 8 := by omega
        simp only [byteAt_toNat]
        rw [List.getD_eq_getElem?_getD, List.getD_eq_getElem?_getD, List.getElem?_set_ne e1]

set_option maxHeartbeats 400000 in
theorem Store_no {w : World} {p q : Nat} {ws : List UInt64} (h : SegAt w p q ws) (off v : UInt64) (hin : inB ws off = false) :
    Calls Try.prog 34 #[.pointer (some ⟨p, 0, none⟩), .int .u64 ↑off.toNat, .int .u64 ↑v.toNat] w fun e w' =>
      e = .returned (.int .i64 1) ∧ Keeps Nil w w' := by
  have HI := Lib.hid hin
  clear hin
  go_enter Try.func34, Try.ntmps34
  go_wp2_with (go_at_call 90; refine (in_some (h.keeps ((Keeps.refl Nil w).alloc _) (fun e => e) (fun e => e)) off).mono ?_; rintro e w' ⟨rfl, rfl⟩; rw [HI.out])
  go_ret
  exact ⟨rfl, (Keeps.refl Nil w).alloc _⟩

/-- what is loaded; and whether it is there -/
def loadV (ws : List UInt64) (off : UInt64) : UInt64 := if inB ws off then ws[off.toNat / 8]?.getD 0 else 0
def errV (ws : List UInt64) (off : UInt64) : Int := if inB ws off then 0 else 1
/-- the words behind a store -/
def putW (ws : List UInt64) (off v : UInt64) : List UInt64 := if inB ws off then ws.set (off.toNat / 8) v else ws

theorem Store_any {w : World} {p q : Nat} {ws : List UInt64} (h : SegAt w p q ws) (off v : UInt64) (x y : Int) (hx : x = (off.toNat : Int)) (hy : y = (v.toNat : Int)) :
    Calls Try.prog 34 #[.pointer (some ⟨p, 0, none⟩), .int .u64 x, .int .u64 y] w fun e w' =>
      e = .returned (.int .i64 (errV ws off)) ∧ SegAt w' p q (putW ws off v) ∧ Keeps (fun k => k = q) w w' := by
  subst hx hy
  cases hin : inB ws off with
  | true => refine (Store_yes h off v hin).mono ?_; rintro e w' ⟨rfl, hs, hk⟩; exact ⟨by simp [errV, hin], by simpa [putW, hin] using hs, hk⟩
  | false => refine (Store_no h off v hin).mono ?_; rintro e w' ⟨rfl, hk⟩; exact ⟨by simp [errV, hin], by simpa [putW, hin] using h.keeps hk (fun e => e) (fun e => e), hk.of_nil⟩

end Go.Proofs.Ytccllkgaakmdhaa
