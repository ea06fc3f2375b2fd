/- seg.Load: the loop over slices.Backward. -/
import Derived.RangeFuncNested
import Derived.RangeFuncBound
import Derived.RangeFuncCalls
import Derived.RangeFuncLeaves
import Derived.RangeFuncBox
import Derived.Shelf.Abstract
import Derived.Shelf.RegionOpen
import Derived.OwnWalkIn
import Derived.TacticsInMore
import Derived.LoopNIn
import Derived.LoopIn
import Derived.Test.YtccllkgaakmdhaaSeg
namespace Go.Proofs.Ytccllkgaakmdhaa
open Go.RowKit Go.Shelf

attribute [local go_sem] Oper.semAt_some

theorem cell_new_l (W : World) (v : Value) (t : TypeId) : (W.alloc (.cells #[v] t)).cell? ⟨W.heap.size, 0, none⟩ = some v ∧ (W.alloc (.cells #[v] t)).frozen? ⟨W.heap.size, 0, none⟩ = false :=
  ⟨cell_of_one (heap_new W _), free_of_one (heap_new W _)⟩
theorem cell_alloc_l {W : World} {a : Addr} {v : Value} (o : Obj) (h : W.cell? a = some v) : (W.alloc o).cell? a = some v := cell_kept h (World.grownBy_alloc W o none) (fun r e => by cases e)
theorem frozen_alloc_l {W : World} {a : Addr} {v : Value} (o : Obj) (h : W.cell? a = some v) (hf : W.frozen? a = false) : (W.alloc o).frozen? a = false := (frozen_kept h (World.grownBy_alloc W o none) (fun r e => by cases e)).trans hf

theorem keptOn_put {R : Nat → Prop} {w : World} (hR : ∀ k, R k → k < w.heap.size) (W : World) (l : Nat) (o o' : Obj) (hl : w.heap.size ≤ l) (_ : W.heap[l]? = some o) (_ : o.isCells = false) (_ : o.isWalk = false) : KeptOn R W (W.putObj l o') :=
  fun k hk => World.putObj_heap_other (by have := hR k hk; omega)

/-- what has come when k rounds are over -/
def upto {α : Type} (f : Nat → α) (k : Nat) : List α := (List.range k).map f
theorem upto_succ {α : Type} (f : Nat → α) (k : Nat) : upto f (k + 1) = upto f k ++ [f k] := by simp [upto, List.range_succ]
theorem upto_length {α : Type} (f : Nat → α) (k : Nat) : (upto f k).length = k := by simp [upto]

set_option maxRecDepth 100000 in
set_option maxHeartbeats 2000000 in
/-- slices.Backward's closure: from the last one down to the first. -/
theorem backward1_in (F : Fence) (n : Nat) (h7 : F.fn 121) (hro : F.round = none) (hn : 1 ≤ n) (l Bs b off len cap : Nat) (zs : Nat → UInt8) (hreach : len * 8 ≤ 140737488351232) (J Jx : List (Nat × UInt8) → World → Prop)
    (hY : ∀ pre x W, J pre W → pre.length < len → YieldAt F (n - 1) Try.prog l #[.int .i64 (x.1 : Int), .int .u8 ↑x.2.toNat] W fun e W' =>
      (e = .returned (.bool true) ∧ J (pre ++ [x]) W' ∧ KeptOn (fun k => k = Bs ∨ k = b) W W') ∨ (e = .returned (.bool false) ∧ Jx (pre ++ [x]) W'))
    (W : World) (hBs : W.cell? ⟨Bs, 0, none⟩ = some (.slice (some ⟨b, off, none⟩) len cap)) (hc : ∀ j, j < len → W.cell? ⟨b, off + j, none⟩ = some (.int .u8 ↑(zs j).toNat)) (h0 : J [] W) :
    CallsIn F n Try.prog 121 #[.func (.yield l) #[] #[], .pointer (some ⟨Bs, 0, none⟩)] W fun e W' => (∃ v, e = .returned v) ∧
      ((∃ ys, ys = upto (fun i => (len - 1 - i, zs (len - 1 - i))) len ∧ J ys W') ∨ (∃ pre, (∃ k, k ≤ len ∧ pre = upto (fun i => (len - 1 - i, zs (len - 1 - i))) k) ∧ Jx pre W')) := by
  refine callsIn_of_wp Try.func121 rfl h7 ?_ hro
  simp only [Try.ntmps121, List.size_toArray, List.length_cons, List.length_nil, Nat.reduceAdd, Nat.reduceSub, Array.replicate_succ, Array.replicate_zero, List.push_toArray, List.append_toArray, List.nil_append, List.cons_append]
  gi_wp2
  gi_loopw [3] (fun i wr => ∃ k : Nat, k ≤ len ∧ i = .int .i64 ((len : Int) - 1 - k) ∧ J (upto (fun i => (len - 1 - i, zs (len - 1 - i))) k) wr ∧ KeptOn (fun k => k = Bs ∨ k = b) W wr)
    (fun i _ => (intOf i + 1).toNat)
  case atStart => exact ⟨0, Nat.zero_le _, by simp, h0, KeptOn.refl _ _⟩
  case round =>
    obtain ⟨k, hk, rfl, hJs, hnx⟩ := hrel
    have hBs' : wr.cell? ⟨Bs, 0, none⟩ = some (.slice (some ⟨b, off, none⟩) len cap) := (hnx.cell (.inl rfl) 0).trans hBs
    by_cases hlt : k < len
    · obtain ⟨m, hm⟩ : ∃ m, m = len - 1 - k := ⟨_, rfl⟩
      have hmi : (len : Int) - 1 - k = m := by omega
      have hml : m < len := by omega
      have hcx : wr.cell? ⟨b, off + m, none⟩ = some (.int .u8 ↑(zs m).toNat) := (hnx.cell (.inr rfl) (off + m)).trans (hc m hml)
      obtain ⟨fn, tmps, assign, body, hy, hR⟩ := hY _ (m, zs m) wr hJs (by rw [upto_length]; exact hlt)
      dsimp only at hy
      rw [hmi]
      have HM := Lib.hid (And.intro hm hmi)
      clear hm hmi hc
      gi_wp2
      refine hR.mono ?_
      rintro e W3 (⟨rfl, hJ3, hk3⟩ | ⟨rfl, hJx3⟩)
      · gi_wp2
        go_roundw
        case rel =>
          have h1 := HM.out.1
          exact ⟨k + 1, by omega, by first | go_num | (congr 1; omega), by rw [upto_succ, ← h1]; exact hJ3, hnx.trans hk3⟩
        case measure => simp [intOf] <;> omega
      · gi_wp2
        refine bodyPost_ret (results_none rfl _ _ _) rfl ?_
        exact ⟨⟨_, rfl⟩, .inr ⟨_, ⟨k + 1, by omega, rfl⟩, by rw [upto_succ, ← HM.out.1]; exact hJx3⟩⟩
    · obtain rfl : k = len := by omega
      have hneg : (k : Int) - 1 - k = -1 := by omega
      rw [hneg]
      clear hneg
      gi_wp2
      go_end0
      exact ⟨⟨_, rfl⟩, .inl ⟨_, rfl, hJs⟩⟩

theorem backward_stops (n : Nat) (hn : 1 ≤ n) (Bs b off len cap : Nat) (zs : Nat → UInt8) (hreach : len * 8 ≤ 140737488351232) (w : World) (hBs : Bs < w.heap.size) (hb : b < w.heap.size)
    (hc : w.cell? ⟨Bs, 0, none⟩ = some (.slice (some ⟨b, off, none⟩) len cap)) (hI : ∀ j, j < len → w.cell? ⟨b, off + j, none⟩ = some (.int .u8 ↑(zs j).toNat)) :
    SeqStopsK Fence.wide n Try.prog 121 #[.pointer (some ⟨Bs, 0, none⟩)] (fun x : Nat × UInt8 => #[Value.int .i64 (x.1 : Int), Value.int .u8 ↑x.2.toNat]) (KeptOn (fun k => k = Bs ∨ k = b)) (fun ys => ys = upto (fun i => (len - 1 - i, zs (len - 1 - i))) len)
      (fun pre => ∃ k, k ≤ len ∧ pre = upto (fun i => (len - 1 - i, zs (len - 1 - i))) k) len w := fun l J Jx W hW _ _ hY h0 =>
  backward1_in Fence.wide n trivial rfl hn l Bs b off len cap zs hreach J Jx hY W ((hW.cell (p := ⟨Bs, 0, none⟩) hBs).trans hc) (fun j hj => (hW.cell (p := ⟨b, off + j, none⟩) hb).trans (hI j hj)) h0

set_option maxHeartbeats 400000 in
theorem Backward_any (a : Option Addr) (len cap : Nat) (w : World) :
    Calls Try.prog 111 #[.slice a len cap] w fun e w' => e = .returned (.func (.func 121) #[] #[.pointer (some ⟨w.heap.size, 0, none⟩)]) ∧ w' = w.alloc (.cells #[.slice a len cap] 130) := by
  go_enter Try.func111, Try.ntmps111
  go_wp2
  go_ret
  exact ⟨rfl, rfl⟩

/-- the word that bytes make, the highest one first -/
def accU (l : List (Nat × UInt8)) : UInt64 := l.foldl (fun a x => (a <<< 8) ||| x.2.toUInt64) 0
theorem accU_snoc (l : List (Nat × UInt8)) (x : Nat × UInt8) : accU (l ++ [x]) = (accU l <<< 8) ||| x.2.toUInt64 := by simp [accU]

theorem accU_step (a : UInt64) (b : UInt8) : ((a <<< 8) ||| b.toUInt64).toNat = a.toNat * 256 % 18446744073709551616 + b.toNat := by
  have hb := b.toNat_lt
  have e : (a <<< 8).toNat = (a.toNat * 256 % 18446744073709551616 / 256) <<< 8 := by
    simp [UInt64.toNat_shiftLeft, Nat.shiftLeft_eq]; omega
  rw [UInt64.toNat_or, e, UInt8.toNat_toUInt64, ← Nat.shiftLeft_add_eq_or_of_lt (by omega), Nat.shiftLeft_eq]
  omega

theorem accU_word (v : UInt64) (f : Nat → Nat) : accU (upto (fun i => (f i, UInt8.ofNat (v.toNat / 2 ^ (8 * (7 - i))))) 8) = v := by
  apply UInt64.toNat_inj.1
  have hv := v.toNat_lt
  have h : upto (fun i => (f i, UInt8.ofNat (v.toNat / 2 ^ (8 * (7 - i))))) 8 = [(f 0, UInt8.ofNat (v.toNat / 2 ^ 56)), (f 1, UInt8.ofNat (v.toNat / 2 ^ 48)), (f 2, UInt8.ofNat (v.toNat / 2 ^ 40)), (f 3, UInt8.ofNat (v.toNat / 2 ^ 32)), (f 4, UInt8.ofNat (v.toNat / 2 ^ 24)), (f 5, UInt8.ofNat (v.toNat / 2 ^ 16)), (f 6, UInt8.ofNat (v.toNat / 2 ^ 8)), (f 7, UInt8.ofNat (v.toNat / 2 ^ 0))] := rfl
  rw [h]
  simp only [accU, List.foldl_cons, List.foldl_nil, accU_step]
  simp only [UInt8.toNat_ofNat', UInt64.toNat_zero, Nat.reducePow]
  omega

set_option maxRecDepth 100000 in
set_option maxHeartbeats 2000000 in
theorem Load_yes {w : World} {p q : Nat} {ws : List UInt64} (h : SegAt w p q ws) (off : UInt64) (hin : inB ws off = true) :
    Calls Try.prog 86 #[.pointer (some ⟨p, 0, none⟩), .int .u64 ↑off.toNat] w fun e w' =>
      e = .returned (.tuple #[.int .u64 ↑(ws[off.toNat / 8]?.getD 0).toNat, .int .i64 0]) ∧ Keeps Nil w w' := by
  have h0 := h
  obtain ⟨h1, h2, h3, cap, c, h4, h4', h5, h6, h7, h8⟩ := h
  have hin2 : off.toNat % 8 = 0 ∧ off.toNat < 8 * ws.length := by simpa [inB] using hin
  have hlim : off.toNat + 8 ≤ 8 * ws.length := by omega
  have hcap : off.toNat + 8 ≤ cap := by omega
  have hp := cell_of_one h5
  have hpl := getElem?_lt h5
  have hql := getElem?_lt h6
  have HC := Lib.hid (And.intro h7 h8)
  have HM := Lib.hid hin2.1
  have HI := Lib.hid hin
  have H6 := Lib.hid h6
  clear hin2 h7 h8 hin h5 h6
  refine (callsIn_wide (n := 4)).1 ?_
  refine callsIn_of_wp_marks Try.func86 rfl trivial ?_ rfl
  simp only [Try.ntmps86, List.size_toArray, List.length_cons, List.length_nil, Nat.reduceAdd, Nat.reduceSub, Array.replicate_succ, Array.replicate_zero, List.push_toArray, List.append_toArray, List.nil_append, List.cons_append]
  gi_wp2_with (refine ⟨trivial, ?_⟩; gi_at_call 90; refine (callsIn_wide.2 (in_some h0 off)).mono ?_; rintro e w' ⟨rfl, rfl⟩; rw [HI.out])
  gi_wp2_with (refine ⟨trivial, ?_⟩; gi_at_call 111; refine (callsIn_wide.2 (Backward_any _ _ _ _)).mono ?_; rintro e w' ⟨rfl, rfl⟩)
  have hs := cell_new_l w (.int .u64 0) 36
  have hb := cell_new_l (w.alloc (.cells #[.int .u64 0] 36)) (.slice (some ⟨q, off.toNat, none⟩) 8 (cap - off.toNat)) 130
  rw [World.size_alloc] at hb
  have hcc : ∀ j, j < 8 → ((w.alloc (.cells #[.int .u64 0] 36)).alloc (.cells #[.slice (some ⟨q, off.toNat, none⟩) 8 (cap - off.toNat)] 130)).cell? ⟨q, off.toNat + j, none⟩ = some (.int .u8 ↑(byteAt ws (off.toNat + j)).toNat) := by
    intro j hj
    have e := heap_old (w.alloc (.cells #[.int .u64 0] 36)) (.cells #[.slice (some ⟨q, off.toNat, none⟩) 8 (cap - off.toNat)] 130) (heap_old w (.cells #[.int .u64 0] 36) H6.out)
    simp only [World.cell?, e]
    have := HC.out.2 (off.toNat + j) (by omega)
    simpa using this
  refine wpIn_rangeFunc_ownF rfl (by omega) (gf := 121) (lb := #[.pointer (some ⟨w.heap.size + 1, 0, none⟩)]) rfl trivial (enters_of Try.func121 (by kernel_rfl) rfl)
    (backward_stops (4 - 1) (by omega) (w.heap.size + 1) q off.toNat 8 (cap - off.toNat) (fun j => byteAt ws (off.toNat + j)) (by omega) _ (by simp) (by simp; omega) hb.1 hcc) KeptOn.trans (keptOn_put (by rintro k (rfl | rfl) <;> simp; omega)) (Below.refl _ _) (fun _ => rfl)
    (fun pre W => (W.cell? ⟨w.heap.size, 0, none⟩ = some (.int .u64 ↑(accU pre).toNat) ∧ W.frozen? ⟨w.heap.size, 0, none⟩ = false) ∧ Below w.heap.size w W)
    (fun _ _ _ => False)
    (OwnFrom.and (Own.from (fun s A B row hs hg hr => ⟨cell_kept hs.1 hg hr, (frozen_kept hs.1 hg hr).trans hs.2⟩) _) (ownFrom_below (Nat.le_refl _) (by simp; omega)))
    (fun _ _ _ _ _ hs _ _ => hs)
    ⟨⟨cell_alloc_l _ hs.1, frozen_alloc_l _ hs.1 hs.2⟩, ((Below.refl _ w).alloc (Nat.le_refl _) _).alloc (by simp) _⟩
    (fun x => { tmps := #[.pointer (some ⟨p, 0, none⟩), .int .u64 ↑off.toNat, undef, undef, .int .u64 0, .int .i64 0, .pointer (some ⟨w.heap.size, 0, none⟩), undef, .int .u8 ↑x.2.toNat, .pointer (some ⟨p, 0, none⟩), .int .u64 ↑off.toNat, .bool true, .bool false, .pointer (some ⟨p, 0, none⟩), .pointer (some ⟨p, 0, none⟩), .pointer (some ⟨p, 0, none⟩), .slice (some ⟨q, 0, none⟩) (8 * ws.length) cap, .int .u64 ↑off.toNat, .int .u64 ↑off.toNat, .int .u64 (↑off.toNat + 8), .slice (some ⟨q, off.toNat, none⟩) 8 (cap - off.toNat), .func (.func 121) #[] #[.pointer (some ⟨w.heap.size + 1, 0, none⟩)], .int .i64 x.1, .int .u8 ↑x.2.toNat, undef, undef, undef, undef, undef, undef], defers := [] }) ?assign ?body ?done ?stop
  case assign =>
    intro l x W K hK
    gi_wp2
    exact hK
  case body =>
    rintro l pre x W ⟨⟨hc, hf⟩, hB⟩ _
    gi_wp2
    have e : bits BinOp.or IntKind.u64 (IntKind.u64.wrap (↑(accU pre).toNat * 256)) (IntKind.u64.wrap ↑x.2.toNat) = ((accU (pre ++ [x])).toNat : Int) := by
      rw [accU_snoc, u64_shl8, u64_byte, Go.Proofs.Ytccllkgaakmdhaa.u64_or]
    rw [e]
    refine ⟨KeepsOthers.setCell _ _ _, ?_, ⟨World.cell?_setCell_same' _ _ _ (by rw [hc]; rfl), by rw [World.frozen?_setCell]; exact hf⟩, hB.setCell (p := ⟨w.heap.size, 0, none⟩) (Nat.le_refl _) _⟩
    rintro k (rfl | rfl)
    · exact Below.heap_setCell _ _ _ _ (by simp)
    · exact Below.heap_setCell _ _ _ _ (by simp; omega)
  case done =>
    rintro D ys W hD rfl ⟨⟨hc, hf⟩, hB⟩ hK
    have hv : accU (upto (fun i => (8 - 1 - i, byteAt ws (off.toNat + (8 - 1 - i)))) 8) = ws.getD (off.toNat / 8) 0 := by
      rw [← accU_word (ws.getD (off.toNat / 8) 0) (fun i => 8 - 1 - i)]
      congr 1
      unfold upto
      apply List.map_congr_left
      intro i hi
      have hi' : i < 8 := by simpa using hi
      have hm := HM.out
      have e1 : (off.toNat + (8 - 1 - i)) / 8 = off.toNat / 8 := by omega
      have e2 : (off.toNat + (8 - 1 - i)) % 8 = 7 - i := by omega
      simp only [byteAt, e1, e2]
    rw [hv] at hc
    gi_wp2
    refine ⟨by simp, .inl ⟨_, _, rfl, run_takeDeferred hK, ?_⟩⟩
    exact ⟨_, results_tmp2 rfl _ _ _, rfl, Keeps.of_below (hB.trans (belowK_b (w := w) (Nat.le_refl _) W D _ _ (by simp at hD; omega) hK rfl rfl))⟩
  case stop =>
    rintro D c pre W _ _ h _
    exact h.elim

set_option maxHeartbeats 400000 in
theorem Load_no {w : World} {p q : Nat} {ws : List UInt64} (h : SegAt w p q ws) (off : UInt64) (hin : inB ws off = false) :
    Calls Try.prog 86 #[.pointer (some ⟨p, 0, none⟩), .int .u64 ↑off.toNat] w fun e w' =>
      e = .returned (.tuple #[.int .u64 0, .int .i64 1]) ∧ w = w' := by
  have HI := Lib.hid hin
  clear hin
  go_enter Try.func86, Try.ntmps86
  go_wp2_with (go_at_call 90; refine (in_some h off).mono ?_; rintro e w' ⟨rfl, rfl⟩; rw [HI.out])
  go_ret2
  exact ⟨rfl, rfl⟩


theorem Load_any {w : World} {p q : Nat} {ws : List UInt64} (h : SegAt w p q ws) (off : UInt64) (x : Int) (hx : x = (off.toNat : Int)) :
    Calls Try.prog 86 #[.pointer (some ⟨p, 0, none⟩), .int .u64 x] w fun e w' =>
      e = .returned (.tuple #[.int .u64 ↑(loadV ws off).toNat, .int .i64 (errV ws off)]) ∧ Keeps Nil w w' := by
  subst hx
  cases hin : inB ws off with
  | true => refine (Load_yes h off hin).mono ?_; rintro e w' ⟨rfl, hk⟩; exact ⟨by simp [loadV, errV, hin], hk⟩
  | false => refine (Load_no h off hin).mono ?_; rintro e w' ⟨rfl, rfl⟩; exact ⟨by simp [loadV, errV, hin], Keeps.refl _ _⟩

end Go.Proofs.Ytccllkgaakmdhaa
