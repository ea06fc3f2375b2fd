/- head.Check, Size, Root, Resize, Plant. -/
import Derived.Test.YtccllkgaakmdhaaReads
import Derived.Test.YtccllkgaakmdhaaHeadF
namespace Go.Proofs.Ytccllkgaakmdhaa
open Go.RowKit

def chkB (n : Nat) (f : UInt64 → UInt64) : Bool := f 0 == magicU && f 8 == 1 && f 40 == sumU (f 16) && fitsN (f 16) n
def codeOf (b : Bool) : Int := if b then 0 else 12
def chkE (n : Nat) (f : UInt64 → UInt64) : Int := codeOf (chkB n f)
theorem same_u64 {a b : UInt64} (h : a = b) : ((a.toNat : Int) != (b.toNat : Int)) = false ∧ ((a.toNat : Int) == (b.toNat : Int)) = true := by subst h; simp
theorem unlike_u64 {a b : UInt64} (h : a ≠ b) : ((a.toNat : Int) != (b.toNat : Int)) = true ∧ ((a.toNat : Int) == (b.toNat : Int)) = false := by
  have := ne_u64 h
  simp only [bne, this]; simp

theorem hSize_any {T : Value} {f : UInt64 → UInt64} {n : Nat} {w : World} (h : Reads T f n w) :
    Calls Try.prog 52 #[T] w fun e w' => e = .returned (.int .u64 ↑(f 16).toNat) ∧ Keeps Nil w w' := by
  go_enter Try.func52, Try.ntmps52
  go_wp2_with fail
  refine (h.load w (Keeps.refl _ _) 16 _ (by rfl)).mono ?_
  rintro e w' ⟨rfl, k⟩
  go_wp2_with fail
  go_ret
  exact ⟨rfl, k⟩
theorem hRoot_any {T : Value} {f : UInt64 → UInt64} {n : Nat} {w : World} (h : Reads T f n w) :
    Calls Try.prog 53 #[T] w fun e w' => e = .returned (.int .u64 ↑(f 32).toNat) ∧ Keeps Nil w w' := by
  go_enter Try.func53, Try.ntmps53
  go_wp2_with fail
  refine (h.load w (Keeps.refl _ _) 32 _ (by rfl)).mono ?_
  rintro e w' ⟨rfl, k⟩
  go_wp2_with fail
  go_ret
  exact ⟨rfl, k⟩

theorem hPlant_nil (w : World) (x : Int) : Calls Try.prog 51 #[.pointer none, .int .u64 x] w fun e w' => e = .returned (.tuple #[]) ∧ w = w' := by
  go_enter Try.func51, Try.ntmps51
  go_wp2_with fail
  refine (TxStore_nil w _ _).mono ?_
  rintro e w' ⟨rfl, rfl⟩
  go_wp2_with fail
  refine bodyPost_end (results_none rfl _ _ _) rfl ?_
  exact ⟨rfl, rfl⟩
theorem hResize_nil (w : World) (a : UInt64) (x : Int) (hx : x = (a.toNat : Int)) : Calls Try.prog 50 #[.pointer none, .int .u64 x] w fun e w' => e = .returned (.tuple #[]) ∧ w = w' := by
  have HX := Lib.hid hx
  clear hx
  go_enter Try.func50, Try.ntmps50
  go_wp2_with fail
  refine (TxStore_nil w _ _).mono ?_
  rintro e w' ⟨rfl, rfl⟩
  go_wp2_with fail
  refine (Sum_any w a _ HX.out).mono ?_
  rintro e w' ⟨rfl, rfl⟩
  go_wp2_with fail
  refine (TxStore_nil w _ _).mono ?_
  rintro e w' ⟨rfl, rfl⟩
  go_wp2_with fail
  refine bodyPost_end (results_none rfl _ _ _) rfl ?_
  exact ⟨rfl, rfl⟩

section
variable {w0 w : World} {s t : Nat} {l : List Put} {ws : List UInt64} {R : World → (Nat → Prop) → Prop}
theorem Live.plant (h : Live w0 w s t l ws R) (hR : Stable R) (off : UInt64) (hlen : l.length < 4294967296) (x : Int) (hx : x = (off.toNat : Int)) :
    Calls Try.prog 51 #[.pointer (some ⟨t, 0, none⟩), .int .u64 x] w fun e w' => e = .returned (.tuple #[]) ∧ Live w0 w' s t (txStore ws l 32 off) ws R := by
  have HX := Lib.hid hx
  clear hx
  go_enter Try.func51, Try.ntmps51
  go_wp2_with fail
  refine (h.store hR 32 off hlen _ _ (by rfl) HX.out).mono ?_
  rintro e w' ⟨rfl, h1⟩
  go_wp2_with fail
  refine bodyPost_end (results_none rfl _ _ _) rfl ?_
  exact ⟨rfl, h1⟩
theorem Live.resize (h : Live w0 w s t l ws R) (hR : Stable R) (size : UInt64) (hlen : l.length < 4294967295) (x : Int) (hx : x = (size.toNat : Int)) :
    Calls Try.prog 50 #[.pointer (some ⟨t, 0, none⟩), .int .u64 x] w fun e w' => e = .returned (.tuple #[]) ∧ Live w0 w' s t (txStore ws (txStore ws l 16 size) 40 (sumU size)) ws R := by
  have HX := Lib.hid hx
  have hl2 : (txStore ws l 16 size).length < 4294967296 := by have := txStore_length ws l 16 size; omega
  clear hx
  go_enter Try.func50, Try.ntmps50
  go_wp2_with fail
  refine (h.store hR 16 size (by omega) _ _ (by rfl) HX.out).mono ?_
  rintro e w1 ⟨rfl, h1⟩
  go_wp2_with fail
  refine (Sum_any w1 size _ HX.out).mono ?_
  rintro e w' ⟨rfl, rfl⟩
  go_wp2_with fail
  refine (h1.store hR 40 (sumU size) hl2 _ _ (by rfl) rfl).mono ?_
  rintro e w2 ⟨rfl, h2⟩
  go_wp2_with fail
  refine bodyPost_end (results_none rfl _ _ _) rfl ?_
  exact ⟨rfl, h2⟩
end

/-- what stands in a segment's head -/
def wantC (a : UInt64) (k : Nat) : UInt64 × UInt64 := if k = 0 then (0, magicU) else if k = 1 then (8, 1) else (40, sumU a)
theorem chk_all {n : Nat} {f : UInt64 → UInt64} (h : ∀ j, j < 3 → f (wantC (f 16) j).1 = (wantC (f 16) j).2) : chkB n f = fitsN (f 16) n := by
  have h0 := h 0 (by omega)
  have h1 := h 1 (by omega)
  have h2 := h 2 (by omega)
  simp only [wantC] at h0 h1 h2
  simp at h0 h1 h2
  simp [chkB, h0, h1, h2]
theorem chk_not {n : Nat} {f : UInt64 → UInt64} {j : Nat} (hj : j < 3) (h : f (wantC (f 16) j).1 ≠ (wantC (f 16) j).2) : chkB n f = false := by
  obtain rfl | rfl | rfl : j = 0 ∨ j = 1 ∨ j = 2 := by omega
  all_goals simp [wantC] at h; simp [chkB, h]

set_option maxRecDepth 100000 in
set_option maxHeartbeats 2000000 in
theorem hCheck_any {T : Value} {f : UInt64 → UInt64} {n : Nat} {w : World} (h : Reads T f n w) :
    Calls Try.prog 49 #[T] w fun e w' => e = .returned (.int .i64 (chkE n f)) ∧ Keeps Nil w w' := by
  obtain ⟨a, ha⟩ : ∃ a, a = f 16 := ⟨_, rfl⟩
  have HA := Lib.hid ha
  have H := Lib.hid h
  clear ha h
  go_enter Try.func49, Try.ntmps49
  go_wp2_with fail
  refine (H.out.load w (Keeps.refl _ _) 16 _ (by rfl)).mono ?_
  rintro e w1 ⟨rfl, k1⟩
  rw [← HA.out]
  have K1 := Lib.hid k1
  clear k1
  go_wp2_with fail
  refine (Sum_any w1 a _ rfl).mono ?_
  rintro e w' ⟨rfl, rfl⟩
  go_wp2_with fail
  have K2 := Lib.hid (K1.out.alloc (.cells #[Value.int IntKind.u64 0, Value.int IntKind.u64 7161130718081542961, Value.int IntKind.u64 8, Value.int IntKind.u64 1, Value.int IntKind.u64 40, Value.int IntKind.u64 ↑(sumU a).toNat] 136))
  go_loopw [16] (fun i wr => ∃ k : Nat, k ≤ 3 ∧ i = .int .i64 (k : Int) ∧ Hid (Keeps Nil w wr ∧ ∀ j, j < k → f (wantC a j).1 = (wantC a j).2)) (fun i _ => 3 - (intOf i).toNat)
  case atStart => exact ⟨0, by omega, rfl, K2.out, fun j hj => by omega⟩
  case round =>
    obtain ⟨k, hk, rfl, HR⟩ := hrel
    by_cases hlt : k < 3
    · obtain ⟨c, d, hcd, hi⟩ : ∃ c d, wantC a k = (c, d) ∧ ∀ w, (Instr.index 136 (.agg #[Value.int IntKind.u64 0, Value.int IntKind.u64 7161130718081542961, Value.int IntKind.u64 8, Value.int IntKind.u64 1, Value.int IntKind.u64 40, Value.int IntKind.u64 ↑(sumU a).toNat]) (.int .i64 (k : Int))).run Try.prog w = .ok (.agg #[.int .u64 (c.toNat : Int), .int .u64 (d.toNat : Int)]) w := by
        obtain rfl | rfl | rfl : k = 0 ∨ k = 1 ∨ k = 2 := by omega
        · exact ⟨0, magicU, rfl, fun w => by kernel_rfl⟩
        · exact ⟨8, 1, rfl, fun w => by kernel_rfl⟩
        · exact ⟨40, sumU a, rfl, fun w => by kernel_rfl⟩
      have HC := Lib.hid hcd
      clear hcd
      obtain ⟨N, hN⟩ : ∃ N, N = wr.heap.size := ⟨_, rfl⟩
      have HN := Lib.hid hN
      have HL := fun w' (k : Keeps Nil w w') => H.out.load w' k c _ rfl
      have HL' := Lib.hid HL
      clear hN HL
      obtain ⟨wb, hwb⟩ : ∃ wb, wb = wr.alloc (.cells #[Value.int IntKind.u64 (c.toNat : Int), Value.int IntKind.u64 (d.toNat : Int)] 38) := ⟨_, rfl⟩
      have hKb : Keeps Nil wr wb := by rw [hwb]; exact (Keeps.refl Nil _).alloc _
      have hcb : wb.heap[wr.heap.size]? = some (.cells #[Value.int IntKind.u64 (c.toNat : Int), Value.int IntKind.u64 (d.toNat : Int)] 38 (0, 0)) := by rw [hwb]; exact heap_new _ _
      have y0 := row2 hcb
      have y1 : wb.drew.cell? ⟨wr.heap.size, 0, none⟩ = some (.int .u64 (c.toNat : Int)) := y0.1
      have y2 : wb.drew.cell? ⟨wr.heap.size, 1, none⟩ = some (.int .u64 (d.toNat : Int)) := y0.2
      have hlb : wr.heap.size < wb.drew.heap.size := getElem?_lt hcb
      have HW := Lib.hid hwb
      have HKb := Lib.hid ((HR.out.1.trans' hKb).trans' (keeps_drew _))
      have LB := Lib.hid (HL'.out wb.drew HKb.out)
      clear hwb hKb hcb y0
      by_cases heq : f c = d
      · have tst := (same_u64 heq).1
        have HE := Lib.hid heq
        clear heq
        go_wp2_with fail
        rw [← HW.out]
        go_region_held3 (fun w' => w'.cell? ⟨wr.heap.size, 0, none⟩ = some (.int .u64 ↑c.toNat) ∧ w'.cell? ⟨wr.heap.size, 1, none⟩ = some (.int .u64 ↑d.toNat))
          (first | exact ⟨y1, y2⟩ | exact ⟨z1, z2⟩ | go_keep)
          ((go_at_call 36; refine LB.out.mono ?_; rintro e w2 ⟨rfl, k2⟩; have z1 := (k2.cell hlb (fun e => e) _).trans y1; have z2 := (k2.cell hlb (fun e => e) _).trans y2))
        have HK2 := Lib.hid (HKb.out.trans' k2)
        clear k2 z1 z2 y1 y2
        go_wp2_with fail
        go_roundw
        case rel =>
          refine ⟨k + 1, by omega, by go_num, HK2.out, fun j hj => ?_⟩
          by_cases e : j < k
          · exact HR.out.2 j e
          · obtain rfl : j = k := by omega
            rw [HC.out]; exact HE.out
        case measure => simp [intOf]; omega
      · have tst := (unlike_u64 heq).1
        have HE := Lib.hid heq
        clear heq
        go_wp2_with fail
        rw [← HW.out]
        go_region_held3 (fun w' => w'.cell? ⟨wr.heap.size, 0, none⟩ = some (.int .u64 ↑c.toNat) ∧ w'.cell? ⟨wr.heap.size, 1, none⟩ = some (.int .u64 ↑d.toNat))
          (first | exact ⟨y1, y2⟩ | exact ⟨z1, z2⟩ | go_keep)
          ((go_at_call 36; refine LB.out.mono ?_; rintro e w2 ⟨rfl, k2⟩; have z1 := (k2.cell hlb (fun e => e) _).trans y1; have z2 := (k2.cell hlb (fun e => e) _).trans y2))
        have HK2 := Lib.hid (HKb.out.trans' k2)
        clear k2 z1 z2 y1 y2
        go_wp2_with fail
        go_ret
        have hn : chkB n f = false := chk_not (j := k) hlt (by rw [← HA.out, HC.out]; exact HE.out)
        exact ⟨by simp [chkE, codeOf, hn], HK2.out⟩
    · obtain rfl : k = 3 := by omega
      have HN : chkB n f = fitsN a n := by
        rw [HA.out]; exact chk_all (fun j hj => by rw [← HA.out]; exact HR.out.2 j hj)
      cases hf : fitsN a n with
      | true =>
        have HF := Lib.hid (And.intro hf HN)
        clear hf HN
        go_wp2_with fail
        refine (H.out.size _ HR.out.1).mono ?_
        rintro e w' ⟨rfl, rfl⟩
        go_wp2_with fail
        refine (fits_any _ a n _ _ rfl rfl).mono ?_
        rintro e w' ⟨rfl, rfl⟩
        rw [HF.out.1]
        go_wp2_with fail
        go_ret
        exact ⟨by simp [chkE, codeOf, HF.out.2, HF.out.1], HR.out.1⟩
      | false =>
        have HF := Lib.hid (And.intro hf HN)
        clear hf HN
        go_wp2_with fail
        refine (H.out.size _ HR.out.1).mono ?_
        rintro e w' ⟨rfl, rfl⟩
        go_wp2_with fail
        refine (fits_any _ a n _ _ rfl rfl).mono ?_
        rintro e w' ⟨rfl, rfl⟩
        rw [HF.out.1]
        go_wp2_with fail
        go_ret
        exact ⟨by simp [chkE, codeOf, HF.out.2, HF.out.1], HR.out.1⟩
end Go.Proofs.Ytccllkgaakmdhaa
