/- carracklaw04.HeadOdd. -/
import Derived.Test.YtccllkgaakmdhaaWHNobody
import Derived.Test.YtccllkgaakmdhaaHFormed
namespace Go.Proofs.Ytccllkgaakmdhaa
open Go.RowKit

/-- Two Tx over one segment. -/
def Pair (w0 w : World) (s t u : Nat) (l l' : List Put) (ws : List UInt64) : Prop :=
  ∃ q m tv m' tv', SegAt w s q ws ∧ TxAt w t m tv s l ∧ TxAt w u m' tv' s l' ∧ ¬ txS u m' tv' s ∧ ¬ txS u m' tv' q ∧ ¬ txS t m tv s ∧ ¬ txS t m tv q ∧ (∀ k, txS t m tv k → ¬ txS u m' tv' k) ∧ (∀ k, txS u m' tv' k → w0.heap.size ≤ k) ∧ Keeps Nil w0 w
section
variable {w0 w w' : World} {s t u : Nat} {l l' : List Put} {ws : List UInt64}
theorem Pair.keeps (h : Pair w0 w s t u l l' ws) : Keeps Nil w0 w := by
  obtain ⟨q, m, tv, m', tv', h1, h2, h3, a, b, c, d, e, f, g⟩ := h; exact g
theorem Pair.left (h : Pair w0 w s t u l l' ws) : Reads (.pointer (some ⟨t, 0, none⟩)) (txLoad ws l) (8 * ws.length) w := by
  obtain ⟨q, m, tv, m', tv', h1, h2, h3, a, b, c, d, e, f, g⟩ := h
  exact Mem.reads (S := fun k => txS t m tv k ∨ k = s ∨ k = q) ⟨q, m, tv, h2, h1, c, d, fun k => Iff.rfl⟩
theorem Pair.right (h : Pair w0 w s t u l l' ws) : Reads (.pointer (some ⟨u, 0, none⟩)) (txLoad ws l') (8 * ws.length) w := by
  obtain ⟨q, m, tv, m', tv', h1, h2, h3, a, b, c, d, e, f, g⟩ := h
  exact Mem.reads (S := fun k => txS u m' tv' k ∨ k = s ∨ k = q) ⟨q, m', tv', h3, h1, a, b, fun k => Iff.rfl⟩
theorem Pair.store (h : Pair w0 w s t u l l' ws) (off v : UInt64) (hlen : l'.length < 4294967296) (x y : Int) (hx : x = (off.toNat : Int)) (hy : y = (v.toNat : Int)) :
    Calls Try.prog 43 #[.pointer (some ⟨u, 0, none⟩), .int .u64 x, .int .u64 y] w fun e w' => e = .returned (.tuple #[]) ∧ Pair w0 w' s t u l (txStore ws l' off v) ws := by
  obtain ⟨q, m, tv, m', tv', h1, h2, h3, a, b, c, d, e, f, g⟩ := h
  refine (TxStore_any h3 h1 off v hlen x y hx hy).mono ?_
  rintro e' w' ⟨rfl, tv2, g1, g2, g3⟩
  have hs := h1.lt
  refine ⟨rfl, q, m, tv, m', tv2, h1.keeps g2 a b, h2.keeps g2 e, g1, fun z => (g3 _ z).elim a (fun z => by omega), fun z => (g3 _ z).elim b (fun z => by omega), c, d, fun k hk z => (g3 _ z).elim (e k hk) (fun z => by have := h2.lt hk; omega), fun k hk => (g3 _ hk).elim (f k) (fun z => Nat.le_trans g.size z), g.trans g2 (fun i hi z => by have := f i z; omega)⟩
theorem Live.pair (h : Live w0 w s t l ws Top) :
    Calls Try.prog 42 #[.pointer (some ⟨s, 0, none⟩)] w fun e w' => ∃ u, e = .returned (.pointer (some ⟨u, 0, none⟩)) ∧ Pair w0 w' s t u l [] ws := by
  obtain ⟨S, ⟨q, m, tv, h1, h2, h3, h4, h5⟩, g2, g3, _⟩ := h
  refine (TxNew_some w s).mono ?_
  rintro e w' ⟨rfl, k1, k2, k3⟩
  have hl := h2.lt
  have hS : ∀ k, txS (w.heap.size + 1) w.heap.size (.slice none 0 0) k → w.heap.size ≤ k := fun k hk => by
    rcases hk with rfl | rfl | hk
    · omega
    · omega
    · cases hk
  refine ⟨w.heap.size + 1, rfl, q, m, tv, w.heap.size, _, h2.keeps k2 (fun e => e) (fun e => e), h1.keeps_nil k2, k1, fun e => by have := hS _ e; omega, fun e => by have := hS _ e; omega, h3, h4, fun k hk e => by have := hS _ e; have := h1.lt hk; omega, fun k hk => Nat.le_trans g3.size (hS k hk), g3.trans' k2⟩
end

def wantO (k : Nat) : UInt64 := if k = 0 then 0 else if k = 1 then 8 else if k = 2 then 16 else 40
theorem codeOf_zero (b : Bool) : (codeOf b == 0) = b := by cases b <;> rfl
/-- one word otherwise -/
theorem odd_chk {size : UInt64} (h : fitsN size 4800 = true) (k : Nat) (hk : k < 4) (v : UInt64) :
    chkB 4800 (txLoad (fmtW 600 size) (txStore (fmtW 600 size) [] (wantO k) v)) = decide (v = txLoad (fmtW 600 size) [] (wantO k)) := by
  have hl := fmtW_length 600 size
  obtain ⟨h0, h1, h2, h3, h4, h5⟩ := fmt_tells (n := 600) h
  have i0 : inB (fmtW 600 size) 0 = true := by rw [inB_iff, hl]; decide
  have i8 : inB (fmtW 600 size) 8 = true := by rw [inB_iff, hl]; decide
  have i16 : inB (fmtW 600 size) 16 = true := by rw [inB_iff, hl]; decide
  have i40 : inB (fmtW 600 size) 40 = true := by rw [inB_iff, hl]; decide
  unfold chkB
  obtain rfl | rfl | rfl | rfl : k = 0 ∨ k = 1 ∨ k = 2 ∨ k = 3 := by omega
  · simp only [wantO]
    simp [txLoad_store i0, txLoad_nil, h0, h1, h2, h5, h]
    rw [Bool.eq_iff_iff]; simp
  · simp only [wantO]
    simp [txLoad_store i8, txLoad_nil, h0, h1, h2, h5, h]
    rw [Bool.eq_iff_iff]; simp
  · simp only [wantO]
    simp [txLoad_store i16, txLoad_nil, h0, h1, h2, h5]
    rw [Bool.eq_iff_iff]
    simp only [Bool.and_eq_true, beq_iff_eq, decide_eq_true_eq]
    constructor
    · rintro ⟨e, _⟩; exact (sum_inj.1 e).symm
    · rintro rfl; exact ⟨rfl, h⟩
  · simp only [wantO]
    simp [txLoad_store i40, txLoad_nil, h0, h1, h2, h5, h]
    rw [Bool.eq_iff_iff]; simp
theorem lock_chk {size : UInt64} (h : fitsN size 4800 = true) (v : UInt64) :
    chkB 4800 (txLoad (fmtW 600 size) (txStore (fmtW 600 size) (txStore (fmtW 600 size) [] 24 v) 32 v)) = true := by
  have hl := fmtW_length 600 size
  obtain ⟨h0, h1, h2, h3, h4, h5⟩ := fmt_tells (n := 600) h
  have i24 : inB (fmtW 600 size) 24 = true := by rw [inB_iff, hl]; decide
  have i32 : inB (fmtW 600 size) 32 = true := by rw [inB_iff, hl]; decide
  unfold chkB
  simp [txLoad_store i24, txLoad_store i32, txLoad_nil, h0, h1, h2, h5, h]

set_option maxRecDepth 100000 in
set_option maxHeartbeats 2000000 in
theorem hodd_any {w : World} (size : UInt64) (at' : UInt8) (v : UInt64) : Calls Try.prog 8 #[.int .u64 (size.toNat : Int), .int .u8 (at'.toNat : Int), .int .u64 (v.toNat : Int)] w fun e w' => e = .returned (.bool true) ∧ Keeps Nil w w' := by
  cases hf : fitsN size 4800 with
  | false =>
    have HF := Lib.hid hf
    clear hf
    go_enter Try.func8, Try.ntmps8
    go_wp2_with fail
    refine (awake4 _).mono ?_
    rintro e w1 ⟨rfl, k1⟩
    have H1 := Lib.hid k1
    clear k1
    go_wp2_with fail
    refine (New_4800 w1).mono ?_
    rintro e w2 ⟨p, q, rfl, hs, k2, hp, hq⟩
    have H2 := Lib.hid (H1.out.trans' k2)
    clear hs k2 hp hq
    go_wp2_with fail
    refine (rFits_any _ size 4800 _ _ rfl (by rfl)).mono ?_
    rintro e w' ⟨rfl, rfl⟩
    rw [HF.out]
    go_wp2_with fail
    go_ret
    exact ⟨rfl, H2.out⟩
  | true =>
    obtain ⟨x, hx⟩ : ∃ x, x = at'.toNat := ⟨_, rfl⟩
    have hx256 : x < 256 := by rw [hx]; exact at'.toNat_lt
    rw [← hx]
    clear hx
    obtain ⟨k, hk⟩ : ∃ k, k = x % 4 := ⟨_, rfl⟩
    have hk4 : k < 4 := by omega
    have e1 : (x : Int) % 4 = (k : Int) := by omega
    have HK := Lib.hid (And.intro hk hk4)
    have ek : ∀ h : k < 4, ([Value.int IntKind.u64 0, Value.int IntKind.u64 8, Value.int IntKind.u64 16, Value.int IntKind.u64 40] : List Value)[k]'h = .int .u64 ((wantO k).toNat : Int) := fun h => by
      obtain rfl | rfl | rfl | rfl : k = 0 ∨ k = 1 ∨ k = 2 ∨ k = 3 := by omega
      all_goals rfl
    clear hk
    obtain ⟨ws, hws⟩ : ∃ ws, ws = fmtW 600 size := ⟨_, rfl⟩
    have c1 := odd_chk hf k hk4 v
    have c2 := lock_chk hf v
    rw [← hws] at c1 c2
    obtain ⟨was, hwas⟩ : ∃ was, was = txLoad ws [] (wantO k) := ⟨_, rfl⟩
    rw [← hwas] at c1
    have HB := Lib.hid (And.intro hws (And.intro c1 (And.intro c2 hwas)))
    have HF := Lib.hid hf
    have te : ((v.toNat : Int) == (was.toNat : Int)) = decide (v = was) := by
      by_cases e : v = was
      · subst e; simp
      · rw [(unlike_u64 e).2]; simp [e]
    obtain ⟨b, hb⟩ : ∃ b, b = decide (v = was) := ⟨_, rfl⟩
    rw [← hb] at te
    have tb : (codeOf b == 0) = b := codeOf_zero b
    have HBB := Lib.hid hb
    have HL := Lib.hid (show (600 : Nat) = ws.length by rw [hws]; exact (fmtW_length 600 size).symm)
    clear hf hws c1 c2 hwas hb
    go_enter Try.func8, Try.ntmps8
    go_wp2_with fail
    refine (awake4 _).mono ?_
    rintro e w1 ⟨rfl, k1⟩
    have H1 := Lib.hid k1
    clear k1
    go_wp2_with fail
    refine (New_4800 w1).mono ?_
    rintro e w2 ⟨p, q, rfl, hs, k2, hp, hq⟩
    have H2 := Lib.hid (And.intro hs (And.intro H1.out (And.intro k2 (And.intro hp hq))))
    clear hs k2 hp hq
    go_wp2_with fail
    refine (rFits_any _ size 4800 _ _ rfl (by rfl)).mono ?_
    rintro e w' ⟨rfl, rfl⟩
    rw [HF.out]
    go_wp2_with fail
    refine (Format_yes H2.out.1 size _ rfl (by rw [List.length_replicate]; exact HF.out)).mono ?_
    rintro e w3 ⟨rfl, hs, k3⟩
    rw [List.length_replicate, ← HB.out.1] at hs
    have H3 := Lib.hid (And.intro hs ((H2.out.2.1.trans' H2.out.2.2.1).trans k3 (fun i hi e => by have := H2.out.2.1.size; have := H2.out.2.2.2.2; omega) : Keeps Nil w w3))
    clear k3 hs
    go_wp2_with fail
    refine (H3.out.1.live H3.out.2 (by have := H2.out.2.1.size; have := H2.out.2.2.2.1; omega) (by have := H2.out.2.1.size; have := H2.out.2.2.2.2; omega)).mono ?_
    rintro e w4 ⟨t, rfl, L, _⟩
    obtain ⟨wA, hwA⟩ : ∃ wA, wA = w4.alloc (.cells #[.int .u64 0, .int .u64 8, .int .u64 16, .int .u64 40] 36) := ⟨_, rfl⟩
    have hAk : Keeps Nil w4 wA := by rw [hwA]; exact (Keeps.refl Nil _).alloc _
    have H4 := Lib.hid (L.quiet Stable.top hAk)
    have HW := Lib.hid hwA
    clear L hAk hwA
    go_wp2_with fail
    rw [← HW.out]
    have T4 : Reads (.pointer (some ⟨t, 0, none⟩)) (txLoad ws []) 4800 wA := by have := H4.out.tells; rwa [← HL.out] at this
    have HT := Lib.hid T4
    clear T4
    refine (HT.out.load wA (Keeps.refl _ _) (wantO k) _ rfl).mono ?_
    rintro e w5 ⟨rfl, k5⟩
    rw [← HB.out.2.2.2]
    have H5 := Lib.hid (H4.out.quiet Stable.top k5)
    clear k5
    go_wp2_with fail
    refine (H5.out.store Stable.top (wantO k) v (by decide) _ _ rfl rfl).mono ?_
    rintro e w6 ⟨rfl, L⟩
    have H6 := Lib.hid L
    clear L
    go_wp2_with fail
    refine H6.out.pair.mono ?_
    rintro e w7 ⟨u, rfl, L⟩
    have H7 := Lib.hid L
    clear L
    go_wp2_with fail
    refine (H7.out.store 24 v (by decide) _ _ (by rfl) rfl).mono ?_
    rintro e w8 ⟨rfl, L⟩
    have H8 := Lib.hid L
    clear L
    go_wp2_with fail
    refine (H8.out.store 32 v (by have := txStore_length ws [] 24 v; simp only [List.length_nil] at this; omega) _ _ (by rfl) rfl).mono ?_
    rintro e w9 ⟨rfl, L⟩
    have TL := L.left
    have TR := L.right
    rw [← HL.out] at TL TR
    have H9 := Lib.hid (And.intro L.keeps (And.intro TL TR))
    clear L TL TR
    go_wp2_with fail
    refine (hCheck_any H9.out.2.1).mono ?_
    rintro e w10 ⟨rfl, k10⟩
    unfold chkE
    rw [HB.out.2.1, ← HBB.out]
    have H10 := Lib.hid k10
    clear k10
    go_wp2_with fail
    refine (hCheck_any (H9.out.2.2.keeps H10.out)).mono ?_
    rintro e w11 ⟨rfl, k11⟩
    unfold chkE
    rw [HB.out.2.2.1]
    have H11 := Lib.hid (H9.out.1.trans' (H10.out.trans' k11))
    clear k11
    go_wp2_with fail
    go_ret
    exact ⟨rfl, H11.out⟩
end Go.Proofs.Ytccllkgaakmdhaa
