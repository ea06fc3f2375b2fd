/- Ref4C, HFmt, HFormed, TagP, TagMay, TagU: merged. -/
import Derived.Test.YtefpbljekfkefaaGreatM05
import Derived.Test.YtefpbljekfkefaaGreatM04
/- carrackref04.Check. -/
namespace Go.Proofs.YtefpbljekfkefaaGreat
open Go.RowKit

theorem quiet_calls {P : Program} {f : FuncId} {args : Array Value} {w : World} {v : Value} (h : Calls P f args w fun e w' => e = .returned v ∧ w = w') : Calls P f args w fun e w' => e = .returned v ∧ w' = w :=
  h.mono fun _ _ ⟨a, b⟩ => ⟨a, b.symm⟩
theorem keeps_drewN (w : World) (n : Nat) : Keeps Nil w (w.drewN n) := ⟨rfl, rfl, rfl, Nat.le_refl _, fun _ _ _ => rfl⟩
theorem loadV_at {ws : List UInt64} {off : UInt64} {i : Nat} (ho : off.toNat = 8 * i) (hi : i < ws.length) : loadV ws off = ws[i]?.getD 0 := by
  have hin : inB ws off = true := by rw [inB_iff, ho]; omega
  unfold loadV
  rw [if_pos hin, ho, show 8 * i / 8 = i by omega]
theorem chk_short {ws : List UInt64} (h : ws.length < 6) (g : UInt64 → UInt64) : chkE (8 * ws.length) g = 12 := by
  have : fitsN (g 16) (8 * ws.length) = false := decide_eq_false (fun e => by omega)
  simp [chkE, codeOf, chkB, this]
theorem chk_long {ws : List UInt64} (h : 6 ≤ ws.length) : chkB (8 * ws.length) (loadV ws) = (ws[0]?.getD 0 == magicU && ws[1]?.getD 0 == 1 && ws[5]?.getD 0 == sumU (ws[2]?.getD 0) && fitsN (ws[2]?.getD 0) (8 * ws.length)) := by
  unfold chkB
  rw [loadV_at (off := 0) (i := 0) (by decide) (by omega), loadV_at (off := 8) (i := 1) (by decide) (by omega), loadV_at (off := 40) (i := 5) (by decide) (by omega), loadV_at (off := 16) (i := 2) (by decide) (by omega)]
theorem magic_ne {a : UInt64} (h : a ≠ magicU) : ((a.toNat : Int) != 7161130718081542961) = true := by rw [← magic_int]; exact (unlike_u64 h).1
theorem magic_same {a : UInt64} (h : a = magicU) : ((a.toNat : Int) != 7161130718081542961) = false := by rw [← magic_int]; exact (same_u64 h).1

set_option maxRecDepth 100000 in
set_option maxHeartbeats 2000000 in
theorem rCheck_any {S : Nat → Prop} {w : World} {v : Value} {ws : List UInt64} (h : View kU S w v ws) (hl : ws.length ≤ 131072) :
    Calls Tryz.prog 181 #[v] w fun e w' => e = .returned (.int .i64 (chkE (8 * ws.length) (loadV ws))) ∧ Keeps Nil w w' := by
  by_cases h6 : ws.length < 6
  · obtain ⟨a, c, rfl, _⟩ := h.val
    rw [chk_short h6]
    obtain ⟨n, hn⟩ : ∃ n, n = ws.length := ⟨_, rfl⟩
    rw [← hn] at h6 ⊢
    clear hn h hl
    have t1 : decide ((n : Int) < 6) = true := by simp; omega
    go_enter Tryz.func181, Tryz.ntmps181
    go_wp2_with fail
    go_quiet (fail)
    go_wp2_with fail
    go_ret
    exact ⟨rfl, keeps_drewN _ _⟩
  · obtain ⟨b, o, cap, rfl, hc, hm, hb, _, hcell⟩ := h.pos (by omega)
    have k0 := View.cellU hcell 0 (by omega)
    rw [Nat.add_zero] at k0
    have k1 := View.cellU hcell 1 (by omega)
    have k2 := View.cellU hcell 2 (by omega)
    have k5 := View.cellU hcell 5 (by omega)
    have HN := chk_long (ws := ws) (by omega)
    obtain ⟨n, hn⟩ : ∃ n, n = ws.length := ⟨_, rfl⟩
    rw [← hn] at h6 hl HN hc ⊢
    obtain ⟨a0, h0⟩ : ∃ a, a = ws[0]?.getD 0 := ⟨_, rfl⟩
    obtain ⟨a1, h1⟩ : ∃ a, a = ws[1]?.getD 0 := ⟨_, rfl⟩
    obtain ⟨a2, h2⟩ : ∃ a, a = ws[2]?.getD 0 := ⟨_, rfl⟩
    obtain ⟨a5, h5⟩ : ∃ a, a = ws[5]?.getD 0 := ⟨_, rfl⟩
    rw [← h0] at k0 HN
    rw [← h1] at k1 HN
    rw [← h2] at k2 HN
    rw [← h5] at k5 HN
    unfold chkE
    rw [HN]
    obtain ⟨r, hr⟩ : ∃ r, r = codeOf (a0 == magicU && a1 == 1 && a5 == sumU a2 && fitsN a2 (8 * n)) := ⟨_, rfl⟩
    rw [← hr]
    have HR := Lib.hid hr
    clear hr
    clear h0 h1 h2 h5 hn h hcell HN hb hm
    have t0 : decide ((n : Int) < 6) = false := by simp; omega
    have t1 : decide (n < 6) = false := by simp; omega
    have g0 : 0 < n := by omega
    have n1 : 1 < n := by omega
    have n2 : 2 < n := by omega
    have n5 : 5 < n := by omega
    have g1 : (1 : Int) < (n : Int) := by omega
    have g2 : (2 : Int) < (n : Int) := by omega
    have g5 : (5 : Int) < (n : Int) := by omega
    have e1 : IntKind.u64.wrap (n : Int) = (n : Int) := IntWalk.u64_in _ (by omega)
    have e2 : IntKind.u64.wrap (8 * (n : Int)) = 8 * (n : Int) := IntWalk.u64_in _ (by omega)
    by_cases c0 : a0 = magicU
    · have q0 := magic_same c0
      by_cases c1 : a1 = 1
      · have q1 : ((a1.toNat : Int) != 1) = false := (same_u64 c1).1
        cases hf : fitsN a2 (8 * n) with
        | true =>
          have HF := Lib.hid hf
          by_cases c5 : a5 = sumU a2
          · have q5 := (same_u64 c5).1
            have HC := Lib.hid (And.intro c0 (And.intro c1 c5))
            clear c0 c1 c5 hf h6
            go_enter Tryz.func181, Tryz.ntmps181
            go_wp2_with fail
            go_quiet (((first | (go_at_call 176; exact Calls.quiet_of_same (quiet_calls (HF.out ▸ rFits_any _ a2 (8 * n) _ _ rfl (by simp)))) | (go_at_call 177; exact Calls.quiet_of_same (quiet_calls (rSum_any _ a2 _ rfl))))))
            go_wp2_with fail
            go_ret
            exact ⟨by rw [HR.out]; simp [codeOf, HC.out, HF.out], keeps_drewN _ _⟩
          · have q5 := (unlike_u64 c5).1
            have HC := Lib.hid (And.intro c0 (And.intro c1 c5))
            clear c0 c1 c5 hf h6
            go_enter Tryz.func181, Tryz.ntmps181
            go_wp2_with fail
            go_quiet (((first | (go_at_call 176; exact Calls.quiet_of_same (quiet_calls (HF.out ▸ rFits_any _ a2 (8 * n) _ _ rfl (by simp)))) | (go_at_call 177; exact Calls.quiet_of_same (quiet_calls (rSum_any _ a2 _ rfl))))))
            go_wp2_with fail
            go_ret
            exact ⟨by rw [HR.out]; simp [codeOf, HC.out, HF.out], keeps_drewN _ _⟩
        | false =>
          have HF := Lib.hid hf
          have HC := Lib.hid (And.intro c0 c1)
          clear c0 c1 hf h6
          go_enter Tryz.func181, Tryz.ntmps181
          go_wp2_with fail
          go_quiet (((first | (go_at_call 176; exact Calls.quiet_of_same (quiet_calls (HF.out ▸ rFits_any _ a2 (8 * n) _ _ rfl (by simp)))) | (go_at_call 177; exact Calls.quiet_of_same (quiet_calls (rSum_any _ a2 _ rfl))))))
          go_wp2_with fail
          go_ret
          exact ⟨by rw [HR.out]; simp [codeOf, HC.out, HF.out], keeps_drewN _ _⟩
      · have q1 : ((a1.toNat : Int) != 1) = true := (unlike_u64 c1).1
        have HC := Lib.hid (And.intro c0 c1)
        clear c0 c1 h6
        go_enter Tryz.func181, Tryz.ntmps181
        go_wp2_with fail
        go_quiet (fail)
        go_wp2_with fail
        go_ret
        exact ⟨by rw [HR.out]; simp [codeOf, HC.out], keeps_drewN _ _⟩
    · have q0 := magic_ne c0
      have HC := Lib.hid c0
      clear c0 h6
      go_enter Tryz.func181, Tryz.ntmps181
      go_wp2_with fail
      go_quiet (fail)
      go_wp2_with fail
      go_ret
      exact ⟨by rw [HR.out]; simp [codeOf, HC.out], keeps_drewN _ _⟩
end Go.Proofs.YtefpbljekfkefaaGreat

/- What a formatted segment tells. -/
namespace Go.Proofs.YtefpbljekfkefaaGreat
open Go.RowKit

/-- what a formatted segment tells -/
theorem fmt_tells {n : Nat} {size : UInt64} (h : fitsN size (8 * n) = true) :
    loadV (fmtW n size) 0 = magicU ∧ loadV (fmtW n size) 8 = 1 ∧ loadV (fmtW n size) 16 = size ∧ loadV (fmtW n size) 24 = 0 ∧ loadV (fmtW n size) 32 = 3776 ∧ loadV (fmtW n size) 40 = sumU size := by
  obtain ⟨h1, h2, h3⟩ := fits_spec h
  have hn : 478 ≤ n := by omega
  have hl := fmtR_length n size
  have hm : 472 < size.toNat / 8 - 1 := by omega
  rw [fmt_same h]
  rw [loadV_at (off := 0) (i := 0) (by decide) (by omega), loadV_at (off := 8) (i := 1) (by decide) (by omega), loadV_at (off := 16) (i := 2) (by decide) (by omega), loadV_at (off := 24) (i := 3) (by decide) (by omega),
    loadV_at (off := 32) (i := 4) (by decide) (by omega), loadV_at (off := 40) (i := 5) (by decide) (by omega)]
  unfold fmtR
  refine ⟨?_, ?_, ?_, ?_, ?_, ?_⟩
  all_goals
    simp only [List.getElem?_set, List.length_set, List.length_replicate, List.getElem?_replicate]
    have z0 : ¬ size.toNat / 8 - 1 = 0 := by omega
    have z1 : ¬ size.toNat / 8 - 1 = 1 := by omega
    have z2 : ¬ size.toNat / 8 - 1 = 2 := by omega
    have z3 : ¬ size.toNat / 8 - 1 = 3 := by omega
    have z4 : ¬ size.toNat / 8 - 1 = 4 := by omega
    have z5 : ¬ size.toNat / 8 - 1 = 5 := by omega
    simp [z0, z1, z2, z3, z4, z5, show 0 < n by omega, show 1 < n by omega, show 2 < n by omega, show 3 < n by omega, show 4 < n by omega, show 5 < n by omega]
theorem fmt_chk {n : Nat} {size : UInt64} (h : fitsN size (8 * n) = true) : chkB (8 * n) (loadV (fmtW n size)) = true := by
  obtain ⟨h0, h1, h2, h3, h4, h5⟩ := fmt_tells h
  simp [chkB, h0, h1, h2, h5, h]

end Go.Proofs.YtefpbljekfkefaaGreat

/- A formatted segment of 4800 bytes, or one that couldn't be formatted; what is applied is told. -/
namespace Go.Proofs.YtefpbljekfkefaaGreat
open Go.RowKit

theorem mayB_4800 : mayB 4800 = true := by decide
theorem txLoad_store {ws : List UInt64} {l : List Put} {off v o : UInt64} (hin : inB ws off = true) : txLoad ws (txStore ws l off v) o = if o = off then v else txLoad ws l o := by
  unfold txLoad txStore
  rw [if_pos hin, loadP_store]
  by_cases e : o = off
  · simp [e]
  · simp [e]
theorem txLoad_nil (ws : List UInt64) (o : UInt64) : txLoad ws [] o = loadV ws o := rfl

/-- the words behind Format, of a new segment of 4800 bytes -/
def formW (size : UInt64) : List UInt64 := if fitsN size 4800 then fmtW 600 size else List.replicate 600 0
def formE (size : UInt64) : Int := if fitsN size 4800 then 0 else 2
theorem formW_length (size : UInt64) : (formW size).length = 600 := by
  unfold formW; split
  · exact fmtW_length _ _
  · rw [List.length_replicate]
theorem formW_no {size : UInt64} (h : fitsN size 4800 = false) : formW size = List.replicate 600 0 := if_neg (by rw [h]; decide)
theorem formW_yes {size : UInt64} (h : fitsN size 4800 = true) : formW size = fmtW 600 size := if_pos h
theorem formE_yes {size : UInt64} (h : fitsN size 4800 = true) : formE size = 0 := if_pos h
theorem formE_no {size : UInt64} (h : fitsN size 4800 = false) : formE size = 2 := if_neg (by rw [h]; decide)

theorem Format_form {w : World} {p q : Nat} (h : SegAt w p q (List.replicate 600 0)) (size : UInt64) (x : Int) (hx : x = (size.toNat : Int)) :
    Calls Tryz.prog 128 #[.pointer (some ⟨p, 0, none⟩), .int .u64 x] w fun e w' => e = .returned (.int .i64 (formE size)) ∧ SegAt w' p q (formW size) ∧ Keeps (fun k => k = q) w w' := by
  cases hf : fitsN size 4800 with
  | true => exact (Format_yes h size x hx (by rw [List.length_replicate]; exact hf)).mono fun e w' ⟨h1, h2, h3⟩ => ⟨by rw [h1, formE_yes hf], by rw [List.length_replicate] at h2; rw [formW_yes hf]; exact h2, h3⟩
  | false => exact (Format_no h size x hx (by rw [List.length_replicate]; exact hf)).mono fun e w' ⟨h1, h2⟩ => ⟨by rw [h1, formE_no hf], by rw [formW_no hf]; exact h.keeps h2 (fun e => e) (fun e => e), h2.of_nil⟩

/-- a new segment of 4800 bytes -/
theorem New_4800 (w : World) : Calls Tryz.prog 127 #[.int .u64 4800] w fun e w' => ∃ p q, e = .returned (.pointer (some ⟨p, 0, none⟩)) ∧ SegAt w' p q (List.replicate 600 0) ∧ Keeps Nil w w' ∧ w.heap.size ≤ p ∧ w.heap.size ≤ q := by
  refine (New_yes w 4800 mayB_4800 _ (by rfl)).mono ?_
  rintro e w2 ⟨rfl, hs, k2, hsz⟩
  exact ⟨_, _, rfl, hs, k2, by omega, Nat.le_refl _⟩

theorem loadV_out {ws : List UInt64} {off : UInt64} (h : inB ws off = false) : loadV ws off = 0 := by simp [loadV, h]
/-- what is applied is what was thought of -/
theorem load_applied {ws : List UInt64} {l : List Put} (_hs : ws.length ≤ 131072) (h : GoodP ws l) (off : UInt64) : loadV (applyW ws l) off = txLoad ws l off := by
  have hb : inB (applyW ws l) off = inB ws off := inB_len (by rw [applyW_length]) off
  cases hin : inB ws off with
  | true =>
    obtain ⟨h1, h2⟩ := inB_iff.1 hin
    have hg := applyW_get h.1 h.2 (off.toNat / 8) off (by omega) (by omega)
    unfold txLoad loadV
    rw [hb, hin, if_pos rfl, if_pos rfl, hg]
    cases loadP l off with
    | none => simp
    | some u => simp
  | false =>
    rw [loadV_out (hb.trans hin)]
    unfold txLoad
    have : loadP l off = none := by
      rw [loadP_none]
      intro hm
      obtain ⟨x, hx, rfl⟩ := List.mem_map.1 hm
      rw [h.2 x hx] at hin
      cases hin
    rw [this, loadV_out hin]; rfl
end Go.Proofs.YtefpbljekfkefaaGreat

/- Tags: whether one may be, its word, the tag of a word; plain laws. -/
namespace Go.Proofs.YtefpbljekfkefaaGreat
open Go.RowKit

structure TagV where
  size : UInt64
  used : Bool
  owner : Int
deriving DecidableEq
def TagV.zero : TagV := ⟨0, false, 0⟩
/-- a tag's cells -/
def TagV.cells (g : TagV) : Array Value := #[.int .u64 (g.size.toNat : Int), .bool g.used, .int .i64 g.owner]
def bitOf (b : Bool) : Nat := if b then 1 else 0

def mayT (g : TagV) : Bool := decide (g.size.toNat % 16 = 0 ∧ 48 ≤ g.size.toNat ∧ g.size.toNat ≤ 1048576 ∧ 0 ≤ g.owner ∧ g.owner ≤ 8 ∧ (g.used = true ∨ g.owner = 0))
theorem may_spec {g : TagV} (h : mayT g = true) : g.size.toNat % 16 = 0 ∧ 48 ≤ g.size.toNat ∧ g.size.toNat ≤ 1048576 ∧ 0 ≤ g.owner ∧ g.owner ≤ 8 ∧ (g.used = true ∨ g.owner = 0) := of_decide_eq_true h
/-- a tag's word -/
def packN (g : TagV) : Nat := g.size.toNat + g.owner.toNat * 4294967296 + bitOf g.used
def packU (g : TagV) : UInt64 := if mayT g then UInt64.ofNat (packN g) else 0
theorem pack_lt {g : TagV} (h : mayT g = true) : packN g < 18446744073709551616 := by
  obtain ⟨h1, h2, h3, h4, h5, h6⟩ := may_spec h
  unfold packN bitOf
  split <;> omega
theorem pack_toNat {g : TagV} (h : mayT g = true) : (packU g).toNat = packN g := by
  unfold packU
  rw [if_pos h, UInt64.toNat_ofNat']
  exact Nat.mod_eq_of_lt (pack_lt h)
theorem pack_no {g : TagV} (h : mayT g = false) : packU g = 0 := if_neg (by rw [h]; decide)
/-- what a word might say -/
def candT (w : UInt64) : TagV := ⟨UInt64.ofNat (w.toNat % 4294967296 - w.toNat % 2), decide (w.toNat % 2 = 1), ((w.toNat / 4294967296 : Nat) : Int)⟩
theorem cand_size (w : UInt64) : (candT w).size.toNat = w.toNat % 4294967296 - w.toNat % 2 := by
  unfold candT
  rw [UInt64.toNat_ofNat']
  omega
def isTag (w : UInt64) : Bool := mayT (candT w) && packU (candT w) == w
def unpackT (w : UInt64) : TagV := if isTag w then candT w else TagV.zero
theorem isTag_spec {w : UInt64} (h : isTag w = true) : mayT (candT w) = true ∧ packU (candT w) = w := by simpa [isTag] using h
theorem isTag_no {w : UInt64} (h : isTag w = false) : mayT (candT w) = false ∨ (mayT (candT w) = true ∧ packU (candT w) ≠ w) := by
  cases hm : mayT (candT w) with
  | false => exact .inl rfl
  | true => right; simp [isTag, hm] at h; exact ⟨rfl, h⟩
/-- the tag of a tag's word -/
theorem cand_pack {g : TagV} (h : mayT g = true) : candT (packU g) = g := by
  obtain ⟨h1, h2, h3, h4, h5, h6⟩ := may_spec h
  have hp := pack_toNat h
  have hb : bitOf g.used ≤ 1 := by unfold bitOf; split <;> omega
  have e1 : packN g % 4294967296 = g.size.toNat + bitOf g.used := by unfold packN; omega
  have e2 : packN g % 2 = bitOf g.used := by unfold packN; omega
  have e3 : packN g / 4294967296 = g.owner.toNat := by unfold packN; omega
  obtain ⟨s, u, o⟩ := g
  unfold candT
  rw [hp, e1, e2, e3]
  have a1 : UInt64.ofNat (s.toNat + bitOf u - bitOf u) = s := by rw [Nat.add_sub_cancel]; simp
  have a2 : decide (bitOf u = 1) = u := by cases u <;> rfl
  have a3 : ((Int.toNat o : Nat) : Int) = o := Int.toNat_of_nonneg h4
  simp only [a1, a2, a3]
theorem isTag_pack {g : TagV} (h : mayT g = true) : isTag (packU g) = true := by
  unfold isTag
  rw [cand_pack h, h]
  simp
theorem unpack_pack {g : TagV} (h : mayT g = true) : unpackT (packU g) = g := by
  unfold unpackT
  rw [if_pos (isTag_pack h), cand_pack h]
theorem pack_unpack {w : UInt64} (h : isTag w = true) : packU (unpackT w) = w := by
  unfold unpackT
  rw [if_pos h]
  exact (isTag_spec h).2
theorem may_unpack {w : UInt64} (h : isTag w = true) : mayT (unpackT w) = true := by
  unfold unpackT
  rw [if_pos h]
  exact (isTag_spec h).1
theorem pack_inj {g h : TagV} (hg : mayT g = true) (hh : mayT h = true) (e : packU g = packU h) : g = h := by
  rw [← cand_pack hg, ← cand_pack hh, e]
/-- the candidate of the document: an owner below 16 -/
def candR (w : UInt64) : TagV := ⟨UInt64.ofNat (w.toNat % 4294967296 - w.toNat % 2), decide (w.toNat % 2 = 1), ((w.toNat / 4294967296 % 16 : Nat) : Int)⟩
theorem isTag_R (w : UInt64) : (mayT (candR w) && packU (candR w) == w) = isTag w := by
  rw [Bool.eq_iff_iff]
  constructor
  · intro h
    have h' : mayT (candR w) = true ∧ packU (candR w) = w := by simpa using h
    have e : candT w = candR w := by rw [← h'.2, cand_pack h'.1, h'.2]
    simp [isTag, e, h'.1, h'.2]
  · intro h
    obtain ⟨h1, h2⟩ := isTag_spec h
    obtain ⟨_, _, _, _, g5, _⟩ := may_spec h1
    have e : candR w = candT w := by
      unfold candR candT at *
      simp only at g5
      have : w.toNat / 4294967296 % 16 = w.toNat / 4294967296 := by omega
      rw [this]
    rw [e, h1, h2]
    simp
theorem unpack_R (w : UInt64) (h : (mayT (candR w) && packU (candR w) == w) = true) : candR w = unpackT w := by
  have h' : mayT (candR w) = true ∧ packU (candR w) = w := by simpa using h
  have e : candT w = candR w := by rw [← h'.2, cand_pack h'.1, h'.2]
  unfold unpackT
  rw [← isTag_R, if_pos h, e]
theorem isTag_zero : isTag 0 = false := by decide
theorem unpack_no {w : UInt64} (h : isTag w = false) : unpackT w = TagV.zero := if_neg (by rw [h]; decide)

/-- may a block of so many bytes stand at an offset, where the heap ends at 'stop' -/
def inT (stop off size : UInt64) : Bool := decide (off.toNat % 16 = 0 ∧ 3776 ≤ off.toNat ∧ off.toNat < stop.toNat ∧ size.toNat ≤ stop.toNat - off.toNat)
theorem inT_spec {stop off size : UInt64} (h : inT stop off size = true) : off.toNat % 16 = 0 ∧ 3776 ≤ off.toNat ∧ off.toNat < stop.toNat ∧ size.toNat ≤ stop.toNat - off.toNat := of_decide_eq_true h
/-- what is read at an offset -/
def readB (f : UInt64 → UInt64) (off : UInt64) : Bool := isTag (f off) && inT (f 16) off (unpackT (f off)).size && f (off + (unpackT (f off)).size - 8) == f off
def readT (f : UInt64 → UInt64) (off : UInt64) : TagV := if readB f off then unpackT (f off) else TagV.zero
def writeB (f : UInt64 → UInt64) (off : UInt64) (g : TagV) : Bool := mayT g && inT (f 16) off g.size
end Go.Proofs.YtefpbljekfkefaaGreat

/- tag.May, Pack, Unpack, and the document's. -/
namespace Go.Proofs.YtefpbljekfkefaaGreat
open Go.RowKit

theorem row3 {w : World} {m : Nat} {a b c : Value} {T : TypeId} (h : w.heap[m]? = some (.cells #[a, b, c] T (0, 0))) : w.cell? ⟨m, 0, none⟩ = some a ∧ w.cell? ⟨m, 1, none⟩ = some b ∧ w.cell? ⟨m, 2, none⟩ = some c :=
  ⟨by simp [World.cell?, h], by simp [World.cell?, h], by simp [World.cell?, h]⟩
theorem TagV.cells_def (s : UInt64) (u : Bool) (o : Int) : TagV.cells ⟨s, u, o⟩ = #[.int .u64 (s.toNat : Int), .bool u, .int .i64 o] := rfl

set_option maxRecDepth 100000 in
theorem tag_eq (a c : Int) (b d : Bool) (i j : Int) (w : World) : (Op.equalIn 10000 35 (.agg #[.int .u64 a, .bool b, .int .i64 i]) (.agg #[.int .u64 c, .bool d, .int .i64 j])).run Tryz.prog w = .ok ((a == c) && ((b == d) && ((i == j) && true))) w := by
  refine equalIn_fields (d := 9999) Tryz.underlying35 (by kernel_rfl) ?_
  refine eqFields_one (by decide) (a := .int .u64 a) (b := .int .u64 c) (by kernel_rfl) (by kernel_rfl) (equalIn_int (d := 9998) Tryz.underlying25) ?_
  refine eqFields_one (by decide) (a := .bool b) (b := .bool d) (by kernel_rfl) (by kernel_rfl) (equalIn_bool (d := 9998) Tryz.underlying4) ?_
  exact eqFields_one (by decide) (a := .int .i64 i) (b := .int .i64 j) (by kernel_rfl) (by kernel_rfl) (equalIn_int (d := 9998) Tryz.underlying3) eqFields_none
theorem tag_eql (a c : Int) (b d : Bool) (i j : Int) (w : World) : (binOp .eql 35 (.agg #[.int .u64 a, .bool b, .int .i64 i]) (.agg #[.int .u64 c, .bool d, .int .i64 j])).run Tryz.prog w = .ok (.bool ((a == c) && ((b == d) && (i == j)))) w := by
  rw [run_eql_struct, tag_eq]; simp [Result.andThen]
theorem tag_neq (a c : Int) (b d : Bool) (i j : Int) (w : World) : (binOp .neq 35 (.agg #[.int .u64 a, .bool b, .int .i64 i]) (.agg #[.int .u64 c, .bool d, .int .i64 j])).run Tryz.prog w = .ok (.bool (!((a == c) && ((b == d) && (i == j))))) w := by
  rw [run_neq_struct, tag_eq]; simp [Result.andThen]
theorem tag_gd : Tryz.prog.eqGuardType Tryz.prog.depth 35 = false := by kernel_rfl

set_option maxRecDepth 100000 in
theorem rtag_eq (a c : Int) (b d : Bool) (i j : Int) (w : World) : (Op.equalIn 10000 61 (.agg #[.int .u64 a, .bool b, .int .i64 i]) (.agg #[.int .u64 c, .bool d, .int .i64 j])).run Tryz.prog w = .ok ((a == c) && ((b == d) && ((i == j) && true))) w := by
  refine equalIn_fields (d := 9999) Tryz.underlying61 (by kernel_rfl) ?_
  refine eqFields_one (by decide) (a := .int .u64 a) (b := .int .u64 c) (by kernel_rfl) (by kernel_rfl) (equalIn_int (d := 9998) Tryz.underlying25) ?_
  refine eqFields_one (by decide) (a := .bool b) (b := .bool d) (by kernel_rfl) (by kernel_rfl) (equalIn_bool (d := 9998) Tryz.underlying4) ?_
  exact eqFields_one (by decide) (a := .int .i64 i) (b := .int .i64 j) (by kernel_rfl) (by kernel_rfl) (equalIn_int (d := 9998) Tryz.underlying3) eqFields_none
theorem rtag_eql (a c : Int) (b d : Bool) (i j : Int) (w : World) : (binOp .eql 61 (.agg #[.int .u64 a, .bool b, .int .i64 i]) (.agg #[.int .u64 c, .bool d, .int .i64 j])).run Tryz.prog w = .ok (.bool ((a == c) && ((b == d) && (i == j)))) w := by
  rw [run_eql_struct, rtag_eq]; simp [Result.andThen]
theorem rtag_neq (a c : Int) (b d : Bool) (i j : Int) (w : World) : (binOp .neq 61 (.agg #[.int .u64 a, .bool b, .int .i64 i]) (.agg #[.int .u64 c, .bool d, .int .i64 j])).run Tryz.prog w = .ok (.bool (!((a == c) && ((b == d) && (i == j))))) w := by
  rw [run_neq_struct, rtag_eq]; simp [Result.andThen]
theorem rtag_gd : Tryz.prog.eqGuardType Tryz.prog.depth 61 = false := by kernel_rfl

set_option maxHeartbeats 1000000 in
theorem May_any (w : World) (g : TagV) : Calls Tryz.prog 137 #[.agg g.cells] w fun e w' => e = .returned (.bool (mayT g)) ∧ w' = w.alloc (.cells g.cells 35) := by
  obtain ⟨s, u, o⟩ := g
  rw [TagV.cells_def]
  obtain ⟨n, hn⟩ : ∃ n, n = s.toNat := ⟨_, rfl⟩
  have hm : mayT ⟨s, u, o⟩ = decide (n % 16 = 0 ∧ 48 ≤ n ∧ n ≤ 1048576 ∧ 0 ≤ o ∧ o ≤ 8 ∧ (u = true ∨ o = 0)) := by rw [hn]; rfl
  have hlt : n < 18446744073709551616 := by rw [hn]; exact s.toNat_lt
  rw [hm, ← hn]
  clear hm hn
  have e1 : IntKind.u64.wrap ((n : Int) % 16) = (n : Int) % 16 := IntWalk.u64_in _ (by omega)
  have e2 : IntKind.u64.wrap ((n : Int).tmod 16) = (n : Int) % 16 := by rw [Int.tmod_eq_emod_of_nonneg (by omega)]; exact e1
  by_cases h0 : n % 16 = 0
  · have k0 : (n : Int) % 16 = 0 := by omega
    by_cases h1 : 48 ≤ n
    · have k1 : (48 : Int) ≤ (n : Int) := by omega
      by_cases h2 : n ≤ 1048576
      · have k2 : (n : Int) ≤ 1048576 := by omega
        by_cases h3 : 0 ≤ o
        · have k3 : 0 ≤ o := by omega
          by_cases h4 : o ≤ 8
          · have k4 : o ≤ 8 := by omega
            cases u with
            | true =>
              rw [decide_eq_true (by exact ⟨h0, h1, h2, h3, h4, .inl rfl⟩)]
              clear h0 h1 h2 h3 h4
              go_enter Tryz.func137, Tryz.ntmps137
              go_wp2_with fail
              go_ret
              exact ⟨rfl, rfl⟩
            | false =>
              by_cases h5 : o = 0
              · subst h5
                rw [decide_eq_true (by exact ⟨h0, h1, h2, h3, h4, .inr rfl⟩)]
                clear h0 h1 h2
                go_enter Tryz.func137, Tryz.ntmps137
                go_wp2_with fail
                go_ret
                exact ⟨rfl, rfl⟩
              · have k5 : (o == 0) = false := by rw [beq_eq_false_iff_ne]; exact h5
                rw [decide_eq_false (fun h => h.2.2.2.2.2.elim (fun e => by cases e) h5)]
                clear h0 h1 h2 h3 h4 h5
                go_enter Tryz.func137, Tryz.ntmps137
                go_wp2_with fail
                go_ret
                exact ⟨rfl, rfl⟩
          · have k4 : ¬ o ≤ 8 := by omega
            rw [decide_eq_false (fun h => h4 h.2.2.2.2.1)]
            clear h0 h1 h2 h3 h4
            go_enter Tryz.func137, Tryz.ntmps137
            go_wp2_with fail
            go_ret
            exact ⟨rfl, rfl⟩
        · have k3 : ¬ 0 ≤ o := by omega
          rw [decide_eq_false (fun h => h3 h.2.2.2.1)]
          clear h0 h1 h2 h3
          go_enter Tryz.func137, Tryz.ntmps137
          go_wp2_with fail
          go_ret
          exact ⟨rfl, rfl⟩
      · have k2 : ¬ (n : Int) ≤ 1048576 := by omega
        rw [decide_eq_false (fun h => h2 h.2.2.1)]
        clear h0 h1 h2
        go_enter Tryz.func137, Tryz.ntmps137
        go_wp2_with fail
        go_ret
        exact ⟨rfl, rfl⟩
    · have k1 : ¬ (48 : Int) ≤ (n : Int) := by omega
      rw [decide_eq_false (fun h => h1 h.2.1)]
      clear h0 h1
      go_enter Tryz.func137, Tryz.ntmps137
      go_wp2_with fail
      go_ret
      exact ⟨rfl, rfl⟩
  · have k0 : ((n : Int) % 16 == 0) = false := by rw [beq_eq_false_iff_ne]; omega
    rw [decide_eq_false (fun h => h0 h.1)]
    clear h0
    go_enter Tryz.func137, Tryz.ntmps137
    go_wp2_with fail
    go_ret
    exact ⟨rfl, rfl⟩
set_option maxHeartbeats 1000000 in
theorem rMay5_any (w : World) (g : TagV) : Calls Tryz.prog 166 #[.agg g.cells] w fun e w' => e = .returned (.bool (mayT g)) ∧ w' = w.alloc (.cells g.cells 61) := by
  obtain ⟨s, u, o⟩ := g
  rw [TagV.cells_def]
  obtain ⟨n, hn⟩ : ∃ n, n = s.toNat := ⟨_, rfl⟩
  have hm : mayT ⟨s, u, o⟩ = decide (n % 16 = 0 ∧ 48 ≤ n ∧ n ≤ 1048576 ∧ 0 ≤ o ∧ o ≤ 8 ∧ (u = true ∨ o = 0)) := by rw [hn]; rfl
  have hlt : n < 18446744073709551616 := by rw [hn]; exact s.toNat_lt
  rw [hm, ← hn]
  clear hm hn
  have e1 : IntKind.u64.wrap ((n : Int) % 16) = (n : Int) % 16 := IntWalk.u64_in _ (by omega)
  have e2 : IntKind.u64.wrap ((n : Int).tmod 16) = (n : Int) % 16 := by rw [Int.tmod_eq_emod_of_nonneg (by omega)]; exact e1
  by_cases h0 : n % 16 = 0
  · have k0 : (n : Int) % 16 = 0 := by omega
    by_cases h1 : 48 ≤ n
    · have k1 : (48 : Int) ≤ (n : Int) := by omega
      by_cases h2 : n ≤ 1048576
      · have k2 : (n : Int) ≤ 1048576 := by omega
        by_cases h3 : 0 ≤ o
        · have k3 : 0 ≤ o := by omega
          by_cases h4 : o ≤ 8
          · have k4 : o ≤ 8 := by omega
            cases u with
            | true =>
              rw [decide_eq_true (by exact ⟨h0, h1, h2, h3, h4, .inl rfl⟩)]
              clear h0 h1 h2 h3 h4
              go_enter Tryz.func166, Tryz.ntmps166
              go_wp2_with fail
              go_ret
              exact ⟨rfl, rfl⟩
            | false =>
              by_cases h5 : o = 0
              · subst h5
                rw [decide_eq_true (by exact ⟨h0, h1, h2, h3, h4, .inr rfl⟩)]
                clear h0 h1 h2
                go_enter Tryz.func166, Tryz.ntmps166
                go_wp2_with fail
                go_ret
                exact ⟨rfl, rfl⟩
              · have k5 : (o == 0) = false := by rw [beq_eq_false_iff_ne]; exact h5
                rw [decide_eq_false (fun h => h.2.2.2.2.2.elim (fun e => by cases e) h5)]
                clear h0 h1 h2 h3 h4 h5
                go_enter Tryz.func166, Tryz.ntmps166
                go_wp2_with fail
                go_ret
                exact ⟨rfl, rfl⟩
          · have k4 : ¬ o ≤ 8 := by omega
            rw [decide_eq_false (fun h => h4 h.2.2.2.2.1)]
            clear h0 h1 h2 h3 h4
            go_enter Tryz.func166, Tryz.ntmps166
            go_wp2_with fail
            go_ret
            exact ⟨rfl, rfl⟩
        · have k3 : ¬ 0 ≤ o := by omega
          rw [decide_eq_false (fun h => h3 h.2.2.2.1)]
          clear h0 h1 h2 h3
          go_enter Tryz.func166, Tryz.ntmps166
          go_wp2_with fail
          go_ret
          exact ⟨rfl, rfl⟩
      · have k2 : ¬ (n : Int) ≤ 1048576 := by omega
        rw [decide_eq_false (fun h => h2 h.2.2.1)]
        clear h0 h1 h2
        go_enter Tryz.func166, Tryz.ntmps166
        go_wp2_with fail
        go_ret
        exact ⟨rfl, rfl⟩
    · have k1 : ¬ (48 : Int) ≤ (n : Int) := by omega
      rw [decide_eq_false (fun h => h1 h.2.1)]
      clear h0 h1
      go_enter Tryz.func166, Tryz.ntmps166
      go_wp2_with fail
      go_ret
      exact ⟨rfl, rfl⟩
  · have k0 : ((n : Int) % 16 == 0) = false := by rw [beq_eq_false_iff_ne]; omega
    rw [decide_eq_false (fun h => h0 h.1)]
    clear h0
    go_enter Tryz.func166, Tryz.ntmps166
    go_wp2_with fail
    go_ret
    exact ⟨rfl, rfl⟩
theorem or_high (n k : Nat) (h : n < 4294967296) : n ||| k * 4294967296 = n + k * 4294967296 := by
  have := Nat.shiftLeft_add_eq_or_of_lt (i := 32) h k
  rw [Nat.shiftLeft_eq] at this
  rw [Nat.or_comm, Nat.add_comm]
  exact this.symm
theorem or_one (n : Nat) (h : n % 2 = 0) : n ||| 1 = n + 1 := by
  have := Nat.shiftLeft_add_eq_or_of_lt (i := 1) (b := 1) (by decide) (n / 2)
  rw [Nat.shiftLeft_eq, show n / 2 * 2 ^ 1 = n by omega] at this
  exact this.symm

set_option maxHeartbeats 1000000 in
theorem Pack_any (w : World) (g : TagV) : Calls Tryz.prog 138 #[.agg g.cells] w fun e w' => e = .returned (.int .u64 ((packU g).toNat : Int)) ∧ Keeps Nil w w' := by
  have HM := Lib.hid (fun w => May_any w g)
  have hk : Keeps Nil w ((w.alloc (.cells g.cells 35)).alloc (.cells g.cells 35)) := ((Keeps.refl Nil w).alloc _).alloc _
  have HK := Lib.hid hk
  clear hk
  cases hm : mayT g with
  | false =>
    rw [pack_no hm]
    have HMM := Lib.hid hm
    clear hm
    obtain ⟨s, u, o⟩ := g
    rw [TagV.cells_def] at HM HK ⊢
    go_enter Tryz.func138, Tryz.ntmps138
    go_wp2_with fail
    refine (HM.out _).mono ?_
    rintro e w' ⟨rfl, rfl⟩
    rw [HMM.out]
    go_wp2_with fail
    go_ret
    exact ⟨rfl, HK.out⟩
  | true =>
    have hp := pack_toNat hm
    obtain ⟨h1, h2, h3, h4, h5, h6⟩ := may_spec hm
    have HMM := Lib.hid hm
    clear hm
    obtain ⟨s, u, o⟩ := g
    rw [TagV.cells_def] at HM HK ⊢
    obtain ⟨n, hn⟩ : ∃ n, n = s.toNat := ⟨_, rfl⟩
    obtain ⟨k, rfl⟩ : ∃ k : Nat, o = (k : Int) := ⟨o.toNat, by simp only at h4; omega⟩
    have hp' : ((packU ⟨s, u, k⟩).toNat : Int) = (n : Int) + (k : Int) * 4294967296 + (bitOf u : Int) := by rw [hp, hn]; simp [packN]
    simp only at h1 h2 h3 h5
    rw [← hn] at HM HK h1 h2 h3 ⊢
    have h5' : k ≤ 8 := by omega
    have HP := Lib.hid hp'
    clear hp hp' h6 h4 h5 hn
    cases u with
    | true =>
      have e1 : IntKind.u64.wrap (k : Int) = (k : Int) := IntWalk.u64_in _ (by omega)
      have e2 : IntKind.u64.wrap ((k : Int) * 4294967296) = (k : Int) * 4294967296 := IntWalk.u64_in _ (by omega)
      have e3 : bits .or .u64 (n : Int) ((k : Int) * 4294967296) = (n : Int) + (k : Int) * 4294967296 := by
        have := u64_or_nat n (k * 4294967296) (by omega) (by omega)
        rw [or_high n k (by omega)] at this
        simpa using this
      have e4 : bits .or .u64 ((n : Int) + (k : Int) * 4294967296) 1 = (n : Int) + (k : Int) * 4294967296 + 1 := by
        have := u64_or_nat (n + k * 4294967296) 1 (by omega) (by omega)
        rw [or_one _ (by omega)] at this
        simpa using this
      clear h1 h2
      go_enter Tryz.func138, Tryz.ntmps138
      go_wp2_with fail
      refine (HM.out _).mono ?_
      rintro e w' ⟨rfl, rfl⟩
      rw [HMM.out]
      go_wp2_with fail
      go_ret
      exact ⟨by rw [HP.out]; rfl, HK.out⟩
    | false =>
      have e1 : IntKind.u64.wrap (k : Int) = (k : Int) := IntWalk.u64_in _ (by omega)
      have e2 : IntKind.u64.wrap ((k : Int) * 4294967296) = (k : Int) * 4294967296 := IntWalk.u64_in _ (by omega)
      have e3 : bits .or .u64 (n : Int) ((k : Int) * 4294967296) = (n : Int) + (k : Int) * 4294967296 := by
        have := u64_or_nat n (k * 4294967296) (by omega) (by omega)
        rw [or_high n k (by omega)] at this
        simpa using this
      have e4 : bits .or .u64 ((n : Int) + (k : Int) * 4294967296) 1 = (n : Int) + (k : Int) * 4294967296 + 1 := by
        have := u64_or_nat (n + k * 4294967296) 1 (by omega) (by omega)
        rw [or_one _ (by omega)] at this
        simpa using this
      clear h1 h2
      go_enter Tryz.func138, Tryz.ntmps138
      go_wp2_with fail
      refine (HM.out _).mono ?_
      rintro e w' ⟨rfl, rfl⟩
      rw [HMM.out]
      go_wp2_with fail
      go_ret
      exact ⟨by rw [HP.out]; simp [bitOf], HK.out⟩
set_option maxHeartbeats 1000000 in
theorem rPack_any (w : World) (g : TagV) : Calls Tryz.prog 167 #[.agg g.cells] w fun e w' => e = .returned (.int .u64 ((packU g).toNat : Int)) ∧ Keeps Nil w w' := by
  have HM := Lib.hid (fun w => rMay5_any w g)
  have hk : Keeps Nil w ((w.alloc (.cells g.cells 61)).alloc (.cells g.cells 61)) := ((Keeps.refl Nil w).alloc _).alloc _
  have HK := Lib.hid hk
  clear hk
  cases hm : mayT g with
  | false =>
    rw [pack_no hm]
    have HMM := Lib.hid hm
    clear hm
    obtain ⟨s, u, o⟩ := g
    rw [TagV.cells_def] at HM HK ⊢
    go_enter Tryz.func167, Tryz.ntmps167
    go_wp2_with fail
    refine (HM.out _).mono ?_
    rintro e w' ⟨rfl, rfl⟩
    rw [HMM.out]
    go_wp2_with fail
    go_ret
    exact ⟨rfl, HK.out⟩
  | true =>
    have hp := pack_toNat hm
    obtain ⟨h1, h2, h3, h4, h5, h6⟩ := may_spec hm
    have HMM := Lib.hid hm
    clear hm
    obtain ⟨s, u, o⟩ := g
    rw [TagV.cells_def] at HM HK ⊢
    obtain ⟨n, hn⟩ : ∃ n, n = s.toNat := ⟨_, rfl⟩
    obtain ⟨k, rfl⟩ : ∃ k : Nat, o = (k : Int) := ⟨o.toNat, by simp only at h4; omega⟩
    have hp' : ((packU ⟨s, u, k⟩).toNat : Int) = (n : Int) + (k : Int) * 4294967296 + (bitOf u : Int) := by rw [hp, hn]; simp [packN]
    simp only at h1 h2 h3 h5
    rw [← hn] at HM HK h1 h2 h3 ⊢
    have h5' : k ≤ 8 := by omega
    have HP := Lib.hid hp'
    clear hp hp' h6 h4 h5 hn
    cases u with
    | true =>
      have e1 : IntKind.u64.wrap (k : Int) = (k : Int) := IntWalk.u64_in _ (by omega)
      have e2 : IntKind.u64.wrap ((k : Int) * 4294967296) = (k : Int) * 4294967296 := IntWalk.u64_in _ (by omega)
      have e3 : IntKind.u64.wrap ((n : Int) + (k : Int) * 4294967296) = (n : Int) + (k : Int) * 4294967296 := IntWalk.u64_in _ (by omega)
      have e4 : IntKind.u64.wrap ((n : Int) + (k : Int) * 4294967296 + 1) = (n : Int) + (k : Int) * 4294967296 + 1 := IntWalk.u64_in _ (by omega)
      clear h1 h2
      go_enter Tryz.func167, Tryz.ntmps167
      go_wp2_with fail
      refine (HM.out _).mono ?_
      rintro e w' ⟨rfl, rfl⟩
      rw [HMM.out]
      go_wp2_with fail
      go_ret
      exact ⟨by rw [HP.out]; rfl, HK.out⟩
    | false =>
      have e1 : IntKind.u64.wrap (k : Int) = (k : Int) := IntWalk.u64_in _ (by omega)
      have e2 : IntKind.u64.wrap ((k : Int) * 4294967296) = (k : Int) * 4294967296 := IntWalk.u64_in _ (by omega)
      have e3 : IntKind.u64.wrap ((n : Int) + (k : Int) * 4294967296) = (n : Int) + (k : Int) * 4294967296 := IntWalk.u64_in _ (by omega)
      have e4 : IntKind.u64.wrap ((n : Int) + (k : Int) * 4294967296 + 1) = (n : Int) + (k : Int) * 4294967296 + 1 := IntWalk.u64_in _ (by omega)
      clear h1 h2
      go_enter Tryz.func167, Tryz.ntmps167
      go_wp2_with fail
      refine (HM.out _).mono ?_
      rintro e w' ⟨rfl, rfl⟩
      rw [HMM.out]
      go_wp2_with fail
      go_ret
      exact ⟨by rw [HP.out]; simp [bitOf], HK.out⟩
end Go.Proofs.YtefpbljekfkefaaGreat

/- tag.Unpack, and the document's. -/
namespace Go.Proofs.YtefpbljekfkefaaGreat
open Go.RowKit

theorem and_even64 (x : Nat) (hx : x < 18446744073709551616) : x &&& 18446744073709551614 = x - x % 2 := by
  apply Nat.eq_of_testBit_eq
  intro i
  rw [Nat.testBit_and]
  cases i with
  | zero =>
    have h : (x - x % 2) % 2 = 0 := by omega
    simp [Nat.testBit_zero, h]
  | succ i =>
    rw [Nat.testBit_succ, Nat.testBit_succ, Nat.testBit_succ, show 18446744073709551614 / 2 = 2 ^ 63 - 1 by decide, show (x - x % 2) / 2 = x / 2 by omega, Nat.testBit_two_pow_sub_one]
    by_cases h : i < 63
    · simp [h]
    · have h1 : x / 2 < 2 ^ 63 := by omega
      have h2 : (x / 2).testBit i = false := Nat.testBit_lt_two_pow (Nat.lt_of_lt_of_le h1 (Nat.pow_le_pow_right (by decide) (by omega)))
      simp [h2]
theorem u64_andNot1 (x : Nat) (hx : x < 18446744073709551616) : bits .andNot .u64 (x : Int) 1 = ((x - x % 2 : Nat) : Int) := by
  have := u64_andNot_nat x 1 hx (by decide)
  rw [show 18446744073709551615 - 1 = 18446744073709551614 by decide, and_even64 x hx] at this
  exact this
theorem u64_and1 (x : Nat) (hx : x < 18446744073709551616) : bits .and .u64 (x : Int) 1 = ((x % 2 : Nat) : Int) := by
  have := u64_and_nat x 1 hx (by decide)
  rw [Nat.and_one_is_mod] at this
  exact this

theorem cand_parts (x : UInt64) : ∃ s u, ∃ D : Nat, candT x = ⟨s, u, (D : Int)⟩ ∧ s.toNat = x.toNat % 4294967296 - x.toNat % 2 ∧ u = decide (x.toNat % 2 = 1) ∧ D = x.toNat / 4294967296 :=
  ⟨_, _, _, rfl, cand_size x, rfl, rfl⟩
theorem candR_parts (x : UInt64) : ∃ s u, ∃ D : Nat, candR x = ⟨s, u, (D : Int)⟩ ∧ s.toNat = x.toNat % 4294967296 - x.toNat % 2 ∧ u = decide (x.toNat % 2 = 1) ∧ D = x.toNat / 4294967296 % 16 :=
  ⟨_, _, _, rfl, cand_size x, rfl, rfl⟩
theorem may_zero : mayT TagV.zero = false := by decide
theorem tag_same {s : UInt64} {u : Bool} {o : Int} : ((s.toNat : Int) == 0 && (u == false && o == 0)) = decide ((⟨s, u, o⟩ : TagV) = TagV.zero) := by
  rw [Bool.eq_iff_iff]
  simp only [Bool.and_eq_true, beq_iff_eq, decide_eq_true_eq, TagV.zero, TagV.mk.injEq]
  constructor
  · rintro ⟨a, b, c⟩
    exact ⟨UInt64.toNat_inj.1 (by simp; omega), b, c⟩
  · rintro ⟨rfl, rfl, rfl⟩
    simp

set_option maxRecDepth 100000 in
set_option maxHeartbeats 1000000 in
theorem Unpack_any (w : World) (x : UInt64) : Calls Tryz.prog 121 #[.int .u64 (x.toNat : Int)] w fun e w' => e = .returned (.tuple #[.agg (unpackT x).cells, .bool (isTag x)]) ∧ Keeps Nil w w' := by
  obtain ⟨s, u, D, hc, hs, hu, hD⟩ := cand_parts x
  obtain ⟨n, hn⟩ : ∃ n, n = x.toNat := ⟨_, rfl⟩
  have hlt : n < 18446744073709551616 := by rw [hn]; exact x.toNat_lt
  rw [← hn] at hs hu hD ⊢
  obtain ⟨L, hL⟩ : ∃ L, L = n % 4294967296 := ⟨_, rfl⟩
  obtain ⟨B, hB⟩ : ∃ B, B = L % 2 := ⟨_, rfl⟩
  have hL4 : L < 4294967296 := by omega
  have hD4 : D < 4294967296 := by omega
  have e1 : (n : Int) % 4294967296 = (L : Int) := by omega
  have e2 : IntKind.u64.wrap (L : Int) = (L : Int) := IntWalk.u64_in _ (by omega)
  have e3 : bits .andNot .u64 (L : Int) 1 = (s.toNat : Int) := by rw [u64_andNot1 L (by omega)]; omega
  have e4 : bits .and .u64 (L : Int) 1 = (B : Int) := by rw [u64_and1 L (by omega)]; omega
  have e5 : ((B : Int) != 0) = u := by
    rw [hu, Bool.eq_iff_iff]; simp; omega
  have e6 : (n : Int) / 4294967296 = (D : Int) := by omega
  have e7 : IntKind.i64.wrap (D : Int) = (D : Int) := IntWalk.i64_in _ (by omega)
  have hq := tag_eql (s.toNat : Int) 0 u false (D : Int) 0
  rw [tag_same] at hq
  have hgd := tag_gd
  by_cases hz : (⟨s, u, (D : Int)⟩ : TagV) = TagV.zero
  · rw [decide_eq_true hz] at hq
    have hi : isTag x = false := by unfold isTag; rw [hc, hz, may_zero]; rfl
    rw [hi, unpack_no hi]
    clear hs hu hD hL hB hn hi hc hz
    go_enter Tryz.func121, Tryz.ntmps121
    go_wp2_with fail
    refine bodyPost_ret (results_row_tmp rfl rfl (heap_old _ _ (heap_new w _)) Tryz.underlying35 rfl (by kernel_rfl)) rfl ?_
    exact ⟨rfl, ((Keeps.refl Nil w).alloc _).alloc _⟩
  · rw [decide_eq_false hz] at hq
    by_cases hp : packU ⟨s, u, (D : Int)⟩ = x
    · have hm : mayT ⟨s, u, (D : Int)⟩ = true := by
        cases hm : mayT ⟨s, u, (D : Int)⟩ with
        | true => rfl
        | false =>
          exfalso
          rw [pack_no hm] at hp
          apply hz
          have : n = 0 := by rw [hn, ← hp]; rfl
          subst this
          have h1 : s.toNat = 0 := by omega
          have h2 : s = 0 := UInt64.toNat_inj.1 (by simpa using h1)
          rw [h2, hu, hD]; rfl
      have hi : isTag x = true := by unfold isTag; rw [hc, hm, hp]; simp
      have ht : unpackT x = ⟨s, u, (D : Int)⟩ := by unfold unpackT; rw [if_pos hi]; exact hc
      have tst : ((((packU ⟨s, u, (D : Int)⟩).toNat : Nat) : Int) != (n : Int)) = false := by rw [hp, hn]; simp
      rw [hi, ht, TagV.cells_def]
      have HPK := Lib.hid (Pack_any ((w.alloc (.cells #[.int .u64 0, .bool false, .int .i64 0] 35)).alloc (.cells #[.int .u64 (s.toNat : Int), .bool u, .int .i64 (D : Int)] 35)) ⟨s, u, (D : Int)⟩)
      obtain ⟨p, hpp⟩ : ∃ p, p = packU ⟨s, u, (D : Int)⟩ := ⟨_, rfl⟩
      rw [← hpp] at tst HPK
      obtain ⟨w1, hw1⟩ : ∃ w1, w1 = (w.alloc (.cells #[.int .u64 0, .bool false, .int .i64 0] 35)).alloc (.cells #[.int .u64 (s.toNat : Int), .bool u, .int .i64 (D : Int)] 35) := ⟨_, rfl⟩
      have k1 : Keeps Nil w w1 := by rw [hw1]; exact ((Keeps.refl Nil w).alloc _).alloc _
      have b1 : w1.heap[w.heap.size]? = some (.cells #[.int .u64 0, .bool false, .int .i64 0] 35 (0, 0)) := by rw [hw1]; exact heap_old _ _ (heap_new w _)
      have b2 : w1.heap[w.heap.size + 1]? = some (.cells #[.int .u64 (s.toNat : Int), .bool u, .int .i64 (D : Int)] 35 (0, 0)) := by
        rw [hw1]
        have := heap_new (w.alloc (.cells #[.int .u64 0, .bool false, .int .i64 0] 35)) (.cells #[.int .u64 (s.toNat : Int), .bool u, .int .i64 (D : Int)] 35)
        simpa using this
      rw [← hw1] at HPK
      have HW := Lib.hid hw1
      have K1 := Lib.hid (And.intro k1 (And.intro b1 b2))
      clear hs hu hD hL hB hn hi hc hz hp hm ht hpp hw1 k1 b1 b2
      go_enter Tryz.func121, Tryz.ntmps121
      go_wp2_with fail
      rw [← HW.out]
      refine HPK.out.mono ?_
      rintro e w2 ⟨rfl, k2⟩
      have b1 := k2.at K1.out.2.1 (fun e => e)
      have b2 := k2.at K1.out.2.2 (fun e => e)
      obtain ⟨c0, c1, c2⟩ := row3 b1
      have f0 := frz b1 0
      have f1 := frz b1 1
      have f2 := frz b1 2
      obtain ⟨d0, d1, d2⟩ := row3 b2
      have K2 := Lib.hid (And.intro (K1.out.1.trans' k2) b1)
      clear k2 b1 b2
      go_wp2_with fail
      refine bodyPost_ret (results_row_tmp rfl rfl (setRow3 K2.out.2) Tryz.underlying35 rfl (by kernel_rfl)) rfl ?_
      exact ⟨rfl, keepsRow3 K2.out.1 (Nat.le_refl _) _ _ _⟩
    · have hi : isTag x = false := by
        unfold isTag; rw [hc]
        simp [hp]
      rw [hi, unpack_no hi]
      have tst : ((((packU ⟨s, u, (D : Int)⟩).toNat : Nat) : Int) != (n : Int)) = true := by rw [hn]; exact (unlike_u64 hp).1
      have HPK := Lib.hid (Pack_any ((w.alloc (.cells #[.int .u64 0, .bool false, .int .i64 0] 35)).alloc (.cells #[.int .u64 (s.toNat : Int), .bool u, .int .i64 (D : Int)] 35)) ⟨s, u, (D : Int)⟩)
      obtain ⟨p, hpp⟩ : ∃ p, p = packU ⟨s, u, (D : Int)⟩ := ⟨_, rfl⟩
      rw [← hpp] at tst HPK
      obtain ⟨w1, hw1⟩ : ∃ w1, w1 = (w.alloc (.cells #[.int .u64 0, .bool false, .int .i64 0] 35)).alloc (.cells #[.int .u64 (s.toNat : Int), .bool u, .int .i64 (D : Int)] 35) := ⟨_, rfl⟩
      have k1 : Keeps Nil w w1 := by rw [hw1]; exact ((Keeps.refl Nil w).alloc _).alloc _
      have b1 : w1.heap[w.heap.size]? = some (.cells #[.int .u64 0, .bool false, .int .i64 0] 35 (0, 0)) := by rw [hw1]; exact heap_old _ _ (heap_new w _)
      rw [← hw1] at HPK
      have HW := Lib.hid hw1
      have K1 := Lib.hid (And.intro k1 b1)
      clear hs hu hD hL hB hn hi hc hz hp hpp hw1 k1 b1
      go_enter Tryz.func121, Tryz.ntmps121
      go_wp2_with fail
      rw [← HW.out]
      refine HPK.out.mono ?_
      rintro e w2 ⟨rfl, k2⟩
      have b1 := k2.at K1.out.2 (fun e => e)
      obtain ⟨c0, c1, c2⟩ := row3 b1
      have f0 := frz b1 0
      have f1 := frz b1 1
      have f2 := frz b1 2
      have K2 := Lib.hid (And.intro (K1.out.1.trans' k2) b1)
      clear k2 b1
      go_wp2_with fail
      refine bodyPost_ret (results_row_tmp rfl rfl (setRow3 K2.out.2) Tryz.underlying35 rfl (by kernel_rfl)) rfl ?_
      exact ⟨rfl, keepsRow3 K2.out.1 (Nat.le_refl _) _ _ _⟩
end Go.Proofs.YtefpbljekfkefaaGreat
