/- UpW, GapP: written short. -/
import Derived.Test.YtefpbljekfkefaaGreatS17
import Derived.Test.YtefpbljekfkefaaGreatS01
import Derived.Test.YtefpbljekfkefaaGreatS10
import Derived.Test.YtefpbljekfkefaaGreatS16
set_option maxRecDepth 100000
set_option maxHeartbeats 8000000
namespace Go.Proofs.YtefpbljekfkefaaGreat
section
open Go.RowKit OnesP
def powB (a : UInt64) : Bool := powN 64 a.toNat
theorem powB_ones (a : UInt64) : ((ones a.toNat : Int) != 1) = !powB a := by
 obtain ⟨h1, _⟩ := ones_pc (x := a.toNat) (by have := a.toNat_lt; omega)
 have h2 := pc_one (k := 64) (x := a.toNat) a.toNat_lt
 unfold powB
 rw [h1]
 cases hp : powN 64 a.toNat with
 | true =>
   rw [h2.2 hp]; rfl
 | false =>
   have : pc 64 a.toNat ≠ 1 := fun e => by rw [h2.1 e] at hp; cases hp
   simp; omega
theorem powB_two {a : UInt64} (h : powB a = true) : ∃ j, j < 64 ∧ a.toNat = 2 ^ j := by
 unfold powB at h
 obtain ⟨j, h1, h2⟩ := powN_two 64 a.toNat h
 have := a.toNat_lt
 rw [h2] at this
 exact ⟨j, (Nat.pow_lt_pow_iff_right (by decide)).1 (show 2 ^ j < 2 ^ 64 from this), h2⟩
theorem powB_pos {a : UInt64} (h : powB a = true) : 0 < a.toNat := by
 obtain ⟨j, _, h2⟩ := powB_two h
 rw [h2]; exact Nat.pow_pos (by decide)
theorem power_any (w : World) (a : UInt64) : Calls Tryz.prog 145 #[.int .u64 (a.toNat : Int)] w fun e w' => e = .returned (.bool (powB a)) ∧ w = w' := by
  obtain ⟨B, hB⟩ : ∃ B, B = powB a := ⟨_, rfl⟩
  have HB := qH (show powN 64 a.toNat = B from hB.symm)
  have HA := qH (show a.toNat < 18446744073709551616 from a.toNat_lt)
  rw [← hB]
  clear hB
  go_enter Tryz.func145, Tryz.ntmps145
  go_wp2_with fail
  go_loop [0] (fun v => ∃ k x : Nat, v = .int .u64 (x : Int) ∧ k ≤ 64 ∧ x < 2 ^ k ∧ powN k x = B) (fun v => (intOf v).toNat)
  case atStart => exact ⟨64, a.toNat, rfl, Nat.le_refl _, HA.out, HB.out⟩
  case round =>
    obtain ⟨k, x, rfl, hk64, hx, hk⟩ := hrel
    by_cases h1 : 1 < x
    · have t1 : decide ((1 : Int) < (x : Int)) = true := decide_eq_true (by omega)
      have hx64 : x < 18446744073709551616 := Nat.lt_of_lt_of_le hx (by rw [show 18446744073709551616 = 2 ^ 64 by decide]; exact Nat.pow_le_pow_right (by decide) hk64)
      have e3 : IntKind.u64.wrap ((x : Int) / 2) = ((x / 2 : Nat) : Int) := by rw [IntWalk.u64_in _ (by omega)]; omega
      clear hx64
      cases k with
      | zero => rw [Nat.pow_zero] at hx; omega
      | succ k =>
        by_cases h2 : x % 2 = 0
        · have t2 : ((x : Int) % 2 == 0) = true := by rw [beq_iff_eq]; omega
          rw [powN, if_pos ⟨h1, h2⟩] at hk
          rw [Nat.pow_succ] at hx
          have HX := qH (And.intro hx (And.intro h1 (And.intro h2 (And.intro hk hk64))))
          clear hx h1 h2 hk hk64
          go_wp2_with fail
          go_round
          case rel => exact ⟨k, x / 2, congrArg (Value.int .u64) (by omega), by have := HX.out.2.2.2.2; omega, by have := HX.out.1; omega, HX.out.2.2.2.1⟩
          case measure => have := HX.out.2.1; simp only [intOf]; omega
        · have t2 : ((x : Int) % 2 == 0) = false := by rw [beq_eq_false_iff_ne]; omega
          have t3 : ((x : Int) == 1) = B := by
            rw [powN, if_neg (fun h => h2 h.2)] at hk
            rw [← hk]
            rw [show decide (x = 1) = false from decide_eq_false (by omega), beq_eq_false_iff_ne]; omega
          clear hx h1 h2 hk hk64 e3
          go_wp2_with fail
          go_ret
          exact ⟨rfl, rfl⟩
    · have t1 : decide ((1 : Int) < (x : Int)) = false := decide_eq_false (by omega)
      have t3 : ((x : Int) == 1) = B := by
        have h9 : powN k x = decide (x = 1) := by
          cases k with
          | zero => rfl
          | succ k => rw [powN, if_neg (fun h => h1 h.1)]
        rw [← hk, h9]
        by_cases h3 : x = 1
        · subst h3; rfl
        · rw [show decide (x = 1) = false from decide_eq_false h3, beq_eq_false_iff_ne]; omega
      clear hx h1 hk hk64
      go_wp2_with fail
      go_ret
      exact ⟨rfl, rfl⟩
theorem and_zero_u64 (y : Int) (hy : 0 ≤ y) (h : y < 18446744073709551616) : bits .and .u64 0 y = 0 := by
 have := u64_and_nat 0 y.toNat (by decide) (by omega)
 rw [Nat.zero_and] at this
 rw [show ((y.toNat : Nat) : Int) = y by omega] at this
 exact this
theorem wUp0_any (w : World) (a : UInt64) : Calls Tryz.prog 93 #[.int .u64 0, .int .u64 (a.toNat : Int)] w fun e w' => e = .returned (.tuple #[.int .u64 0, .bool (powB a)]) ∧ w = w' := by
 have ht := powB_ones a
 have HO := qH (Ones_any w a)
 cases hp : powB a with
 | false =>
   rw [hp] at ht
   obtain ⟨o, ho⟩ : ∃ o : Int, o = (ones a.toNat : Int) := ⟨_, rfl⟩
   rw [← ho] at ht HO
   have t1 : (o != 1) = true := ht
   clear ht ho hp
   go_enter Tryz.func93, Tryz.ntmps93
   go_wp2_with fail
   refine HO.out.mono ?_; rintro e w' ⟨rfl, rfl⟩
   go_wp2_with fail
   go_ret2
   exact ⟨rfl, rfl⟩
 | true =>
   rw [hp] at ht
   have hpos := powB_pos hp
   have hlt := a.toNat_lt
   have e1 : IntKind.u64.wrap ((a.toNat : Int) - 1) = (a.toNat : Int) - 1 := IntWalk.u64_in _ (by omega)
   have e2 := and_zero_u64 ((a.toNat : Int) - 1) (by omega) (by omega)
   obtain ⟨o, ho⟩ : ∃ o : Int, o = (ones a.toNat : Int) := ⟨_, rfl⟩
   rw [← ho] at ht HO
   have t1 : (o != 1) = false := ht
   clear ht ho hp hpos hlt
   go_enter Tryz.func93, Tryz.ntmps93
   go_wp2_with fail
   refine HO.out.mono ?_; rintro e w' ⟨rfl, rfl⟩
   go_wp2_with fail
   go_ret2
   exact ⟨rfl, rfl⟩
def upA (n a : UInt64) : UInt64 := if n.toNat % a.toNat = 0 then n else n - UInt64.ofNat (n.toNat % a.toNat) + a
theorem wUpA_any (w : World) (n a : UInt64) (x : Int) (hx : x = (n.toNat : Int)) (hp : powB a = true) (hn : n.toNat + a.toNat < 18446744073709551616) :
  Calls Tryz.prog 93 #[.int .u64 x, .int .u64 (a.toNat : Int)] w fun e w' => e = .returned (.tuple #[.int .u64 ((upA n a).toNat : Int), .bool true]) ∧ w = w' := by
 subst hx
 have ht := powB_ones a
 rw [hp] at ht
 have HO := qH (Ones_any w a)
 obtain ⟨o, ho⟩ : ∃ o : Int, o = (ones a.toNat : Int) := ⟨_, rfl⟩
 rw [← ho] at ht HO
 have t1 : (o != 1) = false := ht
 clear ht ho
 obtain ⟨k, hk, ha⟩ := powB_two hp
 have hpos := powB_pos hp
 have hlt := a.toNat_lt
 have hnl := n.toNat_lt
 have e0 : IntKind.u64.wrap ((a.toNat : Int) - 1) = ((a.toNat - 1 : Nat) : Int) := by rw [IntWalk.u64_in _ (by omega)]; omega
 have e1 : bits .and .u64 (n.toNat : Int) ((a.toNat - 1 : Nat) : Int) = ((n.toNat % a.toNat : Nat) : Int) := by
  have := u64_and_nat n.toNat (a.toNat - 1) n.toNat_lt (by omega)
  rw [ha, and_low n.toNat k, ← ha] at this
  exact this
 have e2 : bits .andNot .u64 (n.toNat : Int) ((a.toNat - 1 : Nat) : Int) = ((n.toNat - n.toNat % a.toNat : Nat) : Int) := by
  have := u64_andNot_nat n.toNat (a.toNat - 1) n.toNat_lt (by omega)
  rw [show 18446744073709551615 - (a.toNat - 1) = 2 ^ 64 - 2 ^ k by rw [← ha]; omega, and_high n.toNat k n.toNat_lt (by omega), ← ha] at this
  exact this
 obtain ⟨r, hr⟩ : ∃ r, r = n.toNat % a.toNat := ⟨_, rfl⟩
 obtain ⟨d, hd⟩ : ∃ d, d = n - UInt64.ofNat (n.toNat % a.toNat) := ⟨_, rfl⟩
 have hrl : r < a.toNat := by rw [hr]; exact Nat.mod_lt _ hpos
 have hrn : r ≤ n.toNat := by rw [hr]; exact Nat.mod_le _ _
 have hdn : d.toNat = n.toNat - r := by
  rw [hd, ← hr, UInt64.toNat_sub_of_le _ _ (by rw [UInt64.le_iff_toNat_le, UInt64.toNat_ofNat']; omega), UInt64.toNat_ofNat']
  omega
 have hU : upA n a = if r = 0 then n else d + a := by unfold upA; rw [hd, hr]
 rw [hU]
 rw [← hr] at e1 e2
 have e3 : ((n.toNat - r : Nat) : Int) = (d.toNat : Int) := by rw [hdn]
 rw [e3] at e2
 clear e3 hU
 obtain ⟨m, hm⟩ : ∃ m : Int, m = ((a.toNat - 1 : Nat) : Int) := ⟨_, rfl⟩
 rw [← hm] at e0 e1 e2
 by_cases h0 : r = 0
 ·have t2 : ((r : Int) == 0) = true := by simp [h0]
  rw [if_pos h0]
  clear h0 hr hd hdn hlt hrl hrn hnl hpos hk ha hp hn hm
  go_enter Tryz.func93, Tryz.ntmps93
  go_wp2_with fail
  refine HO.out.mono ?_; rintro e w' ⟨rfl, rfl⟩
  go_wp2_with fail
  go_ret2
  exact ⟨rfl, rfl⟩
 ·have t2 : ((r : Int) == 0) = false := by rw [beq_eq_false_iff_ne]; omega
  rw [if_neg h0]
  have hb : addB d a = true := decide_eq_true (by omega)
  have HA := qH (wAdd_any w d a _ _ rfl rfl)
  rw [(addU_yes hb).1, hb] at HA
  obtain ⟨q, hq⟩ : ∃ q, q = (d + a).toNat := ⟨_, rfl⟩
  rw [← hq] at HA ⊢
  clear h0 hr hd hdn hlt hrl hrn hnl hpos hk ha hp hn hm hb hq
  go_enter Tryz.func93, Tryz.ntmps93
  go_wp2_with fail
  refine HO.out.mono ?_; rintro e w' ⟨rfl, rfl⟩
  go_wp2_with fail
  refine HA.out.mono ?_
  rintro e w' ⟨rfl, rfl⟩
  go_wp2_with fail
  go_ret2
  exact ⟨rfl, rfl⟩
theorem rUpS_any (w : World) (a : UInt64) : Calls Tryz.prog 92 #[.int .u64 (a.toNat : Int), .int .u64 (a.toNat : Int)] w fun e w' => e = .returned (.tuple #[.int .u64 ((if powB a then a else 0).toNat : Int), .bool (powB a)]) ∧ w = w' := by
 have HO := qH (power_any w a)
 cases hp : powB a with
 | false =>
   rw [hp] at HO
   rw [if_neg (by decide)]
   clear hp
   go_enter Tryz.func92, Tryz.ntmps92
   go_wp2_with fail
   refine HO.out.mono ?_; rintro e w' ⟨rfl, rfl⟩
   go_wp2_with fail
   go_ret2
   exact ⟨rfl, rfl⟩
 | true =>
   rw [hp] at HO
   rw [if_pos rfl]
   have hpos := powB_pos hp
   have t0 : ¬ (a.toNat : Int) = 0 := by omega
   have t1 : ((a.toNat : Int) == 0) = false := by rw [beq_eq_false_iff_ne]; omega
   have e1 : (a.toNat : Int) % (a.toNat : Int) = 0 := Int.emod_self
   have e2 : IntKind.u64.wrap ((a.toNat : Int).tmod (a.toNat : Int)) = 0 := by rw [Int.tmod_self]; rfl
   clear hp hpos
   go_enter Tryz.func92, Tryz.ntmps92
   go_wp2_with fail
   refine HO.out.mono ?_; rintro e w' ⟨rfl, rfl⟩
   go_wp2_with fail
   go_ret2
   exact ⟨rfl, rfl⟩
end
section
open Go.RowKit PT
def BlockV.z (b : BlockV) : Nat := b.off.toNat + b.tag.size.toNat
def BOK (b : BlockV) : Prop := mayT b.tag = true ∧ if b.tag.used then needB b.len = true ∧ (needU b.len).toNat ≤ b.tag.size.toNat else b.len = 0
theorem BOK.sz {b : BlockV} (h : BOK b) : 48 ≤ b.tag.size.toNat ∧ b.tag.size.toNat % 16 = 0 ∧ b.tag.size.toNat ≤ 1048576 := by
  obtain ⟨h1, h2, h3, _⟩ := may_spec h.1; exact ⟨h2, h1, h3⟩
def Tile : Nat → List BlockV → Nat → Prop
 | o, [], e => o = e
 | o, b :: L, e => b.off.toNat = o ∧ BOK b ∧ Tile b.z L e
theorem Tile.append : ∀ {A B : List BlockV} {o e : Nat}, Tile o (A ++ B) e ↔ ∃ m, Tile o A m ∧ Tile m B e
 | [], B, o, e => by simp [Tile]
 | b :: A, B, o, e => by
   simp only [List.cons_append, Tile, Tile.append (A := A) (B := B)]
   constructor
   · rintro ⟨h1, h2, m, h3, h4⟩; exact ⟨m, ⟨h1, h2, h3⟩, h4⟩
   · rintro ⟨m, ⟨h1, h2, h3⟩, h4⟩; exact ⟨h1, h2, m, h3, h4⟩
theorem Tile.ok : ∀ {L : List BlockV} {o e : Nat}, Tile o L e → o % 16 = 0 → o ≤ e ∧ e % 16 = 0 ∧ ∀ b ∈ L, BOK b ∧ b.off.toNat % 16 = 0 ∧ o ≤ b.off.toNat ∧ b.z ≤ e
  | [], o, e, h, hm => by
    have h : o = e := h
    subst h
    exact ⟨Nat.le_refl _, hm, by simp⟩
  | x :: L, o, e, h, hm => by
    obtain ⟨h1, h2, h3⟩ := h
    obtain ⟨s1, s2, _⟩ := h2.sz
    have hz : x.z = x.off.toNat + x.tag.size.toNat := rfl
    obtain ⟨i1, i2, i3⟩ := h3.ok (by omega)
    refine ⟨by omega, i2, fun b hb => ?_⟩
    rcases List.mem_cons.1 hb with rfl | hb
    · exact ⟨h2, by omega, by omega, i1⟩
    · obtain ⟨j1, j2, j3, j4⟩ := i3 b hb
      exact ⟨j1, j2, by omega, j4⟩
theorem Tile.apart : ∀ {L : List BlockV} {o e : Nat}, Tile o L e → o % 16 = 0 → L.Pairwise (fun x y => x.z ≤ y.off.toNat)
 | [], _, _, _, _ => List.Pairwise.nil
 | x :: L, o, e, h, hm => by
   obtain ⟨h1, h2, h3⟩ := h
   obtain ⟨s1, s2, _⟩ := h2.sz
   have hz : x.z = x.off.toNat + x.tag.size.toNat := rfl
   have hm' : x.z % 16 = 0 := by omega
   exact List.pairwise_cons.2 ⟨fun y hy => ((h3.ok hm').2.2 y hy).2.2.1, h3.apart hm'⟩
structure Lay (e : Nat) (H : List BlockV) : Prop where
 ok : ∀ b ∈ H, BOK b ∧ b.off.toNat % 16 = 0 ∧ 3776 ≤ b.off.toNat ∧ b.z ≤ e
 ap : H.Pairwise (fun x y => x.z ≤ y.off.toNat)
 top : e ≤ 4800
theorem pair_two {H : List BlockV} (h : H.Pairwise (fun x y => x.z ≤ y.off.toNat)) {x y : BlockV} (hx : x ∈ H) (hy : y ∈ H) : x = y ∨ x.z ≤ y.off.toNat ∨ y.z ≤ x.off.toNat := by
 induction H with
 | nil => simp at hx
 | cons a H ih =>
   obtain ⟨h1, h2⟩ := List.pairwise_cons.1 h
   rcases List.mem_cons.1 hx with ex | hx <;> rcases List.mem_cons.1 hy with ey | hy
   · exact .inl (ex.trans ey.symm)
   · exact .inr (.inl (by rw [ex]; exact h1 y hy))
   · exact .inr (.inr (by rw [ey]; exact h1 x hx))
   · exact ih h2 hx hy
structure Gap (e : Nat) (A : List BlockV) (h1 h2 : Nat) (C : List BlockV) : Prop where
 left : Tile 3776 A h1
 le : h1 ≤ h2
 right : Tile h2 C e
 top : e ≤ 4800
 mod : h2 % 16 = 0
section
variable {e h1 h2 : Nat} {A C : List BlockV}
theorem Gap.m1 (h : Gap e A h1 h2 C) : h1 % 16 = 0 ∧ 3776 ≤ h1 ∧ h2 ≤ e ∧ e % 16 = 0 := by
 obtain ⟨a1, a2, _⟩ := h.left.ok (by decide)
 obtain ⟨b1, b2, _⟩ := h.right.ok h.mod
 exact ⟨a2, a1, b1, b2⟩
theorem Gap.outA (h : Gap e A h1 h2 C) {b : BlockV} (hb : b ∈ A) : b.z ≤ h1 := ((h.left.ok (by decide)).2.2 b hb).2.2.2
theorem Gap.outC (h : Gap e A h1 h2 C) {b : BlockV} (hb : b ∈ C) : h2 ≤ b.off.toNat := ((h.right.ok h.mod).2.2 b hb).2.2.1
theorem Gap.out (h : Gap e A h1 h2 C) {b : BlockV} (hb : b ∈ A ++ C) : b.z ≤ h1 ∨ h2 ≤ b.off.toNat := by
 rcases List.mem_append.1 hb with hb | hb
 · exact .inl (h.outA hb)
 · exact .inr (h.outC hb)
theorem Gap.lay (h : Gap e A h1 h2 C) : Lay e (A ++ C) := by
 obtain ⟨m1, m2, m3, m4⟩ := h.m1
 have hle := h.le
 refine ⟨fun b hb => ?_, List.pairwise_append.2 ⟨h.left.apart (by decide), h.right.apart h.mod, fun x hx y hy => ?_⟩, h.top⟩
 ·rcases List.mem_append.1 hb with hb | hb
  ·obtain ⟨j1, j2, j3, j4⟩ := (h.left.ok (by decide)).2.2 b hb
   exact ⟨j1, j2, j3, by omega⟩
  ·obtain ⟨j1, j2, j3, j4⟩ := (h.right.ok h.mod).2.2 b hb
   exact ⟨j1, j2, by omega, j4⟩
 ·have := h.outA hx
  have := h.outC hy
  omega
theorem Gap.take {b : BlockV} (h : Tile 3776 (A ++ b :: C) e) (ht : e ≤ 4800) : Gap e A b.off.toNat b.z C := by
 obtain ⟨m, h1, h2, h3, h4⟩ := Tile.append.1 h
 obtain ⟨_, a2, _⟩ := h1.ok (by decide)
 obtain ⟨s1, s2, _⟩ := h3.sz
 have hz : b.z = b.off.toNat + b.tag.size.toNat := rfl
 exact ⟨h2 ▸ h1, by omega, h4, ht, by omega⟩
theorem Gap.whole {H : List BlockV} (h : Tile 3776 H e) (ht : e ≤ 4800) : Gap e H e e [] := ⟨h, Nat.le_refl _, rfl, ht, (h.ok (by decide)).2.1⟩
theorem Gap.putL (h : Gap e A h1 h2 C) {b : BlockV} (hb : BOK b) (ho : b.off.toNat = h1) (hz : b.z ≤ h2) : Gap e (A ++ [b]) b.z h2 C :=
  ⟨Tile.append.2 ⟨h1, h.left, ho, hb, rfl⟩, hz, h.right, h.top, h.mod⟩
theorem Gap.putR (h : Gap e A h1 h2 C) {b : BlockV} (hb : BOK b) (ho : h1 ≤ b.off.toNat) (hz : b.z = h2) : Gap e A h1 b.off.toNat (b :: C) := by
 obtain ⟨s1, s2, _⟩ := hb.sz
 have hm := h.mod
 have hz' : b.z = b.off.toNat + b.tag.size.toNat := rfl
 exact ⟨h.left, ho, ⟨rfl, hb, by rw [hz]; exact h.right⟩, h.top, by omega⟩
end
section
variable {e : Nat} {H : List BlockV} (h : Lay e H) {b x : BlockV}
include h
theorem Lay.two (hx : x ∈ H) (hb : b ∈ H) : x = b ∨ x.z ≤ b.off.toNat ∨ b.z ≤ x.off.toNat := pair_two h.ap hx hb
theorem Lay.nums (hb : b ∈ H) : b.z = b.off.toNat + b.tag.size.toNat ∧ 48 ≤ b.tag.size.toNat ∧ b.tag.size.toNat % 16 = 0 ∧ b.off.toNat % 16 = 0 ∧ 3776 ≤ b.off.toNat ∧ b.z ≤ 4800 := by
 obtain ⟨h1, h2, h3, h4⟩ := h.ok b hb
 obtain ⟨s1, s2, _⟩ := h1.sz
 have := h.top
 exact ⟨rfl, s1, s2, h2, h3, by omega⟩
theorem Lay.at_ (hb : b ∈ H) (k : Nat) (hk : k ≤ 40) : (b.off + UInt64.ofNat k).toNat = b.off.toNat + k := by
 obtain ⟨_, n2, _, _, _, n6⟩ := h.nums hb
 have hz : b.z = b.off.toNat + b.tag.size.toNat := rfl
 rw [UInt64.toNat_add, UInt64.toNat_ofNat']; omega
theorem Lay.last (hb : b ∈ H) : (b.off + b.tag.size - 8).toNat = b.z - 8 := by
 obtain ⟨n1, n2, _, _, _, n6⟩ := h.nums hb
 have e1 : (b.off + b.tag.size).toNat = b.z := by rw [UInt64.toNat_add]; omega
 have e8 : (8 : UInt64).toNat = 8 := rfl
 rw [UInt64.toNat_sub_of_le _ _ (by rw [UInt64.le_iff_toNat_le, e1, e8]; omega), e1, e8]
theorem Lay.same (hx : x ∈ H) (hb : b ∈ H) (he : x.off = b.off) : x = b := by
 obtain ⟨a1, a2, _⟩ := h.nums hx
 obtain ⟨c1, c2, _⟩ := h.nums hb
 rcases h.two hx hb with e | e | e
 · exact e
 · rw [he] at a1; omega
 · rw [he] at e; omega
end
theorem mem_free {H : List BlockV} {x : UInt64} : x ∈ freeOf H ↔ ∃ b ∈ H, b.tag.used = false ∧ b.off = x := by
 unfold freeOf
 simp [and_assoc]
theorem freeOf_append (A B : List BlockV) : freeOf (A ++ B) = freeOf A ++ freeOf B := by simp [freeOf]
theorem freeOf_cons_free {b : BlockV} (A : List BlockV) (h : b.tag.used = false) : freeOf (b :: A) = b.off :: freeOf A := by simp [freeOf, h]
theorem freeOf_cons_used {b : BlockV} (A : List BlockV) (h : b.tag.used = true) : freeOf (b :: A) = freeOf A := by simp [freeOf, h]
theorem Lay.spot {e : Nat} {H : List BlockV} (h : Lay e H) : Spot 4800 (freeOf H) ∧ (freeOf H).Nodup ∧ ∀ x ∈ freeOf H, 3776 ≤ x.toNat := by
 refine ⟨⟨fun x hx => ?_, fun x hx => ?_, fun x hx => ?_, fun x hx y hy he => ?_, by decide⟩, ?_, fun x hx => ?_⟩
 ·obtain ⟨b, hb, _, rfl⟩ := mem_free.1 hx
  have := h.nums hb; omega
 ·obtain ⟨b, hb, _, rfl⟩ := mem_free.1 hx
  have := h.nums hb; omega
 ·obtain ⟨b, hb, _, rfl⟩ := mem_free.1 hx
  have := h.nums hb; omega
 ·obtain ⟨b, hb, _, rfl⟩ := mem_free.1 hx
  obtain ⟨c, hc, _, rfl⟩ := mem_free.1 hy
  have hb' := h.nums hb
  have hc' := h.nums hc
  rcases h.two hb hc with rfl | h1 | h1 <;> omega
 ·unfold freeOf List.Nodup
  rw [List.pairwise_map]
  refine (h.ap.filter _).imp_of_mem ?_
  intro a b ha hb hab he
  have := h.nums (List.mem_filter.1 ha).1
  rw [he] at this
  omega
 ·obtain ⟨b, hb, _, rfl⟩ := mem_free.1 hx
  exact (h.nums hb).2.2.2.2.1
def TreeOK (f : UInt64 → UInt64) (l : List UInt64) : Prop := ∃ T : Tr, T.Rep f (f 32) ∧ T.Heap mixU ∧ Sorted (ltF szU f) T.list ∧ ∀ x, x ∈ T.list ↔ x ∈ l
section
variable {f g : UInt64 → UInt64} {l : List UInt64}
theorem TreeOK.stands (h : TreeOK f l) (hn : l.Nodup) : Stands f l f l := ⟨h, fun _ e => e, fun _ _ => rfl, hn⟩
theorem TreeOK.mono (h : TreeOK f l) {k : List UInt64} (hk : ∀ x, x ∈ k ↔ x ∈ l) : TreeOK f k := by
 obtain ⟨T, h1, h2, h3, h4⟩ := h
 exact ⟨T, h1, h2, h3, fun x => (h4 x).trans (hk x).symm⟩
theorem TreeOK.frame (h : TreeOK f l) (h32 : g 32 = f 32) (ha : ∀ x ∈ l, g x = f x ∧ g (x + 8) = f (x + 8) ∧ g (x + 16) = f (x + 16)) : TreeOK g l := by
 obtain ⟨T, h1, h2, h3, h4⟩ := h
 refine ⟨T, ?_, h2, sorted_same h3 (fun x hx => (ha x ((h4 x).1 hx)).1), h4⟩
 rw [h32]
 exact Tr.rep_frame h1 (fun x hx => (ha x ((h4 x).1 hx)).2)
theorem TreeOK.cut (hX : Spot 4800 l) (hlow : ∀ x ∈ l, 3776 ≤ x.toNat) (h : TreeOK f l) {off : UInt64} (ho : off ∈ l) :
  ∃ f' r, RemR szU mixU 4800 f (f 32) off f' r true ∧ TreeOK (stF 4800 f' 32 r) (l.filter (fun z => z != off)) ∧ ∀ o, o ≠ 32 → (∀ x ∈ l, o ≠ x + 8 ∧ o ≠ x + 16) → stF 4800 f' 32 r o = f o := by
 obtain ⟨T, h1, h2, h3, h4⟩ := h
 have hT : ∀ x ∈ T.list, x ∈ l := fun x hx => (h4 x).1 hx
 obtain ⟨f', r, i1, i2, i3⟩ := remove_rep (sz := szU) (mix := mixU) (off := off) hX h1 hT h3
 rw [show decide (off ∈ T.list) = true from decide_eq_true ((h4 off).2 ho)] at i1
 have hl := Tr.remove_list (m := mixU) (ltF_ord szU f) (x := off) h3
 have hm : ∀ x, x ∈ (Tr.remove mixU (ltF szU f) off T).list ↔ x ∈ l.filter (fun z => z != off) := fun x => by
  rw [Tr.mem_remove (ltF_ord szU f) h3, List.mem_filter, ← h4 x, bne_iff_ne]
 have hXX : ∀ x ∈ (Tr.remove mixU (ltF szU f) off T).list, x ∈ l := fun x hx => (List.mem_filter.1 ((hm x).1 hx)).1
 have hsr : Sorted (ltF szU f) (Tr.remove mixU (ltF szU f) off T).list := by rw [hl]; exact h3.filter _
 refine ⟨f', r, i1, ⟨_, plant_rep hX hlow i2 hXX, Tr.Heap.remove mixU_inj (ltF_ord szU f) (x := off) h2 h3, ?_, hm⟩, fun o h32 ha => ?_⟩
 ·refine sorted_same hsr (fun x hx => ?_)
  rw [plant_same hX hlow (hXX x hx), hX.tag i3 hT (hXX x hx)]
 ·rw [stF_other _ _ _ h32]
  exact i3 o (fun x hx => ha x (hT x hx))
theorem TreeOK.put {off : UInt64} (hX : Spot 4800 (l ++ [off])) (hlow : ∀ x ∈ l ++ [off], 3776 ≤ x.toNat) (h : TreeOK f l) (hn : off ∉ l) :
  ∃ f' r, InsR szU mixU 4800 f (f 32) off f' r ∧ TreeOK (stF 4800 f' 32 r) (l ++ [off]) ∧ ∀ o, o ≠ 32 → (∀ x ∈ l ++ [off], o ≠ x + 8 ∧ o ≠ x + 16) → stF 4800 f' 32 r o = f o := by
 obtain ⟨T, h1, h2, h3, h4⟩ := h
 have hT : ∀ x ∈ T.list, x ∈ l ++ [off] := fun x hx => List.mem_append_left _ ((h4 x).1 hx)
 have hn' : off ∉ T.list := fun e => hn ((h4 off).1 e)
 obtain ⟨f', r, i1, i2, i3⟩ := insert_rep (sz := szU) (mix := mixU) hX (off := off) (by simp) h1 hT (h3.nodup (ltF_ord szU f)) hn'
 have hsub : ∀ y ∈ off :: T.list, y ∈ l ++ [off] := fun y hy => by
  rcases List.mem_cons.1 hy with rfl | hy
  · simp
  · exact hT y hy
 have hm : ∀ x, x ∈ (Tr.insert mixU (ltF szU f) off T).list ↔ x ∈ l ++ [off] := fun x => by
  rw [Tr.mem_insert (ltF_ord szU f) h3 hn', List.mem_append, List.mem_singleton, ← h4 x]
  exact or_comm
 have hl : (Tr.insert mixU (ltF szU f) off T).list = _ := Tr.insert_list (m := mixU) (ltF_ord szU f) h3 hn'
 have hsr : Sorted (ltF szU f) (Tr.insert mixU (ltF szU f) off T).list := by rw [hl]; exact h3.put (ltF_ord szU f) hn'
 have hXX : ∀ x ∈ (Tr.insert mixU (ltF szU f) off T).list, x ∈ l ++ [off] := fun x hx => (hm x).1 hx
 refine ⟨f', r, i1, ⟨_, plant_rep hX hlow i2 hXX, Tr.Heap.insert mixU_inj (ltF_ord szU f) h2 h3 hn', ?_, hm⟩, fun o h32 ha => ?_⟩
 ·refine sorted_same hsr (fun x hx => ?_)
  rw [plant_same hX hlow (hXX x hx), hX.tag i3 hsub (hXX x hx)]
 ·rw [stF_other _ _ _ h32]
  exact i3 o (fun x hx => ha x (hsub x hx))
end
theorem headU_nat {c : UInt64} (h : c.toNat < 8) : (headU c).toNat = 72 + 416 * c.toNat := by
 unfold headU
 simp only [UInt64.toNat_add, UInt64.toNat_mul]
 have e1 : (64 : UInt64).toNat = 64 := rfl
 have e2 : (416 : UInt64).toNat = 416 := rfl
 have e3 : (8 : UInt64).toNat = 8 := rfl
 rw [e1, e2, e3]
 omega
def Tagged (f : UInt64 → UInt64) (b : BlockV) : Prop := f b.off = packU b.tag ∧ f (b.off + b.tag.size - 8) = packU b.tag ∧ (b.tag.used = true → f (b.off + 8) = b.len)
structure Wd (f : UInt64 → UInt64) (e : UInt64) (H : List BlockV) (Ls : Nat → List UInt64) (K : UInt64 → UInt64 → Prop) : Prop where
 e16 : f 16 = e
 chk : chkB 4800 f = true
 tags : ∀ b ∈ H, Tagged f b
 tree : TreeOK f (freeOf H)
 leds : ∀ c : UInt64, c.toNat < 8 → LedOK f c (Ls c.toNat)
 nodup : ∀ c, c < 8 → (Ls c).Nodup
 own : ∀ c, c < 8 → ∀ x, x ∈ Ls c ↔ ∃ b ∈ H, b.tag.used = true ∧ b.tag.owner = (c : Int) + 1 ∧ b.off = x
 kept : ∀ o v, K o v → f o = v ∧ ∃ b ∈ H, b.tag.used = true ∧ b.off.toNat + 32 ≤ o.toNat ∧ o.toNat + 8 < b.z
def Vit (H : List BlockV) (o : UInt64) : Prop := (o.toNat < 3776 ∧ o.toNat ≠ 32) ∨ ∃ b ∈ H, o.toNat = b.off.toNat ∨ o.toNat + 8 = b.z ∨ (b.tag.used = true ∧ b.off.toNat ≤ o.toNat ∧ o.toNat < b.z)
theorem chk_same {f g : UInt64 → UInt64} (h0 : g 0 = f 0) (h8 : g 8 = f 8) (h16 : g 16 = f 16) (h40 : g 40 = f 40) : chkB 4800 g = chkB 4800 f := by
  unfold chkB; rw [h0, h8, h16, h40]
section
variable {f g : UInt64 → UInt64} {e : UInt64} {E : Nat} {H H' : List BlockV} {Ls : Nat → List UInt64} {K : UInt64 → UInt64 → Prop}
theorem Tagged.frame {b : BlockV} (hl : Lay E H) (hb : b ∈ H) (h : Tagged f b) (hg : ∀ o, Vit H o → g o = f o) : Tagged g b := by
 have n := hl.nums hb
 have e1 := hl.at_ hb 8 (by decide)
 have e2 := hl.last hb
 have e1' : (b.off + 8).toNat = b.off.toNat + 8 := e1
 refine ⟨?_, ?_, fun hu => ?_⟩
 · rw [hg _ (.inr ⟨b, hb, .inl rfl⟩)]; exact h.1
 · rw [hg _ (.inr ⟨b, hb, .inr (.inl (by omega))⟩)]; exact h.2.1
 · rw [hg _ (.inr ⟨b, hb, .inr (.inr ⟨hu, by omega, by omega⟩)⟩)]; exact h.2.2 hu
theorem getE_mem {α : Type} {l : List α} {k : Nat} {y : α} (h : l[k]? = some y) : y ∈ l := by
 obtain ⟨h1, h2⟩ := List.getElem?_eq_some_iff.1 h
 rw [← h2]; exact List.getElem_mem h1
theorem LedOK.frame {c : UInt64} {l : List UInt64} (h : LedOK f c l) (hh : g (headU c) = f (headU c)) (ha : ∀ y ∈ l, g (y + 16) = f (y + 16) ∧ g (y + 24) = f (y + 24)) : LedOK g c l :=
 ⟨hh.trans h.first, fun k y hk => by
  have hy : y ∈ l := getE_mem hk
  obtain ⟨a1, a2⟩ := h.each k y hk
  obtain ⟨b1, b2⟩ := ha y hy
  exact ⟨b1.trans a1, b2.trans a2⟩⟩
theorem Wd.turn (h : Wd f e H Ls K) (hl : Lay E H) (hg : ∀ o, Vit H o → g o = f o) (hnew : ∀ b ∈ H', b ∈ H ∨ (b.tag.used = false ∧ Tagged g b)) (hus : ∀ b ∈ H, b.tag.used = true → b ∈ H') (ht : TreeOK g (freeOf H')) : Wd g e H' Ls K := by
 have hlow : ∀ o : UInt64, o.toNat < 3776 → o.toNat ≠ 32 → g o = f o := fun o h1 h2 => hg o (.inl ⟨h1, h2⟩)
 have hown : ∀ c, c < 8 → ∀ x, x ∈ Ls c ↔ ∃ b ∈ H', b.tag.used = true ∧ b.tag.owner = (c : Int) + 1 ∧ b.off = x := fun c hc x => by
  rw [h.own c hc x]
  constructor
  ·rintro ⟨b, hb, h1, h2⟩; exact ⟨b, hus b hb h1, h1, h2⟩
  ·rintro ⟨b, hb, h1, h2⟩
   rcases hnew b hb with h3 | ⟨h3, _⟩
   · exact ⟨b, h3, h1, h2⟩
   · rw [h1] at h3; cases h3
 refine ⟨?_, ?_, ?_, ht, ?_, h.nodup, hown, ?_⟩
 ·rw [hlow 16 (by decide) (by decide)]; exact h.e16
 ·rw [chk_same (hlow 0 (by decide) (by decide)) (hlow 8 (by decide) (by decide)) (hlow 16 (by decide) (by decide)) (hlow 40 (by decide) (by decide))]; exact h.chk
 ·intro b hb
  rcases hnew b hb with h3 | ⟨_, h3⟩
  ·exact (h.tags b h3).frame hl h3 hg
  ·exact h3
 ·intro c hc
  refine (h.leds c hc).frame (hlow _ (by rw [headU_nat hc]; omega) (by rw [headU_nat hc]; omega)) (fun y hy => ?_)
  obtain ⟨b, hb, h1, _, rfl⟩ := (h.own c.toNat hc y).1 hy
  have n := hl.nums hb
  have e1 : (b.off + 16).toNat = b.off.toNat + 16 := hl.at_ hb 16 (by decide)
  have e2 : (b.off + 24).toNat = b.off.toNat + 24 := hl.at_ hb 24 (by decide)
  exact ⟨hg _ (.inr ⟨b, hb, .inr (.inr ⟨h1, by omega, by omega⟩)⟩), hg _ (.inr ⟨b, hb, .inr (.inr ⟨h1, by omega, by omega⟩)⟩)⟩
 ·intro o v hk
  obtain ⟨h1, b, hb, h2, h3, h4⟩ := h.kept o v hk
  refine ⟨?_, b, hus b hb h2, h2, h3, h4⟩
  rw [hg o (.inr ⟨b, hb, .inr (.inr ⟨h2, by omega, by omega⟩)⟩)]
  exact h1
theorem Lay.vit_tree (hl : Lay E H) {o : UInt64} (hv : Vit H o) : o ≠ 32 ∧ ∀ x ∈ freeOf H, o ≠ x + 8 ∧ o ≠ x + 16 := by
  have h32 : o ≠ 32 := fun e => by
    rcases hv with ⟨_, h2⟩ | ⟨b, hb, h3⟩
    · rw [e] at h2; exact h2 rfl
    · have n := hl.nums hb
      have e' : o.toNat = 32 := by rw [e]; rfl
      omega
  refine ⟨h32, fun x hx => ?_⟩
  obtain ⟨a, ha, hf, rfl⟩ := mem_free.1 hx
  have n := hl.nums ha
  have e1 : (a.off + 8).toNat = a.off.toNat + 8 := hl.at_ ha 8 (by decide)
  have e2 : (a.off + 16).toNat = a.off.toNat + 16 := hl.at_ ha 16 (by decide)
  have key : ¬ (o.toNat = a.off.toNat + 8 ∨ o.toNat = a.off.toNat + 16) := fun hk => by
    rcases hv with ⟨h1, _⟩ | ⟨b, hb, h3⟩
    · omega
    · have m := hl.nums hb
      rcases hl.two ha hb with rfl | h4 | h4
      · rcases h3 with h3 | h3 | ⟨h3, _⟩
        · omega
        · omega
        · rw [hf] at h3; cases h3
      · omega
      · omega
  exact ⟨fun e => key (.inl (by rw [e, e1])), fun e => key (.inr (by rw [e, e2]))⟩
end
end
end Go.Proofs.YtefpbljekfkefaaGreat
