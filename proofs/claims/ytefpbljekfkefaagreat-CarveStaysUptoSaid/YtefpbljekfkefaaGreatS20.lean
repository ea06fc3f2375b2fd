/- TakeP, PadW, PadX, DrawT, DrawU, FreesW: written short. -/
import Derived.Test.YtefpbljekfkefaaGreatS19
import Derived.Test.YtefpbljekfkefaaGreatS01
import Derived.Test.YtefpbljekfkefaaGreatS10
import Derived.Test.YtefpbljekfkefaaGreatS16
set_option maxRecDepth 100000
set_option maxHeartbeats 8000000
namespace Go.Proofs.YtefpbljekfkefaaGreat
section
open Go.RowKit PT
def fitJ (H : List BlockV) (n a : UInt64) : Option Nat := bestF (fitB (needU n) a) H H.length
def fitC (H : List BlockV) (n a : UInt64) : Int := if alignB a then (if needB n then (if (fitJ H n a).isSome then 0 else 3) else 2) else 1
def restU (b : BlockV) (n a : UInt64) : UInt64 := b.tag.size - padU b.off a - needU n
def usedB (b : BlockV) (n a : UInt64) (owner : Int) : BlockV := ⟨b.off + padU b.off a, ⟨if (restU b n a).toNat < 48 then needU n + restU b n a else needU n, true, owner⟩, n⟩
def padB (b : BlockV) (a : UInt64) : BlockV := ⟨b.off, ⟨padU b.off a, false, 0⟩, 0⟩
def restB (b : BlockV) (n a : UInt64) : BlockV := ⟨b.off + padU b.off a + needU n, ⟨restU b n a, false, 0⟩, 0⟩
def padL (b : BlockV) (a : UInt64) : List BlockV := if 0 < (padU b.off a).toNat then [padB b a] else []
def restL (b : BlockV) (n a : UInt64) : List BlockV := if (restU b n a).toNat < 48 then [] else [restB b n a]
def takeB (H : List BlockV) (j : Nat) (b : BlockV) (n a : UInt64) (owner : Int) : List BlockV := H.take j ++ padL b a ++ usedB b n a owner :: (restL b n a ++ H.drop (j + 1))
abbrev HeapV := List BlockV × (Nat → List UInt64)
def takeV (h : HeapV) (owner : Int) (n a : UInt64) : HeapV × UInt64 × Int :=
 if owner < 0 ∨ 8 < owner then (h, 0, 1)
 else if fitC h.1 n a = 0 then match fitJ h.1 n a with
    | some j => match h.1[j]? with
      | some b => ((takeB h.1 j b n a owner, updO h.2 (usedB b n a owner)), (usedB b n a owner).off + 32, 0)
      | none => (h, 0, 3)
    | none => (h, 0, 3)
 else (h, 0, fitC h.1 n a)
theorem fitC_align {H : List BlockV} {n a : UInt64} (h : alignB a = false) : fitC H n a = 1 := by unfold fitC; rw [if_neg (by rw [h]; decide)]
theorem fitC_size {H : List BlockV} {n a : UInt64} (h : alignB a = true) (h2 : needB n = false) : fitC H n a = 2 := by unfold fitC; rw [if_pos h, if_neg (by rw [h2]; decide)]
theorem fitC_none {H : List BlockV} {n a : UInt64} (h : alignB a = true) (h2 : needB n = true) (h3 : fitJ H n a = none) : fitC H n a = 3 := by unfold fitC; rw [if_pos h, if_pos h2, h3, if_neg (by decide)]
theorem fitC_some {H : List BlockV} {n a : UInt64} (h : alignB a = true) (h2 : needB n = true) {j : Nat} (h3 : fitJ H n a = some j) : fitC H n a = 0 := by unfold fitC; rw [if_pos h, if_pos h2, h3]; rfl
theorem Tile.lay {e : Nat} {H : List BlockV} (h : Tile 3776 H e) (ht : e ≤ 4800) : Lay e H := by simpa using (Gap.whole h ht).lay
structure CutB (e : Nat) (H : List BlockV) (j : Nat) (b : BlockV) (n a : UInt64) : Prop where
 at_ : H[j]? = some b
 fit : fitB (needU n) a b = true
 al : alignB a = true
 need : needB n = true
 tile : Tile 3776 H e
 top : e ≤ 4800
theorem split_at {α : Type} {H : List α} {j : Nat} {b : α} (h : H[j]? = some b) : H = H.take j ++ b :: H.drop (j + 1) := by
 obtain ⟨h1, h2⟩ := List.getElem?_eq_some_iff.1 h
 rw [← h2, List.getElem_cons_drop, List.take_append_drop]
section
variable {e j : Nat} {H : List BlockV} {b : BlockV} {n a : UInt64} (Z : CutB e H j b n a)
include Z
theorem CutB.split : H = H.take j ++ b :: H.drop (j + 1) := split_at Z.at_
theorem CutB.gap : Gap e (H.take j) b.off.toNat b.z (H.drop (j + 1)) := Gap.take (Z.split ▸ Z.tile) Z.top
theorem CutB.lay : Lay e H := Z.tile.lay Z.top
theorem CutB.mem : b ∈ H := getE_mem Z.at_
theorem CutB.free : b.tag.used = false := by
 have := Z.fit
 unfold fitB at this
 simp only [Bool.and_eq_true, Bool.not_eq_true'] at this
 exact this.1.1
theorem CutB.nums : (padU b.off a).toNat % 16 = 0 ∧ ((padU b.off a).toNat = 0 ∨ 48 ≤ (padU b.off a).toNat) ∧ (needU n).toNat % 16 = 0 ∧ 48 ≤ (needU n).toNat ∧
  (padU b.off a).toNat + (needU n).toNat ≤ b.tag.size.toNat ∧ (restU b n a).toNat = b.tag.size.toNat - (padU b.off a).toNat - (needU n).toNat ∧
  (b.off + padU b.off a).toNat = b.off.toNat + (padU b.off a).toNat ∧ (b.off + padU b.off a + needU n).toNat = b.off.toNat + (padU b.off a).toNat + (needU n).toNat ∧ (restU b n a).toNat % 16 = 0 := by
 have m := Z.lay.nums Z.mem
 obtain ⟨p1, _, p3, p4, _⟩ := pad_spec (off := b.off) Z.al (by omega) m.2.2.2.1
 obtain ⟨_, w2, w3⟩ := need_words Z.need
 have hf := Z.fit
 unfold fitB at hf
 simp only [Bool.and_eq_true, decide_eq_true_eq] at hf
 obtain ⟨⟨_, f1⟩, f2⟩ := hf
 have e1 : (b.tag.size - padU b.off a).toNat = b.tag.size.toNat - (padU b.off a).toNat := UInt64.toNat_sub_of_le _ _ (by rw [UInt64.le_iff_toNat_le]; omega)
 have e2 : (restU b n a).toNat = b.tag.size.toNat - (padU b.off a).toNat - (needU n).toNat := by
  unfold restU
  rw [UInt64.toNat_sub_of_le _ _ (by rw [UInt64.le_iff_toNat_le, e1]; omega), e1]
 have e3 : (b.off + padU b.off a).toNat = b.off.toNat + (padU b.off a).toNat := by rw [UInt64.toNat_add]; omega
 have e4 : (b.off + padU b.off a + needU n).toNat = b.off.toNat + (padU b.off a).toNat + (needU n).toNat := by rw [UInt64.toNat_add, e3]; omega
 exact ⟨p1, p3, w3, w2, by omega, e2, e3, e4, by omega⟩
theorem CutB.gap1 : Gap e (H.take j ++ padL b a) (b.off + padU b.off a).toNat b.z (H.drop (j + 1)) ∧ (0 < (padU b.off a).toNat → Fits e b.off.toNat b.z (H.take j) (H.drop (j + 1)) (padB b a)) := by
 obtain ⟨n1, n2, n3, n4, n5, n6, n7, n8, n9⟩ := Z.nums
 have m := Z.lay.nums Z.mem
 have hF : 0 < (padU b.off a).toNat → Fits e b.off.toNat b.z (H.take j) (H.drop (j + 1)) (padB b a) := fun h0 =>
  ⟨Z.gap, sizes_ok (by omega) n1 (by omega) _, Nat.le_refl _, by show b.off.toNat + (padU b.off a).toNat ≤ b.z; omega, m.2.2.2.1⟩
 refine ⟨?_, hF⟩
 unfold padL
 by_cases h0 : 0 < (padU b.off a).toNat
 ·rw [if_pos h0]
  have G := Z.gap.putL (hF h0).ok rfl (hF h0).hi
  have hz : (padB b a).z = (b.off + padU b.off a).toNat := by rw [n7]; rfl
  rw [hz] at G
  exact G
 ·rw [if_neg h0, List.append_nil]
  have hz : b.off.toNat = (b.off + padU b.off a).toNat := by omega
  rw [← hz]
  exact Z.gap
theorem CutB.gap2 : Gap e (H.take j ++ padL b a) (b.off + padU b.off a).toNat ((b.off + padU b.off a).toNat + (usedB b n a 0).tag.size.toNat) (restL b n a ++ H.drop (j + 1)) ∧ (¬ (restU b n a).toNat < 48 → Fits e (b.off + padU b.off a).toNat b.z (H.take j ++ padL b a) (H.drop (j + 1)) (restB b n a)) := by
 obtain ⟨n1, n2, n3, n4, n5, n6, n7, n8, n9⟩ := Z.nums
 have m := Z.lay.nums Z.mem
 obtain ⟨G, _⟩ := Z.gap1
 have hz : (restB b n a).z = b.z := by
  show (b.off + padU b.off a + needU n).toNat + (restU b n a).toNat = b.z
  omega
 have hF : ¬ (restU b n a).toNat < 48 → Fits e (b.off + padU b.off a).toNat b.z (H.take j ++ padL b a) (H.drop (j + 1)) (restB b n a) := fun h0 =>
  ⟨G, sizes_ok (by omega) n9 (by omega) _, by show (b.off + padU b.off a).toNat ≤ (b.off + padU b.off a + needU n).toNat; omega, Nat.le_of_eq hz, by show (b.off + padU b.off a + needU n).toNat % 16 = 0; omega⟩
 refine ⟨?_, hF⟩
 have us : (usedB b n a 0).tag.size = if (restU b n a).toNat < 48 then needU n + restU b n a else needU n := rfl
 unfold restL
 by_cases h0 : (restU b n a).toNat < 48
 ·rw [if_pos h0, List.nil_append, us, if_pos h0]
  have e1 : (needU n + restU b n a).toNat = (needU n).toNat + (restU b n a).toNat := by rw [UInt64.toNat_add]; omega
  have e2 : (b.off + padU b.off a).toNat + (needU n + restU b n a).toNat = b.z := by omega
  rw [e2]
  exact G
 ·rw [if_neg h0, us, if_neg h0]
  have G2 := G.putR (hF h0).ok (hF h0).lo hz
  have e2 : (b.off + padU b.off a).toNat + (needU n).toNat = (restB b n a).off.toNat := by
   show _ = (b.off + padU b.off a + needU n).toNat
   omega
  rw [e2]
  exact G2
theorem CutB.fits {owner : Int} (h0 : 0 ≤ owner) (h8 : owner ≤ 8) : Fits e (b.off + padU b.off a).toNat ((b.off + padU b.off a).toNat + (usedB b n a 0).tag.size.toNat) (H.take j ++ padL b a) (restL b n a ++ H.drop (j + 1)) (usedB b n a owner) := by
 obtain ⟨n1, n2, n3, n4, n5, n6, n7, n8, n9⟩ := Z.nums
 have m := Z.lay.nums Z.mem
 have us : (usedB b n a owner).tag.size = if (restU b n a).toNat < 48 then needU n + restU b n a else needU n := rfl
 have e1 : (needU n + restU b n a).toNat = (needU n).toNat + (restU b n a).toNat := by rw [UInt64.toNat_add]; omega
 have hs : (usedB b n a owner).tag.size.toNat % 16 = 0 ∧ (needU n).toNat ≤ (usedB b n a owner).tag.size.toNat ∧ (usedB b n a owner).tag.size.toNat ≤ b.tag.size.toNat := by
  rw [us]; split
  · rw [e1]; omega
  · omega
 refine ⟨Z.gap2.1, ⟨decide_eq_true ⟨hs.1, by omega, by omega, h0, h8, .inl rfl⟩, ?_⟩, Nat.le_refl _, Nat.le_refl _, ?_⟩
 ·rw [if_pos (show (usedB b n a owner).tag.used = true from rfl)]
  exact ⟨Z.need, hs.2.1⟩
 ·show (b.off + padU b.off a).toNat % 16 = 0
  omega
theorem CutB.tile' {owner : Int} (h0 : 0 ≤ owner) (h8 : owner ≤ 8) : Tile 3776 (takeB H j b n a owner) e := by
 have F := Z.fits h0 h8
 have G := F.gap.putL F.ok rfl F.hi
 have := Tile.append.2 ⟨_, G.left, G.right⟩
 unfold takeB
 simpa using this
end
end
section
open Go.RowKit
theorem emod_nat (x y : Nat) : (x : Int) % (y : Int) = ((x % y : Nat) : Int) := rfl
theorem tmod_nat (x y : Nat) : ((x : Int).tmod (y : Int)) = ((x % y : Nat) : Int) := by rw [Int.tmod_eq_emod_of_nonneg (by omega)]; omega
theorem cpad_any (w : World) (off a : UInt64) (ha : alignB a = true) (ho : off.toNat ≤ 1048576) : Calls Tryz.prog 95 #[.int .u64 (off.toNat : Int), .int .u64 (a.toNat : Int)] w fun e w' => e = .returned (.int .u64 ((padU off a).toNat : Int)) ∧ w = w' := by
 obtain ⟨hp, a1, a2, a3⟩ := align_spec ha
 obtain ⟨p, hpp⟩ : ∃ p, p = off + 32 := ⟨_, rfl⟩
 have e32 : p.toNat = off.toNat + 32 := by rw [hpp, UInt64.toNat_add, show (32 : UInt64).toNat = 32 from rfl]; omega
 have e1 : IntKind.u64.wrap ((off.toNat : Int) + 32) = (p.toNat : Int) := by rw [IntWalk.u64_in _ (by omega)]; omega
 have t0 : ¬ (a.toNat : Int) = 0 := by omega
 by_cases h0 : (off.toNat + 32) % a.toNat = 0
 ·have hP : padU off a = 0 := if_pos h0
  rw [hP]
  have t1 : (IntKind.u64.wrap ((p.toNat : Int).tmod (a.toNat : Int)) == 0) = true := by
   rw [tmod_nat, e32, h0]; rfl
  have t2 : ((p.toNat : Int) % (a.toNat : Int) == 0) = true := by rw [beq_iff_eq, e32, emod_nat, h0]; rfl
  clear h0 hP ha hp a1 a2 a3 e32 hpp ho
  go_enter Tryz.func95, Tryz.ntmps95
  go_wp2_with fail
  go_ret
  exact ⟨rfl, rfl⟩
 ·have hP : padU off a = upA (off + 80) a - (off + 32) := if_neg h0
  have e80 : (off + 80).toNat = off.toNat + 80 := by rw [UInt64.toNat_add, show (80 : UInt64).toNat = 80 from rfl]; omega
  have t1 : (IntKind.u64.wrap ((p.toNat : Int).tmod (a.toNat : Int)) == 0) = false := by
   rw [tmod_nat, e32, IntWalk.u64_in _ (by have := Nat.mod_le (off.toNat + 32) a.toNat; omega), beq_eq_false_iff_ne]; omega
  have t2 : ((p.toNat : Int) % (a.toNat : Int) == 0) = false := by rw [beq_eq_false_iff_ne, e32, emod_nat]; omega
  obtain ⟨p8, hp8⟩ : ∃ p, p = off + 80 := ⟨_, rfl⟩
  rw [← hp8] at e80 hP
  have e2 : IntKind.u64.wrap ((p.toNat : Int) + 48) = (p8.toNat : Int) := by rw [IntWalk.u64_in _ (by omega)]; omega
  have HU := qH (wUpA_any w p8 a _ rfl hp (by omega))
  obtain ⟨q, hq⟩ : ∃ q, q = upA p8 a := ⟨_, rfl⟩
  rw [← hq] at HU hP
  rw [hP, ← hpp]
  have e3 : IntKind.u64.wrap ((q.toNat : Int) - (p.toNat : Int)) = ((q - p).toNat : Int) := u64_sub q p
  clear h0 hP ha hp a1 a2 a3 e32 hpp ho e80 hp8 hq
  obtain ⟨r, hr⟩ : ∃ r, r = (q - p).toNat := ⟨_, rfl⟩
  rw [← hr] at e3 ⊢
  clear hr
  go_enter Tryz.func95, Tryz.ntmps95
  go_wp2_with fail
  refine HU.out.mono ?_; rintro e w' ⟨rfl, rfl⟩
  go_wp2_with fail
  go_ret
  exact ⟨rfl, rfl⟩
theorem rpad_any (w : World) (off a : UInt64) (ha : alignB a = true) (ho : off.toNat ≤ 1048576) (h16 : off.toNat % 16 = 0) : Calls Tryz.prog 117 #[.int .u64 (off.toNat : Int), .int .u64 (a.toNat : Int)] w fun e w' => e = .returned (.int .u64 ((padU off a).toNat : Int)) ∧ w = w' := by
  obtain ⟨hp, a1, a2, a3⟩ := align_spec ha
  obtain ⟨d1, d2, d3, d4, d5⟩ := pad_spec ha ho h16
  obtain ⟨D, hD⟩ : ∃ D, D = (padU off a).toNat := ⟨_, rfl⟩
  rw [← hD] at d1 d2 d3 d4 d5 ⊢
  obtain ⟨O, hO⟩ : ∃ O, O = off.toNat := ⟨_, rfl⟩
  obtain ⟨A, hA⟩ : ∃ A, A = a.toNat := ⟨_, rfl⟩
  rw [← hO] at d2 d5 ho ⊢
  rw [← hA] at d2 d5 a1 ⊢
  have t0 : ¬ (A : Int) = 0 := by omega
  have HD := qH (And.intro d1 (And.intro d2 (And.intro d3 (And.intro d4 (And.intro d5 ho)))))
  clear d1 d2 d3 d4 d5 ho hO hA hD ha hp a1 a2 a3 h16
  go_enter Tryz.func117, Tryz.ntmps117
  go_wp2_with fail
  go_loop [5] (fun v => ∃ n : Nat, v = .int .u64 (n : Int) ∧ n ≤ D ∧ n % 16 = 0) (fun v => D - (intOf v).toNat)
  case atStart => exact ⟨0, rfl, Nat.zero_le _, rfl⟩
  case round =>
    obtain ⟨n, rfl, hn, hm⟩ := hrel
    obtain ⟨d1, d2, d3, d4, d5, ho⟩ := HD.out
    obtain ⟨X0, hX0⟩ : ∃ X, X = O + 32 := ⟨_, rfl⟩
    obtain ⟨X, hX⟩ : ∃ X, X = O + 32 + n := ⟨_, rfl⟩
    have e0 : IntKind.u64.wrap ((O : Int) + 32) = (X0 : Int) := by rw [IntWalk.u64_in _ (by omega)]; omega
    have e1 : IntKind.u64.wrap ((X0 : Int) + (n : Int)) = (X : Int) := by rw [IntWalk.u64_in _ (by omega)]; omega
    have e2 : IntKind.u64.wrap ((X : Int).tmod (A : Int)) = ((X % A : Nat) : Int) := by rw [tmod_nat]; exact IntWalk.u64_in _ (by have := Nat.mod_le X A; omega)
    have e2' : (X : Int) % (A : Int) = ((X % A : Nat) : Int) := rfl
    obtain ⟨n1, hn1⟩ : ∃ n1, n1 = n + 16 := ⟨_, rfl⟩
    have e3 : IntKind.u64.wrap ((n : Int) + 16) = (n1 : Int) := by rw [IntWalk.u64_in _ (by omega)]; omega
    obtain ⟨r, hr⟩ : ∃ r, r = (O + 32 + n) % A := ⟨_, rfl⟩
    rw [hX, ← hr, ← hX] at e2 e2'
    have HN1 := qH hn1
    clear hn1
    by_cases hlt : n < D
    · have h5 := d5 n hlt
      rw [← hr] at h5
      have HN := qH (And.intro hlt (And.intro hm d1))
      by_cases h0 : r = 0
      · have h6 := h5 h0
        have t2 : 0 < n := by omega
        have t3 : (n : Int) < 48 := by omega
        have t4 : n < 48 := by omega
        clear d1 d2 d3 d4 d5 ho h5 h6 hr hlt hm hn hX0 hX
        subst h0
        go_wp2_with fail
        go_round
        case rel => exact ⟨n1, rfl, by have := HN.out; have := HN1.out; omega, by have := HN.out; have := HN1.out; omega⟩
        case measure => have h1 := HN.out.1; have h2 := HN1.out; simp only [intOf]; clear e0 e1 e2 e2' e3; omega
      · have t1 : ¬ (r : Int) = 0 := by omega
        clear d1 d2 d3 d4 d5 ho h5 hr hlt hm hn hX0 hX
        go_wp2_with fail
        go_round
        case rel => exact ⟨n1, rfl, by have := HN.out; have := HN1.out; omega, by have := HN.out; have := HN1.out; omega⟩
        case measure => have h1 := HN.out.1; have h2 := HN1.out; simp only [intOf]; clear e0 e1 e2 e2' e3; omega
    · have hnD : n = D := by omega
      have h0 : r = 0 := by rw [hr, hnD, d2]
      by_cases hn0 : n = 0
      · have hXX : X = X0 := by rw [hX, hX0, hn0]
        have e5 : IntKind.u64.wrap (X0 : Int) = (X0 : Int) := IntWalk.u64_in _ (by omega)
        have HND := qH (hn0.symm.trans hnD)
        clear d1 d2 d3 d4 d5 ho hr hlt hm hn e1 hX hX0 hnD
        subst hXX h0 hn0
        go_wp2_with fail
        go_ret
        exact ⟨by rw [← HND.out]; rfl, rfl⟩
      · have t2 : 0 < n := by omega
        have t3 : ¬ (n : Int) < 48 := by omega
        have t4 : ¬ n < 48 := by omega
        have HND := qH hnD
        clear d1 d2 d3 d4 d5 ho hr hlt hm hn hn0 hnD hX hX0
        subst h0
        go_wp2_with fail
        go_ret
        exact ⟨by rw [← HND.out]; rfl, rfl⟩
theorem Align_any (w : World) (a : UInt64) : Calls Tryz.prog 116 #[.int .u64 (a.toNat : Int)] w fun e w' => e = .returned (.bool (alignB a)) ∧ w = w' := by
  have HU := qH (rUpS_any w a)
  unfold alignB
  cases hp : powB a with
  | false =>
    rw [hp, if_neg (by decide)] at HU
    rw [Bool.false_and]
    clear hp
    go_enter Tryz.func116, Tryz.ntmps116
    go_wp2_with fail
    refine HU.out.mono ?_; rintro e w' ⟨rfl, rfl⟩
    go_wp2_with fail
    go_ret
    exact ⟨rfl, rfl⟩
  | true =>
    rw [hp, if_pos rfl] at HU
    rw [Bool.true_and]
    clear hp
    by_cases h1 : 16 ≤ a.toNat
    · have g1 : (16 : Int) ≤ (a.toNat : Int) := by omega
      by_cases h2 : a.toNat ≤ 4096
      · have g2 : (a.toNat : Int) ≤ 4096 := by omega
        rw [decide_eq_true (And.intro h1 h2)]
        clear h1 h2
        go_enter Tryz.func116, Tryz.ntmps116
        go_wp2_with fail
        refine HU.out.mono ?_; rintro e w' ⟨rfl, rfl⟩
        go_wp2_with fail
        go_ret
        exact ⟨by simp [], rfl⟩
      · have g2 : ¬ (a.toNat : Int) ≤ 4096 := by omega
        rw [decide_eq_false (fun h : 16 ≤ a.toNat ∧ a.toNat ≤ 4096 => h2 h.2)]
        clear h1 h2
        go_enter Tryz.func116, Tryz.ntmps116
        go_wp2_with fail
        refine HU.out.mono ?_; rintro e w' ⟨rfl, rfl⟩
        go_wp2_with fail
        go_ret
        exact ⟨by simp [g2], rfl⟩
    · have g1 : ¬ (16 : Int) ≤ (a.toNat : Int) := by omega
      rw [decide_eq_false (fun h : 16 ≤ a.toNat ∧ a.toNat ≤ 4096 => h1 h.1)]
      clear h1
      go_enter Tryz.func116, Tryz.ntmps116
      go_wp2_with fail
      refine HU.out.mono ?_; rintro e w' ⟨rfl, rfl⟩
      go_wp2_with fail
      go_ret
      exact ⟨by simp [], rfl⟩
theorem Words_any (w : World) (n : UInt64) : Calls Tryz.prog 89 #[.int .u64 (n.toNat : Int)] w fun e w' => e = .returned (.int .u64 ((wordsN n : Nat) : Int)) ∧ w = w' := by
 have hlt := n.toNat_lt
 obtain ⟨q, hq⟩ : ∃ q, q = n.toNat / 8 := ⟨_, rfl⟩
 obtain ⟨r, hr⟩ : ∃ r, r = n.toNat % 8 := ⟨_, rfl⟩
 have e1 : (n.toNat : Int) / 8 = (q : Int) := by omega
 have e2 : (n.toNat : Int) % 8 = (r : Int) := by omega
 have e3 : IntKind.u64.wrap ((n.toNat : Int) / 8) = (q : Int) := by rw [e1]; exact IntWalk.u64_in _ (by omega)
 have e4 : IntKind.u64.wrap ((n.toNat : Int) % 8) = (r : Int) := by rw [e2]; exact IntWalk.u64_in _ (by omega)
 by_cases h0 : r = 0
 ·subst h0
  have hw : wordsN n = q := by unfold wordsN; omega
  have e5 : IntKind.u64.wrap ((q : Int) + 0) = (q : Int) := by rw [IntWalk.u64_in _ (by omega)]; omega
  have e6 : IntKind.u64.wrap (q : Int) = (q : Int) := IntWalk.u64_in _ (by omega)
  rw [hw]
  clear hr hq hw hlt
  go_enter Tryz.func89, Tryz.ntmps89
  go_wp2_with fail
  go_ret
  refine ⟨?_, rfl⟩
  show Ending.returned (.int .u64 (IntKind.u64.wrap ((q : Int) + min 0 1))) = _
  rw [show min (0 : Int) 1 = 0 from rfl, e5]
 ·have hw : wordsN n = q + 1 := by unfold wordsN; omega
  have e6 : IntKind.u64.wrap (q : Int) = (q : Int) := IntWalk.u64_in _ (by omega)
  have e5 : IntKind.u64.wrap ((q : Int) + 1) = ((q + 1 : Nat) : Int) := by rw [IntWalk.u64_in _ (by omega)]; omega
  rw [hw]
  by_cases h1 : r = 1
  ·subst h1
   clear hr hq hw hlt
   go_enter Tryz.func89, Tryz.ntmps89
   go_wp2_with fail
   go_ret
   refine ⟨?_, rfl⟩
   exact congrArg (fun z => Ending.returned (.int .u64 z)) (show (q : Int) + 1 = ((q + 1 : Nat) : Int) by omega)
  ·have g1 : (1 : Int) < (r : Int) := by omega
   clear hr hq hw hlt h0 h1
   go_enter Tryz.func89, Tryz.ntmps89
   go_wp2_with fail
   go_ret
   refine ⟨?_, rfl⟩
   show Ending.returned (.int .u64 (IntKind.u64.wrap ((q : Int) + min (r : Int) 1))) = _
   rw [show min (r : Int) 1 = 1 by omega, e5]
end
section
open Go.RowKit OnesP
theorem wUpX_any (w : World) (n a : UInt64) (x : Int) (hx : x = (n.toNat : Int)) (hp : powB a = true) :
  Calls Tryz.prog 93 #[.int .u64 x, .int .u64 (a.toNat : Int)] w fun e w' => (∃ (r : UInt64) (b : Bool), e = .returned (.tuple #[.int .u64 (r.toNat : Int), .bool b])) ∧ w = w' := by
 subst hx
 have ht := powB_ones a
 rw [hp] at ht
 have HO := qH (Ones_any w a)
 obtain ⟨o, ho⟩ : ∃ o : Int, o = (ones a.toNat : Int) := ⟨_, rfl⟩
 rw [← ho] at ht HO
 have t1 : (o != 1) = false := ht
 clear ht ho
 obtain ⟨k, hk, ha⟩ := powB_two hp
 have hpos := powB_pos hp
 have hlt := a.toNat_lt
 have hnl := n.toNat_lt
 have e0 : IntKind.u64.wrap ((a.toNat : Int) - 1) = ((a.toNat - 1 : Nat) : Int) := by rw [IntWalk.u64_in _ (by omega)]; omega
 have e1 : bits .and .u64 (n.toNat : Int) ((a.toNat - 1 : Nat) : Int) = ((n.toNat % a.toNat : Nat) : Int) := by
  have := u64_and_nat n.toNat (a.toNat - 1) n.toNat_lt (by omega)
  rw [ha, and_low n.toNat k, ← ha] at this
  exact this
 have e2 : bits .andNot .u64 (n.toNat : Int) ((a.toNat - 1 : Nat) : Int) = ((n.toNat - n.toNat % a.toNat : Nat) : Int) := by
  have := u64_andNot_nat n.toNat (a.toNat - 1) n.toNat_lt (by omega)
  rw [show 18446744073709551615 - (a.toNat - 1) = 2 ^ 64 - 2 ^ k by rw [← ha]; omega, and_high n.toNat k n.toNat_lt (by omega), ← ha] at this
  exact this
 obtain ⟨r, hr⟩ : ∃ r, r = n.toNat % a.toNat := ⟨_, rfl⟩
 have hrn : r ≤ n.toNat := by rw [hr]; exact Nat.mod_le _ _
 obtain ⟨d, hdn⟩ : ∃ d : UInt64, d.toNat = n.toNat - r := ⟨UInt64.ofNat (n.toNat - r), by rw [UInt64.toNat_ofNat']; omega⟩
 rw [← hr] at e1 e2
 have e3 : ((n.toNat - r : Nat) : Int) = (d.toNat : Int) := by rw [hdn]
 rw [e3] at e2
 clear e3
 obtain ⟨m, hm⟩ : ∃ m : Int, m = ((a.toNat - 1 : Nat) : Int) := ⟨_, rfl⟩
 rw [← hm] at e0 e1 e2
 by_cases h0 : r = 0
 ·have t2 : ((r : Int) == 0) = true := by simp [h0]
  clear h0 hr hdn hlt hrn hnl hpos hk ha hp hm
  go_enter Tryz.func93, Tryz.ntmps93
  go_wp2_with fail
  refine HO.out.mono ?_; rintro e w' ⟨rfl, rfl⟩
  go_wp2_with fail
  go_ret2
  exact ⟨⟨_, _, rfl⟩, rfl⟩
 ·have t2 : ((r : Int) == 0) = false := by rw [beq_eq_false_iff_ne]; omega
  have HA := qH (wAdd_any w d a _ _ rfl rfl)
  obtain ⟨q, hq⟩ : ∃ q, q = addU d a := ⟨_, rfl⟩
  obtain ⟨b, hb⟩ : ∃ b, b = addB d a := ⟨_, rfl⟩
  rw [← hq, ← hb] at HA
  clear h0 hr hdn hlt hrn hnl hpos hk ha hp hm hq hb
  go_enter Tryz.func93, Tryz.ntmps93
  go_wp2_with fail
  refine HO.out.mono ?_; rintro e w' ⟨rfl, rfl⟩
  go_wp2_with fail
  refine HA.out.mono ?_
  rintro e w' ⟨rfl, rfl⟩
  go_wp2_with fail
  go_ret2
  exact ⟨⟨_, _, rfl⟩, rfl⟩
theorem cpadX_any (w : World) (off a : UInt64) (ha : alignB a = true) : Calls Tryz.prog 95 #[.int .u64 (off.toNat : Int), .int .u64 (a.toNat : Int)] w fun e w' => (∃ r : UInt64, e = .returned (.int .u64 (r.toNat : Int))) ∧ w = w' := by
 obtain ⟨hp, a1, a2, a3⟩ := align_spec ha
 obtain ⟨p, hpp⟩ : ∃ p, p = off + 32 := ⟨_, rfl⟩
 have e1 : IntKind.u64.wrap ((off.toNat : Int) + 32) = (p.toNat : Int) := by rw [hpp]; exact u64_add off 32
 have t0 : ¬ (a.toNat : Int) = 0 := by omega
 have hpl := p.toNat_lt
 obtain ⟨r, hr⟩ : ∃ r, r = p.toNat % a.toNat := ⟨_, rfl⟩
 have e4 : IntKind.u64.wrap ((p.toNat : Int).tmod (a.toNat : Int)) = (r : Int) := by rw [tmod_nat, hr]; exact IntWalk.u64_in _ (by have := Nat.mod_le p.toNat a.toNat; omega)
 have e5 : (p.toNat : Int) % (a.toNat : Int) = (r : Int) := by rw [hr]; rfl
 obtain ⟨p8, hp8⟩ : ∃ q, q = p + 48 := ⟨_, rfl⟩
 have e2 : IntKind.u64.wrap ((p.toNat : Int) + 48) = (p8.toNat : Int) := by rw [hp8]; exact u64_add p 48
 have HU := qH (wUpX_any w p8 a _ rfl hp)
 by_cases h0 : r = 0
 ·clear hr ha hp a1 a2 a3 hpp hpl hp8
  subst h0
  go_enter Tryz.func95, Tryz.ntmps95
  go_wp2_with fail
  go_ret
  exact ⟨⟨0, rfl⟩, rfl⟩
 ·have t1 : ¬ (r : Int) = 0 := by omega
  clear hr ha hp a1 a2 a3 hpp hpl hp8 h0
  go_enter Tryz.func95, Tryz.ntmps95
  go_wp2_with fail
  refine HU.out.mono ?_; rintro e w' ⟨⟨q, b, rfl⟩, rfl⟩
  obtain ⟨d, hd⟩ : ∃ d, d = q - p := ⟨_, rfl⟩
  have e3 : IntKind.u64.wrap ((q.toNat : Int) - (p.toNat : Int)) = (d.toNat : Int) := by rw [hd]; exact u64_sub q p
  clear hd
  go_wp2_with fail
  go_ret
  exact ⟨⟨d, rfl⟩, rfl⟩
theorem cpad_all (w : World) (off a : UInt64) (ha : alignB a = true) : Calls Tryz.prog 95 #[.int .u64 (off.toNat : Int), .int .u64 (a.toNat : Int)] w fun e w' => (∃ r : UInt64, e = .returned (.int .u64 (r.toNat : Int)) ∧ (off.toNat ≤ 1048576 → r = padU off a)) ∧ w = w' := by
 by_cases ho : off.toNat ≤ 1048576
 ·refine (cpad_any w off a ha ho).mono ?_
  rintro e w' ⟨rfl, rfl⟩
  exact ⟨⟨_, rfl, fun _ => rfl⟩, rfl⟩
 ·refine (cpadX_any w off a ha).mono ?_
  rintro e w' ⟨⟨r, rfl⟩, rfl⟩
  exact ⟨⟨_, rfl, fun h => absurd h ho⟩, rfl⟩
end
section
open Go.RowKit
section
variable {P : Program} {ops : Array Oper} {md : Region.Mode} {S : World → Prop} {pr : Program} {fn : Func} {R : Ending → World → Prop} {oi : Oper} {fuel : Nat} {listed : Array Bool} {a : Act} {w : World} {Q : Exit → Act → World → Prop}
theorem dT {i : Nat} {v : Value} (hi : ops[i]? = some oi) (hs : Region.noSelect ops = true) (hf : Region.free md ops listed i = true) (hr : (Region.ready md ops listed).contains i = true) (hw : Region.wanted oi (yielded ops a.tmps) = true)
  (hy : ∀ w, S w → (execOp a.eval oi).run P w = .ok (.value v) w) (hS : S w) (h : wpAnyH P md ops Q S fuel (listed.setIfInBounds i true) (a.put oi.dst v) w) (hQ : ∀ c a w, Q (.panic c) (a.put oi.dst v) w → Q (.panic c) a w := by exact fun _ _ _ h => h) : wpAnyH P md ops Q S (fuel + 1) listed a w :=
 wpAnyH_take hi hs hf hr hQ (.inl ⟨hw, hy⟩) hS h
theorem dN (i : Nat) (hi : ops[i]? = some oi) (hs : Region.noSelect ops = true) (hf : Region.free md ops listed i = true) (hr : (Region.ready md ops listed).contains i = true) (hw : Region.wanted oi (yielded ops a.tmps) = false)
  (hS : S w) (h : wpAnyH P md ops Q S fuel (listed.setIfInBounds i true) (a.put oi.dst undef) w) (hQ : ∀ c a w, Q (.panic c) (a.put oi.dst undef) w → Q (.panic c) a w := by exact fun _ _ _ h => h) : wpAnyH P md ops Q S (fuel + 1) listed a w :=
 wpAnyH_take hi hs hf hr hQ (.inr ⟨hw, rfl⟩) hS h
end
theorem keeps_setRow (w : World) (g : Nat) (cs : Array Value) : Keeps (fun k => k = g) w (w.setRow g cs) :=
  ⟨rfl, rfl, rfl, Nat.le_of_eq (setRow_size w g cs).symm, fun i _ hn => setRow_other w g i cs hn⟩
section
variable {w : World} {S S0 : Nat → Prop} {B : Nat} {c : Array Value} {T : TypeId}
theorem Bx.row (h : Bx w S B c T) (cs : Array Value) : Bx (w.setRow B cs) S B cs T := ⟨setRow_heap w B c cs T _ h.1, h.2⟩
theorem Bx.rowo {g : Nat} (h : Bx w S B c T) (hne : B ≠ g) (cs : Array Value) : Bx (w.setRow g cs) S B c T := ⟨(setRow_other w g B cs hne).trans h.1, h.2⟩
theorem Step.row {wE : World} (h : Step S0 S wE w) (hB : wE.heap.size ≤ B) (cs : Array Value) : Step S0 S wE (w.setRow B cs) :=
  ⟨h.keeps.trans (keeps_setRow w B cs) (fun i hi e => by omega), h.grow⟩
theorem TxF.row {t n : Nat} {f : UInt64 → UInt64} (h : TxF w t f n S) (hB : ¬ S B) (cs : Array Value) : TxF (w.setRow B cs) t f n S := by
 obtain ⟨s, l, ws, m, r⟩ := h
 exact ⟨s, l, ws, m.keeps (keeps_setRow w B cs) (fun g hg e => hB (by rw [← e]; exact hg)), r⟩
end
theorem wp_store_row {P : Program} {op : Oper} {a : Act} {w : World} {K : Act → World → Prop} {Q : Exit → Act → World → Prop} {B : Nat} {c cs : Array Value} {T : TypeId} (ty : TypeId) (x y : Operand) (ho : op.op = .store ty x y)
  (hx : a.eval x = .pointer (some ⟨B, 0, none⟩)) (hy : a.eval y = .agg cs) (hg : w.heap[B]? = some (.cells c T (0, 0))) (hi : (P.info? ty).map (·.size) = some cs.size) (hs : c.size = cs.size) (h1 : cs.all (·.oneCell') = true)
  (h : K (a.put op.dst undef) (w.setRow B cs)) : op.wp P a w K Q := by
 unfold Oper.wp execOp
 simp only [ho, hx, hy, Instr.storeAt, Instr.sureAddr, Sem.run_bind, Sem.run_pure, Result.andThen_ok, run_storeVar_row w B T ty c cs hg hi hs h1]
 exact h
theorem app_ne {v : Value} {g B m c : Nat} {w : World} (hg : v.ownBlock = some g ∨ w.heap.size ≤ g) (hl : B < w.heap.size) (ho : v.ownBlock ≠ some B) : (Value.slice (some ⟨g, 0, none⟩) m c).ownBlock ≠ some B := fun e => by
 simp only [Value.ownBlock, Option.some.injEq] at e
 subst e
 rcases hg with h | h
 · exact ho h
 · omega
theorem app_ne2 {v v' : Value} {B : Nat} {w : World} (hg : ∀ g, v'.ownBlock = some g → v.ownBlock = some g ∨ w.heap.size ≤ g) (hl : B < w.heap.size) (ho : v.ownBlock ≠ some B) : v'.ownBlock ≠ some B := fun e => by
 rcases hg B e with h | h
 · exact ho h
 · omega
end
section
open Go.RowKit
theorem Bx.frz_no {w : World} {S : Nat → Prop} {B o : Nat} {c : Array Value} {T : TypeId} (h : Bx w S B c T) (hf : w.frozen? ⟨B, o, none⟩ = true) : False := by
  rw [h.frz o] at hf; cases hf
section
variable {w : World} {S S0 : Nat → Prop} {B : Nat} {T : TypeId} {a0 a1 a2 a3 a4 a5 a6 a7 a8 a9 b0 b1 b2 b3 b4 b5 b6 b7 b8 b9 : Value} {c : Array Value}
theorem Bx.set10 (h : Bx w S B #[a0, a1, a2, a3, a4, a5, a6, a7, a8, a9] T) : Bx ((((((((((w.setCell ⟨B, 0, none⟩ b0).setCell ⟨B, 1, none⟩ b1).setCell ⟨B, 2, none⟩ b2).setCell ⟨B, 3, none⟩ b3).setCell ⟨B, 4, none⟩ b4).setCell ⟨B, 5, none⟩ b5).setCell ⟨B, 6, none⟩ b6).setCell ⟨B, 7, none⟩ b7).setCell ⟨B, 8, none⟩ b8).setCell ⟨B, 9, none⟩ b9) S B #[b0, b1, b2, b3, b4, b5, b6, b7, b8, b9] T := by
 replace h := h.set 0 b0
 simp only [List.setIfInBounds_toArray, List.set_cons_zero] at h
 replace h := h.set 1 b1
 simp only [List.setIfInBounds_toArray, List.set_cons_zero, List.set_cons_succ] at h
 replace h := h.set 2 b2
 simp only [List.setIfInBounds_toArray, List.set_cons_zero, List.set_cons_succ] at h
 replace h := h.set 3 b3
 simp only [List.setIfInBounds_toArray, List.set_cons_zero, List.set_cons_succ] at h
 replace h := h.set 4 b4
 simp only [List.setIfInBounds_toArray, List.set_cons_zero, List.set_cons_succ] at h
 replace h := h.set 5 b5
 simp only [List.setIfInBounds_toArray, List.set_cons_zero, List.set_cons_succ] at h
 replace h := h.set 6 b6
 simp only [List.setIfInBounds_toArray, List.set_cons_zero, List.set_cons_succ] at h
 replace h := h.set 7 b7
 simp only [List.setIfInBounds_toArray, List.set_cons_zero, List.set_cons_succ] at h
 replace h := h.set 8 b8
 simp only [List.setIfInBounds_toArray, List.set_cons_zero, List.set_cons_succ] at h
 replace h := h.set 9 b9
 simp only [List.setIfInBounds_toArray, List.set_cons_zero, List.set_cons_succ] at h
 exact h
theorem Bx.other10 {g : Nat} (h : Bx w S B c T) (hne : B ≠ g) : Bx ((((((((((w.setCell ⟨g, 0, none⟩ b0).setCell ⟨g, 1, none⟩ b1).setCell ⟨g, 2, none⟩ b2).setCell ⟨g, 3, none⟩ b3).setCell ⟨g, 4, none⟩ b4).setCell ⟨g, 5, none⟩ b5).setCell ⟨g, 6, none⟩ b6).setCell ⟨g, 7, none⟩ b7).setCell ⟨g, 8, none⟩ b8).setCell ⟨g, 9, none⟩ b9) S B c T :=
  (((((((((h.other hne _ _).other hne _ _).other hne _ _).other hne _ _).other hne _ _).other hne _ _).other hne _ _).other hne _ _).other hne _ _).other hne _ _
theorem Step.set10 {wE : World} (h : Step S0 S wE w) (hB : wE.heap.size ≤ B) : Step S0 S wE ((((((((((w.setCell ⟨B, 0, none⟩ b0).setCell ⟨B, 1, none⟩ b1).setCell ⟨B, 2, none⟩ b2).setCell ⟨B, 3, none⟩ b3).setCell ⟨B, 4, none⟩ b4).setCell ⟨B, 5, none⟩ b5).setCell ⟨B, 6, none⟩ b6).setCell ⟨B, 7, none⟩ b7).setCell ⟨B, 8, none⟩ b8).setCell ⟨B, 9, none⟩ b9) :=
  (((((((((h.set hB _ _).set hB _ _).set hB _ _).set hB _ _).set hB _ _).set hB _ _).set hB _ _).set hB _ _).set hB _ _).set hB _ _
theorem TxF.set10 {t n : Nat} {f : UInt64 → UInt64} (h : TxF w t f n S) (hB : ¬ S B) : TxF ((((((((((w.setCell ⟨B, 0, none⟩ b0).setCell ⟨B, 1, none⟩ b1).setCell ⟨B, 2, none⟩ b2).setCell ⟨B, 3, none⟩ b3).setCell ⟨B, 4, none⟩ b4).setCell ⟨B, 5, none⟩ b5).setCell ⟨B, 6, none⟩ b6).setCell ⟨B, 7, none⟩ b7).setCell ⟨B, 8, none⟩ b8).setCell ⟨B, 9, none⟩ b9) t f n S :=
  (((((((((h.set hB _ _).set hB _ _).set hB _ _).set hB _ _).set hB _ _).set hB _ _).set hB _ _).set hB _ _).set hB _ _).set hB _ _
theorem keeps_set10 (w : World) (B : Nat) (b0 b1 b2 b3 b4 b5 b6 b7 b8 b9 : Value) : Keeps (fun k => k = B) w ((((((((((w.setCell ⟨B, 0, none⟩ b0).setCell ⟨B, 1, none⟩ b1).setCell ⟨B, 2, none⟩ b2).setCell ⟨B, 3, none⟩ b3).setCell ⟨B, 4, none⟩ b4).setCell ⟨B, 5, none⟩ b5).setCell ⟨B, 6, none⟩ b6).setCell ⟨B, 7, none⟩ b7).setCell ⟨B, 8, none⟩ b8).setCell ⟨B, 9, none⟩ b9) :=
  (((((((((keeps_setCell w ⟨B, 0, none⟩ _).trans' (keeps_setCell _ ⟨B, 1, none⟩ _)).trans' (keeps_setCell _ ⟨B, 2, none⟩ _)).trans' (keeps_setCell _ ⟨B, 3, none⟩ _)).trans' (keeps_setCell _ ⟨B, 4, none⟩ _)).trans' (keeps_setCell _ ⟨B, 5, none⟩ _)).trans' (keeps_setCell _ ⟨B, 6, none⟩ _)).trans' (keeps_setCell _ ⟨B, 7, none⟩ _)).trans' (keeps_setCell _ ⟨B, 8, none⟩ _)).trans' (keeps_setCell _ ⟨B, 9, none⟩ _)
end
end
section
open Go.RowKit PT
def mz (xs : List UInt64) (y : UInt64) : Nat := (xs.dropWhile (fun z => z != y)).length
theorem mz_at : ∀ {xs : List UInt64} {k : Nat} {y : UInt64}, xs.Nodup → xs[k]? = some y → mz xs y = xs.length - k
 | [], k, y, _, h => by simp at h
 | x :: xs, 0, y, hn, h => by
   simp at h; subst h
   unfold mz
   rw [List.dropWhile_cons]
   simp
 | x :: xs, k + 1, y, hn, h => by
   have h' : xs[k]? = some y := by simpa using h
   obtain ⟨n1, n2⟩ := List.nodup_cons.1 hn
   have hy : y ∈ xs := List.mem_of_getElem? h'
   have hne : (x != y) = true := by rw [bne_iff_ne]; exact fun e => n1 (by rw [e]; exact hy)
   have ih := mz_at n2 h'
   unfold mz at ih ⊢
   rw [List.dropWhile_cons, if_pos hne, ih, List.length_cons]
   omega
theorem mz_none {xs : List UInt64} {y : UInt64} (h : y ∉ xs) : mz xs y = 0 := by
 unfold mz
 rw [List.length_eq_zero_iff]
 induction xs with
 | nil => rfl
 | cons x xs ih =>
   rw [List.dropWhile_cons, if_pos (by rw [bne_iff_ne]; exact fun e => h (by simp [e]))]
   exact ih (fun e => h (by simp [e]))
def encF (f : UInt64 → UInt64) (x : UInt64) : Array Value := #[.int .u64 (x.toNat : Int), .int .u64 (((unpackT (f x)).size).toNat : Int)]
theorem frees1_in (n : Nat) (hn : 1 ≤ n) (L Bt Bs b0 n0 : Nat) {R : Nat → Prop} {a : Option Addr} {f : UInt64 → UInt64} {N : Nat} {need : UInt64} {xs : List UInt64} (hnd : xs.Nodup) (hz : ∀ y ∈ xs, y ≠ 0)
    (hA0 : ∃ d, AftR szU f (need, 0) (f 32) 0 ((xs[0]?).getD 0) d) (hA : ∀ k y, xs[k]? = some y → ∃ d, AftR szU f ((unpackT (f y)).size, y) (f 32) 0 ((xs[k + 1]?).getD 0) d)
    (J Jx : List UInt64 → World → Prop)
    (hY : ∀ pre x W, J pre W → pre.length < xs.length → YieldAt Fence.wide (n - 1) Tryz.prog L (encF f x) W fun e W' =>
      (e = .returned (.bool true) ∧ J (pre ++ [x]) W' ∧ KeptBut b0 n0 W W') ∨ (e = .returned (.bool false) ∧ Jx (pre ++ [x]) W'))
    (hJ : ∀ pre W W', J pre W → Keeps Nil W W' → J pre W')
    (W : World) (hn0 : n0 < b0 ∧ n0 < W.heap.size) (hown : ∀ k, OwnB n0 W k → k < W.heap.size) (hR : ∀ k, R k → k < b0 ∧ k < W.heap.size ∧ ¬ OwnB n0 W k)
    (hbox : W.heap[Bt]? = some (.cells #[.pointer a] 24 (0, 0))) (hBt : Bt < b0 ∧ ¬ OwnB n0 W Bt) (hbos : W.heap[Bs]? = some (.cells #[.int .u64 (need.toNat : Int)] 25 (0, 0))) (_hBs : Bs < b0 ∧ ¬ OwnB n0 W Bs) (hT : ReadsK R (.pointer a) f N W) (h0 : J [] W) :
    CallsIn Fence.wide n Tryz.prog 147 #[.func (.yield L) #[] #[], .pointer (some ⟨Bt, 0, none⟩), .pointer (some ⟨Bs, 0, none⟩)] W fun e W' => (∃ v, e = .returned v) ∧
      ((∃ ys, ys = xs ∧ J ys W') ∨ (∃ pre, (∃ k, k ≤ xs.length ∧ pre = xs.take k) ∧ Jx pre W')) := by
  have HT := qH hT
  obtain ⟨r0, hr0⟩ : ∃ r, r = (xs[0]?).getD 0 := ⟨_, rfl⟩
  obtain ⟨o0, ho0⟩ : ∃ o, o = (r0 != 0) := ⟨_, rfl⟩
  rw [← hr0] at hA0
  obtain ⟨d0, hA0⟩ := hA0
  have HA0 := qH (After_any hT.reads need 0 hA0)
  rw [← ho0] at HA0
  have c1 := cell_of_one hbox
  have c2 := cell_of_one hbos
  have HH := qH (And.intro hr0 (And.intro ho0 (And.intro hnd (And.intro hz (And.intro hA (And.intro hJ h0))))))
  clear hr0 ho0 hnd hz hA hA0 h0 hJ hT
  refine callsIn_of_wp Tryz.func147 rfl trivial ?_ rfl
  simp only [Tryz.ntmps147, List.size_toArray, List.length_cons, List.length_nil, Nat.reduceAdd, Nat.reduceSub, Array.replicate_succ, Array.replicate_zero, List.push_toArray, List.append_toArray, List.nil_append, List.cons_append]
  gi_wp2_with (refine ⟨trivial, ?_⟩; gi_at_call 55; refine (callsIn_wide.2 HA0.out).mono ?_; rintro e w1 ⟨rfl, k1⟩; have K1 := qH k1; clear k1)
  gi_loopw [4, 5] (fun v o wr => ∃ (k : Nat) (y : UInt64) (ob : Bool), v = .int .u64 (y.toNat : Int) ∧ o = .bool ob ∧ wr.cell? ⟨Bt, 0, none⟩ = some (.pointer a) ∧ Hid (k ≤ xs.length ∧ y = (xs[k]?).getD 0 ∧ ob = (y != 0) ∧ J (xs.take k) wr ∧ KeptBut b0 n0 W wr)) (fun v _ _ => mz xs (UInt64.ofNat (intOf v).toNat))
  case atStart =>
    obtain ⟨hr0, ho0, hnd, hz, hA, hJ, h0⟩ := HH.out
    exact ⟨0, r0, o0, rfl, rfl, (K1.out.cell (getElem?_lt hbox) (fun e => e) 0).trans c1, Nat.zero_le _, hr0, ho0, hJ _ _ _ h0 K1.out, KeptBut.nil K1.out hn0.2⟩
  case round =>
    obtain ⟨k, y, ob, rfl, rfl, hc, HZ⟩ := hrel
    obtain ⟨hk, hy0, hob, hj, hkb⟩ := HZ.out
    have hbl : Bt < wr.heap.size := World.block_lt_of_cell? _ _ hc
    by_cases hlt : k < xs.length
    · obtain ⟨z, hzk⟩ : ∃ z, xs[k]? = some z := ⟨xs[k], List.getElem?_eq_getElem hlt⟩
      have hyz : y = z := by rw [hy0, hzk]; rfl
      subst hyz
      have hyn : y ≠ 0 := HH.out.2.2.2.1 y (getE_mem hzk)
      have hobt : ob = true := by rw [hob]; exact bne_iff_ne.2 hyn
      subst hobt
      obtain ⟨gg, hgg⟩ : ∃ g, g = unpackT (f y) := ⟨_, rfl⟩
      obtain ⟨gs, gu, gw⟩ := gg
      obtain ⟨it, hit⟩ : ∃ b, b = isTag (f y) := ⟨_, rfl⟩
      have hkr := HT.out.on (hkb.on hR)
      have HL := qH (hkr.reads.loadC y _ rfl)
      obtain ⟨fy, hfy⟩ : ∃ v, v = f y := ⟨_, rfl⟩
      rw [← hfy] at HL hgg hit
      have HG := qH (And.intro hgg (And.intro hit hfy))
      have HS := qH (And.intro hlt (And.intro hzk (And.intro hj (And.intro hkb hkr))))
      clear hy0 hob hj hkb hlt hzk hyn hgg hit hfy hkr HZ hk
      gi_wp2_with (refine ⟨trivial, ?_⟩; gi_at_call 29; refine (callsIn_wide.2 HL.out).mono ?_; rintro e w2 ⟨rfl, k2⟩; have K2 := qH k2; clear k2)
      refine ⟨trivial, ?_⟩
      refine (callsIn_wide.2 (Unpack_any w2 fy)).mono ?_
      rintro e w3 ⟨rfl, k3⟩
      rw [← HG.out.1, ← HG.out.2.1, TagV.cells_def]
      obtain ⟨w4, hw4⟩ : ∃ w4, w4 = w3.alloc (.cells #[.int .u64 (gs.toNat : Int), .bool gu, .int .i64 gw] 35) := ⟨_, rfl⟩
      have k4 : Keeps Nil wr w4 := by rw [hw4]; exact (K2.out.trans' k3).alloc _
      have b4 : w4.heap[w3.heap.size]? = some (.cells #[.int .u64 (gs.toNat : Int), .bool gu, .int .i64 gw] 35 (0, 0)) := by rw [hw4]; exact heap_new _ _
      have hszs : wr.heap.size ≤ w3.heap.size := by have := K2.out.size; have := k3.size; omega
      obtain ⟨hlt, hzk, hj, hkb, hkr⟩ := HS.out
      obtain ⟨fn, tmps, assign, body, hy, hRR⟩ := hY (xs.take k) y w4 (HH.out.2.2.2.2.2.1 _ _ _ hj k4) (by rw [List.length_take]; omega)
      rw [hw4] at hy
      dsimp only [encF] at hy
      rw [← HG.out.2.2, ← HG.out.1] at hy
      have HB := qH (And.intro k4 (And.intro b4 hszs))
      have HW4 := qH hw4
      clear k4 b4 hlt hzk hj hkb hkr hw4 k3 hszs
      gi_wp2_with fail
      rw [← HW4.out]
      refine hRR.mono ?_
      rintro e W3 (⟨rfl, hJ3, hk3⟩ | ⟨rfl, hJx3⟩)
      · obtain ⟨k4, b4, hszs⟩ := HB.out
        obtain ⟨hlt, hzk, hj, hkb, hkr⟩ := HS.out
        have hown4 : ∀ i, OwnB n0 w4 i → OwnB n0 wr i := fun i e => by
          unfold OwnB at e ⊢
          rw [k4.block n0 (Nat.lt_of_lt_of_le hn0.2 hkb.size) (fun e => e)] at e
          exact e
        have hnown : ¬ OwnB n0 w4 w3.heap.size := fun e => by
          have := hkb.lt hown _ (hown4 _ e)
          omega
        have hb3 := hk3.cells b4 hnown
        have hc3 : W3.cell? ⟨Bt, 0, none⟩ = some (.pointer a) := by
          have hbt := hkb.cells hbox hBt.2
          have hbt2 := k4.at hbt (fun e => e)
          exact cell_of_one (hk3.cells hbt2 (fun e => hBt.2 (hkb.old Bt (hown4 _ e) (getElem?_lt hbox))))
        have e1 := (row3 hb3).1
        have hb3l := getElem?_lt hb3
        have hkk : KeptBut b0 n0 W W3 := (hkb.trans (KeptBut.nil k4 (Nat.lt_of_lt_of_le hn0.2 hkb.size))).trans hk3
        obtain ⟨r, hr⟩ : ∃ r, r = (xs[k + 1]?).getD 0 := ⟨_, rfl⟩
        obtain ⟨o, ho⟩ : ∃ o, o = (r != 0) := ⟨_, rfl⟩
        obtain ⟨d, hAk⟩ := HH.out.2.2.2.2.1 k y hzk
        rw [← hr, ← HG.out.2.2, ← HG.out.1] at hAk
        have hkr3 := HT.out.on (hkk.on hR)
        have HA := qH (After_any hkr3.reads gs y hAk)
        rw [← ho] at HA
        have HX := qH (And.intro hr (And.intro ho (And.intro (show J (xs.take (k + 1)) W3 by rw [take_succ' hzk]; exact hJ3) hkk)))
        clear k4 b4 hszs hlt hzk hj hkb hkr hown4 hnown hb3 hkk hr ho hAk hkr3 hJ3 hk3
        gi_wp2_with (refine ⟨trivial, ?_⟩; gi_at_call 55; refine (callsIn_wide.2 HA.out).mono ?_; rintro e w5 ⟨rfl, k5⟩; have K5 := qH k5; clear k5)
        go_roundw
        case rel => exact ⟨k + 1, r, o, rfl, rfl, (K5.out.cell (World.block_lt_of_cell? _ _ hc3) (fun e => e) 0).trans hc3, by have := HS.out.1; omega, HX.out.1, HX.out.2.1, HH.out.2.2.2.2.2.1 _ _ _ HX.out.2.2.1 K5.out, HX.out.2.2.2.trans (KeptBut.nil K5.out (Nat.lt_of_lt_of_le hn0.2 HX.out.2.2.2.size))⟩
        case measure =>
          obtain ⟨hlt, hzk, _⟩ := HS.out
          simp only [intOf, Int.toNat_natCast, UInt64.ofNat_toNat]
          rw [mz_at HH.out.2.2.1 hzk]
          by_cases hl2 : k + 1 < xs.length
          · have hz2 : xs[k + 1]? = some r := by rw [HX.out.1, List.getElem?_eq_getElem hl2]; rfl
            rw [mz_at HH.out.2.2.1 hz2]; omega
          · have hr0 : r = 0 := by rw [HX.out.1, List.getElem?_eq_none (by omega)]; rfl
            rw [hr0, mz_none (fun e => HH.out.2.2.2.1 0 e rfl)]; omega
      · have HX := qH hJx3
        clear hJx3
        gi_wp2
        refine bodyPost_ret (results_none rfl _ _ _) rfl ?_
        obtain ⟨hlt, hzk, _⟩ := HS.out
        exact ⟨⟨_, rfl⟩, .inr ⟨_, ⟨k + 1, by omega, rfl⟩, by rw [take_succ' hzk]; exact HX.out⟩⟩
    · have hyn : y = 0 := by rw [hy0, List.getElem?_eq_none (by omega)]; rfl
      have hobf : ob = false := by rw [hob, hyn]; rfl
      subst hobf
      have HJ := qH (show J xs wr by rw [List.take_of_length_le (by omega)] at hj; exact hj)
      clear hy0 hob hj hkb hlt hyn HZ hk
      gi_wp2
      go_end0
      exact ⟨⟨_, rfl⟩, .inl ⟨_, rfl, HJ.out⟩⟩
theorem frees_stops (n : Nat) (hn : 1 ≤ n) (Bt Bs b0 n0 : Nat) {R : Nat → Prop} {a : Option Addr} {f : UInt64 → UInt64} {N : Nat} {need : UInt64} {xs : List UInt64} (hnd : xs.Nodup) (hz : ∀ y ∈ xs, y ≠ 0)
  (hA0 : ∃ d, AftR szU f (need, 0) (f 32) 0 ((xs[0]?).getD 0) d) (hA : ∀ k y, xs[k]? = some y → ∃ d, AftR szU f ((unpackT (f y)).size, y) (f 32) 0 ((xs[k + 1]?).getD 0) d)
  (w : World) (hn0 : n0 < b0 ∧ n0 < w.heap.size) (hown : ∀ k, OwnB n0 w k → k < w.heap.size) (hR : ∀ k, R k → k < b0 ∧ k < w.heap.size ∧ ¬ OwnB n0 w k)
  (hbox : w.heap[Bt]? = some (.cells #[.pointer a] 24 (0, 0))) (hBt : Bt < b0 ∧ ¬ OwnB n0 w Bt) (hbos : w.heap[Bs]? = some (.cells #[.int .u64 (need.toNat : Int)] 25 (0, 0))) (hBs : Bs < b0 ∧ ¬ OwnB n0 w Bs) (hT : ReadsK R (.pointer a) f N w) :
  SeqStopsK Fence.wide n Tryz.prog 147 #[.pointer (some ⟨Bt, 0, none⟩), .pointer (some ⟨Bs, 0, none⟩)] (encF f) (KeptBut b0 n0) (fun ys => ys = xs) (fun pre => ∃ k, k ≤ xs.length ∧ pre = xs.take k) xs.length w := fun L J Jx W hW hJ _ hY h0 => by
 have hk := Keeps.of_below hW
 have ho : ∀ k, OwnB n0 W k → OwnB n0 w k := fun k hk' => by
  unfold OwnB at hk' ⊢
  rw [hk.block n0 hn0.2 (fun e => e)] at hk'
  exact hk'
 refine frees1_in n hn L Bt Bs b0 n0 (R := R) (N := N) hnd hz hA0 hA J Jx hY (fun pre A B hj k => ?_) W ⟨hn0.1, Nat.lt_of_lt_of_le hn0.2 hk.size⟩ (fun k e => Nat.lt_of_lt_of_le (hown k (ho k e)) hk.size)
  (fun k e => ⟨(hR k e).1, Nat.lt_of_lt_of_le (hR k e).2.1 hk.size, fun e' => (hR k e).2.2 (ho k e')⟩) (hk.at hbox (fun e => e)) ⟨hBt.1, fun e => hBt.2 (ho _ e)⟩ (hk.at hbos (fun e => e)) ⟨hBs.1, fun e => hBs.2 (ho _ e)⟩ (hT.keeps (fun k e => (hR k e).2.1) hk) h0
 exact hJ pre A B none hj ⟨k.os, k.tape, k.output, k.size, fun i hi _ => k.block i hi (fun e => e)⟩ (fun r e => by cases e)
theorem frees_any (a : Option Addr) (need : UInt64) (w : World) :
  Calls Tryz.prog 94 #[.pointer a, .int .u64 (need.toNat : Int)] w fun e w' => e = .returned (.func (.func 147) #[] #[.pointer (some ⟨w.heap.size, 0, none⟩), .pointer (some ⟨w.heap.size + 1, 0, none⟩)]) ∧ w' = (w.alloc (.cells #[.pointer a] 24)).alloc (.cells #[.int .u64 (need.toNat : Int)] 25) := by
 go_enter Tryz.func94, Tryz.ntmps94
 go_wp2
 go_ret
 exact ⟨rfl, by simp⟩
end
end Go.Proofs.YtefpbljekfkefaaGreat
