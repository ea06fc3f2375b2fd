/- StayP, FindIs: written short. -/
import Derived.Test.YtefpbljekfkefaaGreatS28
import Derived.Test.YtefpbljekfkefaaGreatS01
import Derived.Test.YtefpbljekfkefaaGreatS10
set_option maxRecDepth 100000
set_option maxHeartbeats 8000000
namespace Go.Proofs.YtefpbljekfkefaaGreat
section
open Go.RowKit PT
theorem takeB_keeps {H : List BlockV} {j : Nat} {b : BlockV} (hb : H[j]? = some b) (hf : b.tag.used = false) (n a : UInt64) (o : Int) {x : BlockV} (hx : x ∈ H) (hu : x.tag.used = true) : x ∈ takeB H j b n a o := by
 obtain ⟨i, hi⟩ := List.getElem?_of_mem hx
 have hne : i ≠ j := by
  rintro rfl
  rw [hb] at hi
  injection hi with e
  subst e
  rw [hf] at hu
  cases hu
 unfold takeB
 rcases Nat.lt_or_gt_of_ne hne with h | h
 ·have hm : x ∈ H.take j := by
   refine List.mem_of_getElem? (i := i) ?_
   rw [List.getElem?_take_of_lt h]; exact hi
  simp [hm]
 ·have hm : x ∈ H.drop (j + 1) := by
   refine List.mem_of_getElem? (i := i - (j + 1)) ?_
   rw [List.getElem?_drop, show j + 1 + (i - (j + 1)) = i by omega]; exact hi
  simp [hm]
theorem fitB_fr {m a : UInt64} {b : BlockV} (h : fitB m a b = true) : b.tag.used = false ∧ m.toNat ≤ b.tag.size.toNat := by
 unfold fitB at h
 rw [Bool.and_eq_true, Bool.and_eq_true, decide_eq_true_iff] at h
 exact ⟨by simpa using h.1.1, h.1.2⟩
theorem takeV_keeps {h : HeapV} {o : Int} {n a : UInt64} {x : BlockV} (hx : x ∈ h.1) (hu : x.tag.used = true) : x ∈ (takeV h o n a).1.1 := by
 by_cases ho : o < 0 ∨ 8 < o
 ·rw [takeV_own ho]; exact hx
 ·rcases fitC_cases h.1 n a with hc | ⟨hc, j, b, hj, hb, _, _, hfb⟩
  ·rw [takeV_no (by omega) (by omega) hc]; exact hx
  ·rw [takeV_yes (by omega) (by omega) hc hj hb]
   exact takeB_keeps hb (fitB_fr hfb).1 n a o hx hu
theorem fold_keeps : ∀ (k : List AskV) (h : HeapV) {x : BlockV}, x ∈ h.1 → x.tag.used = true → x ∈ (k.foldl askS h).1
 | [], _, _, hx, _ => hx
 | _ :: k, _, _, hx, hu => fold_keeps k _ (takeV_keeps hx hu) hu
theorem takenV_more {l k : List AskV} (h : l.length + k.length ≤ 20) : takenV (l ++ k) = k.foldl askS (takenV l) := by
 unfold takenV
 rw [List.take_of_length_le (by rw [List.length_append]; omega), List.take_of_length_le (by omega), List.foldl_append]
theorem takenV_keeps {l k : List AskV} (h : l.length + k.length ≤ 20) {x : BlockV} (hx : x ∈ (takenV l).1) (hu : x.tag.used = true) : x ∈ (takenV (l ++ k)).1 := by
 rw [takenV_more h]; exact fold_keeps k _ hx hu
theorem found_at {E : Nat} {H : List BlockV} (hl : Lay E H) {b : BlockV} (hb : b ∈ H) (hu : b.tag.used = true) : H.find? (findP (b.off + 32)) = some b := by
 cases h : H.find? (findP (b.off + 32)) with
 | none =>
   have := List.find?_eq_none.1 h b hb
   exact absurd (show findP (b.off + 32) b = true by unfold findP; rw [hu]; simp) this
 | some y =>
   have hy := List.mem_of_find?_eq_some h
   have hp := List.find?_some h
   unfold findP at hp
   rw [Bool.and_eq_true, beq_iff_eq] at hp
   have he : y.off = b.off := by
    have h1 := congrArg UInt64.toNat hp.2
    have n1 := hl.at_ hy 32 (by decide)
    have n2 := hl.at_ hb 32 (by decide)
    refine UInt64.toNat_inj.1 ?_
    have q : (UInt64.ofNat 32) = 32 := rfl
    rw [q] at n1 n2
    omega
   rw [hl.same hy hb he]
theorem Wd.find {f : UInt64 → UInt64} {e : UInt64} {H : List BlockV} {Ls : Nat → List UInt64} {K : UInt64 → UInt64 → Prop} (h : Wd f e H Ls K) (ht : Tile 3776 H e.toNat) (he : e.toNat ≤ 4800) {b : BlockV} (hb : b ∈ H) (hu : b.tag.used = true) : findO 4800 f (b.off + 32) = some b := by
 unfold findO
 rw [(h.walk ht he).2]
 exact found_at (ht.lay he) hb hu
def leastS (need m : UInt64) (b : BlockV) : UInt64 := if b.tag.used = false ∧ need.toNat ≤ b.tag.size.toNat ∧ (m = 0 ∨ b.tag.size.toNat < m.toNat) then b.tag.size else m
def leastV (need : UInt64) (l : List BlockV) : UInt64 := l.foldl (leastS need) 0
theorem leastV_step {need : UInt64} {H : List BlockV} {k : Nat} {b : BlockV} (h : H[k]? = some b) : leastV need (H.take (k + 1)) = leastS need (leastV need (H.take k)) b := by
 unfold leastV
 rw [take_succ' h, List.foldl_append]; rfl
theorem leastV_spec {need : UInt64} : ∀ (l : List BlockV) (m : UInt64), (∀ b ∈ l, 0 < b.tag.size.toNat) →
    ((l.foldl (leastS need) m = m) ∨ ∃ b ∈ l, b.tag.used = false ∧ need.toNat ≤ b.tag.size.toNat ∧ b.tag.size = l.foldl (leastS need) m) ∧
    (∀ c ∈ l, c.tag.used = false → need.toNat ≤ c.tag.size.toNat → l.foldl (leastS need) m ≠ 0 ∧ (l.foldl (leastS need) m).toNat ≤ c.tag.size.toNat) ∧
    (m ≠ 0 → l.foldl (leastS need) m ≠ 0 ∧ (l.foldl (leastS need) m).toNat ≤ m.toNat)
  | [], m, _ => ⟨.inl rfl, fun c hc => absurd hc (by simp), fun h => ⟨h, Nat.le_refl _⟩⟩
  | b :: l, m, hs => by
    obtain ⟨i1, i2, i3⟩ := leastV_spec (need := need) l (leastS need m b) (fun c hc => hs c (List.mem_cons_of_mem _ hc))
    have hb := hs b (by simp)
    have hb0 : b.tag.size ≠ 0 := fun e => by rw [e] at hb; exact absurd hb (by decide)
    rw [List.foldl_cons]
    generalize l.foldl (leastS need) (leastS need m b) = r at i1 i2 i3
    by_cases hc : b.tag.used = false ∧ need.toNat ≤ b.tag.size.toNat ∧ (m = 0 ∨ b.tag.size.toNat < m.toNat)
    · have hm : leastS need m b = b.tag.size := if_pos hc
      rw [hm] at i1 i3
      have j3 := i3 hb0
      refine ⟨.inr ?_, fun c hcm h1 h2 => ?_, fun h => ⟨j3.1, ?_⟩⟩
      · rcases i1 with h | ⟨c, hc1, hc2⟩
        · exact ⟨b, by simp, hc.1, hc.2.1, h.symm⟩
        · exact ⟨c, List.mem_cons_of_mem _ hc1, hc2⟩
      · rcases List.mem_cons.1 hcm with rfl | hcm
        · exact j3
        · exact i2 c hcm h1 h2
      · rcases hc.2.2 with e | e
        · exact absurd e h
        · omega
    · have hm : leastS need m b = m := if_neg hc
      rw [hm] at i1 i3
      refine ⟨?_, fun c hcm h1 h2 => ?_, fun h => i3 h⟩
      · rcases i1 with h | ⟨c, hc1, hc2⟩
        · exact .inl h
        · exact .inr ⟨c, List.mem_cons_of_mem _ hc1, hc2⟩
      · rcases List.mem_cons.1 hcm with rfl | hcm
        · have h0 : m ≠ 0 := fun e => hc ⟨h1, h2, .inl e⟩
          obtain ⟨k1, k2⟩ := i3 h0
          refine ⟨k1, ?_⟩
          have : ¬ c.tag.size.toNat < m.toNat := fun e => hc ⟨h1, h2, .inr e⟩
          omega
        · exact i2 c hcm h1 h2
theorem pad16 {off : UInt64} (h : off.toNat % 16 = 0) : padU off 16 = 0 := by
 unfold padU
 have e : (16 : UInt64).toNat = 16 := rfl
 rw [e, if_pos (by omega)]
theorem align16 : alignB 16 = true := by kernel_rfl
theorem best_is {E : Nat} {H : List BlockV} (hl : Lay E H) {n : UInt64} (hn : needB n = true) :
   (leastV (needU n) H = 0 ∧ fitC H n 16 = 3) ∨ (leastV (needU n) H ≠ 0 ∧ fitC H n 16 = 0 ∧ ∃ j b, fitJ H n 16 = some j ∧ H[j]? = some b ∧ b.tag.used = false ∧ b.tag.size = leastV (needU n) H ∧ padU b.off 16 = 0) := by
 obtain ⟨s1, s2, _⟩ := leastV_spec (need := needU n) H 0 (fun b hb => by have := (hl.nums hb).2.1; omega)
 have hs := bestF_spec (fitB (needU n) 16) H H.length (Nat.le_refl _)
 have hfit : ∀ b ∈ H, b.tag.used = false → (needU n).toNat ≤ b.tag.size.toNat → fitB (needU n) 16 b = true := fun b hb h1 h2 => by
   unfold fitB
   rw [pad16 (hl.nums hb).2.2.2.1, h1]
   have z : (0 : UInt64).toNat = 0 := rfl
   rw [z]
   simp [h2]
 change (_ ∨ ∃ b ∈ H, _ ∧ _ ∧ _ = leastV (needU n) H) at s1
 change ∀ c ∈ H, _ → _ → leastV (needU n) H ≠ 0 ∧ (leastV (needU n) H).toNat ≤ _ at s2
 cases hj : fitJ H n 16 with
 | none =>
   have hj' := hj
   unfold fitJ at hj'
   rw [hj'] at hs
   refine .inl ⟨?_, fitC_none align16 hn hj⟩
   rcases s1 with h | ⟨b, hb, h1, h2, _⟩
   ·exact h
   ·obtain ⟨i, hi⟩ := List.getElem?_of_mem hb
    have := hs i b (List.getElem?_eq_some_iff.1 hi).1 hi
    rw [hfit b hb h1 h2] at this
    cases this
 | some j =>
   have hj' := hj
   unfold fitJ at hj'
   rw [hj'] at hs
   obtain ⟨_, b, h2, h3, h4⟩ := hs
   have hbm : b ∈ H := List.mem_of_getElem? h2
   obtain ⟨f1, f2⟩ := fitB_fr h3
   obtain ⟨l1, l2⟩ := s2 b hbm f1 f2
   refine .inr ⟨l1, fitC_some align16 hn hj, j, b, rfl, h2, f1, ?_, pad16 (hl.nums hbm).2.2.2.1⟩
   rcases s1 with h | ⟨c, hc, c1, c2, c3⟩
   ·exact absurd h l1
   ·obtain ⟨i, hi⟩ := List.getElem?_of_mem hc
    have h5 := h4 i c (List.getElem?_eq_some_iff.1 hi).1 hi (hfit c hc c1 c2)
    rw [← c3] at l2
    refine UInt64.toNat_inj.1 ?_
    rw [← c3]
    rcases h5 with h5 | ⟨h5, _⟩ <;> omega
section
variable {w : World} {t : Nat} {S : Nat → Prop} {f : UInt64 → UInt64} {e : UInt64} {H : List BlockV} {Ls : Nat → List UInt64} {K : UInt64 → UInt64 → Prop}
theorem Take_not (hT : TxF w t f 4800 S) (hW : Wd f e H Ls K) (ht : Tile 3776 H e.toNat) (he : e.toNat ≤ 4800) {owner : Int} {n a : UInt64} {cd : Int} {x y : Int} (hx : x = (n.toNat : Int)) (hy : y = (a.toNat : Int)) (hv : takeV (H, Ls) owner n a = ((H, Ls), 0, cd)) :
  Calls Tryz.prog 62 #[.pointer (some ⟨t, 0, none⟩), .int .i64 owner, .int .u64 x, .int .u64 y] w fun e' w' => e' = .returned (.tuple #[.int .u64 0, .int .i64 cd]) ∧
   ∃ f' S' K', TxF w' t f' 4800 S' ∧ Wd f' e H Ls K' ∧ Step S S' w w' := by
 subst hx hy
 have h := Take_any (h := (H, Ls)) hT hW ht he owner n a
 rw [hv] at h
 exact h
end
theorem used_facts {e j : Nat} {H : List BlockV} {b : BlockV} {n a : UInt64} (Z : CutB e H j b n a) {owner : Int} (h0 : 0 ≤ owner) (h8 : owner ≤ 8) :
  usedB b n a owner ∈ takeB H j b n a owner ∧ ((usedB b n a owner).off + 32).toNat = (usedB b n a owner).off.toNat + 32 ∧ ((usedB b n a owner).off + 32).toNat % a.toNat = 0 ∧
   (usedB b n a owner).off.toNat + 40 + 8 * wordsN n ≤ (usedB b n a owner).off.toNat + (usedB b n a owner).tag.size.toNat ∧ (usedB b n a owner).off.toNat + (usedB b n a owner).tag.size.toNat ≤ 4800 ∧ 0 < a.toNat := by
 have hm : usedB b n a owner ∈ takeB H j b n a owner := by unfold takeB; simp
 have hl := (Z.tile' (owner := owner) h0 h8).lay Z.top
 have nu := hl.nums hm
 have nw := need_words Z.need
 have nn := Z.nums
 have nb := Z.lay.nums Z.mem
 obtain ⟨_, p2, _⟩ := pad_spec (off := b.off) Z.al (by omega) nb.2.2.2.1
 have e32 := hl.at_ hm 32 (by decide)
 have q : (UInt64.ofNat 32) = 32 := rfl
 rw [q] at e32
 have eo : (usedB b n a owner).off.toNat = b.off.toNat + (padU b.off a).toNat := nn.2.2.2.2.2.2.1
 have es : (needU n).toNat ≤ (usedB b n a owner).tag.size.toNat := by
  unfold usedB
  by_cases h : (restU b n a).toNat < 48
  ·simp only [if_pos h]
   rw [UInt64.toNat_add]
   omega
  ·simp only [if_neg h]
   exact Nat.le_refl _
 refine ⟨hm, e32, ?_, by omega, by omega, by have := (align_spec Z.al).2.1; omega⟩
 rw [e32, eo, show b.off.toNat + (padU b.off a).toNat + 32 = b.off.toNat + 32 + (padU b.off a).toNat by omega]
 exact p2
theorem init_like {f : UInt64 → UInt64} (h : ∀ o : UInt64, (o.toNat < 3800 ∨ 4792 ≤ o.toNat) → f o = f48 o) : Wd f 4800 [blk0] (fun _ => []) (fun _ _ => False) :=
 init_of ((h 16 (.inl (by decide))).trans f48_16) ((h 32 (.inl (by decide))).trans f48_32) ((chk_same (h 0 (.inl (by decide))) (h 8 (.inl (by decide))) (h 16 (.inl (by decide))) (h 40 (.inl (by decide)))).trans f48_chk)
  ((h 3776 (.inl (by decide))).trans f48_a) ((h 4792 (.inr (by decide))).trans f48_b) ((h 3784 (.inl (by decide))).trans f48_l) ((h 3792 (.inl (by decide))).trans f48_r)
  (fun c hc => (h (headU c) (.inl (by rw [headU_nat hc]; omega))).trans (f48_h c hc))
end
section
open Go.RowKit PT
theorem Find_is {w : World} {t : Nat} {S : Nat → Prop} {f : UInt64 → UInt64} {e : UInt64} {H : List BlockV} {Ls : Nat → List UInt64} {K : UInt64 → UInt64 → Prop} (hT : TxF w t f 4800 S) (hW : Wd f e H Ls K) (ht : Tile 3776 H e.toNat) (he : e.toNat ≤ 4800)
  {bo bs bl : UInt64} {bw : Int} (hb : (⟨bo, ⟨bs, true, bw⟩, bl⟩ : BlockV) ∈ H) {p : UInt64} (hp : p = bo + 32) :
  Calls Tryz.prog 28 #[.pointer (some ⟨t, 0, none⟩), .int .u64 (p.toNat : Int)] w fun e w' => e = .returned (.tuple #[.agg #[.int .u64 (bo.toNat : Int), .int .u64 (bs.toNat : Int), .bool true, .int .i64 bw, .int .u64 (bl.toNat : Int)], .bool true]) ∧ Keeps Nil w w' := by
 have h := Find_any hT.readsK hT.lt (by decide) p _ rfl
 rw [hp, hW.find ht he hb rfl, ← hp] at h
 exact h
theorem rWords_any (w : World) (n : UInt64) : Calls Tryz.prog 35 #[.int .u64 (n.toNat : Int)] w fun e w' => e = .returned (.int .u64 ((wordsN n : Nat) : Int)) ∧ w = w' := by
 have hlt := n.toNat_lt
 obtain ⟨q, hq⟩ : ∃ q, q = n.toNat / 8 := ⟨_, rfl⟩
 obtain ⟨r, hr⟩ : ∃ r, r = n.toNat % 8 := ⟨_, rfl⟩
 have e1 : (n.toNat : Int) / 8 = (q : Int) := by omega
 have e2 : (n.toNat : Int) % 8 = (r : Int) := by omega
 have e3 : IntKind.u64.wrap ((n.toNat : Int) / 8) = (q : Int) := by rw [e1]; exact IntWalk.u64_in _ (by omega)
 have e4 : IntKind.u64.wrap ((n.toNat : Int) % 8) = (r : Int) := by rw [e2]; exact IntWalk.u64_in _ (by omega)
 have e6 : IntKind.u64.wrap (q : Int) = (q : Int) := IntWalk.u64_in _ (by omega)
 by_cases h0 : r = 0
 ·subst h0
  have hw : wordsN n = q := by unfold wordsN; omega
  rw [hw]
  clear hr hq hw hlt
  go_enter Tryz.func35, Tryz.ntmps35
  go_wp2_with fail
  go_ret
  exact ⟨rfl, rfl⟩
 ·have hw : wordsN n = q + 1 := by unfold wordsN; omega
  have e5 : IntKind.u64.wrap ((q : Int) + 1) = ((q + 1 : Nat) : Int) := by rw [IntWalk.u64_in _ (by omega)]; omega
  have t2 : ((r : Int) == 0) = false := by rw [beq_eq_false_iff_ne]; omega
  rw [hw]
  clear hr hq hw hlt h0
  go_enter Tryz.func35, Tryz.ntmps35
  go_wp2_with fail
  go_ret
  refine ⟨?_, rfl⟩
  exact congrArg (fun z => Ending.returned (.int .u64 z)) (show (q : Int) + 1 = ((q + 1 : Nat) : Int) by omega)
end
end Go.Proofs.YtefpbljekfkefaaGreat
