/- TreeQ, TreeAf, Formed07, Laid07, TreeZ, Awake07, ClientW: written short. -/
import Derived.Test.YtefpbljekfkefaaGreatS15
import Derived.Test.YtefpbljekfkefaaGreatS01
import Derived.Test.YtefpbljekfkefaaGreatS10
import Derived.Test.YtefpbljekfkefaaGreatS12
import Derived.Test.YtefpbljekfkefaaGreatS05
import Derived.Test.YtefpbljekfkefaaGreatS06
import Derived.Test.YtefpbljekfkefaaGreatS11
import Derived.Test.YtefpbljekfkefaaGreatS13
set_option maxRecDepth 100000
set_option maxHeartbeats 8000000
namespace Go.Proofs.YtefpbljekfkefaaGreat
section
open Go.RowKit Go.Sort PT
theorem mixU_inj (a b : UInt64) (h : mixU a = mixU b) : a = b := by
 have e : ∀ x : UInt64, x * goldU * 17428512612931826493 = x := fun x => by
  rw [UInt64.mul_assoc, show goldU * 17428512612931826493 = (1 : UInt64) from by decide, UInt64.mul_one]
 have h2 : a * goldU * 17428512612931826493 = b * goldU * 17428512612931826493 := congrArg (· * 17428512612931826493) h
 rw [e, e] at h2
 exact h2
theorem mem_sortF {cf : UInt64 → UInt64 → Int} {l : List UInt64} {x : UInt64} : x ∈ sortF cf l ↔ x ∈ l := by
 unfold sortF
 exact List.mem_mergeSort
theorem nodup_sortF {cf : UInt64 → UInt64 → Int} {l : List UInt64} (h : l.Nodup) : (sortF cf l).Nodup := by
 unfold sortF
 exact (List.mergeSort_perm l _).nodup_iff.2 h
theorem sortF_sorted (f : UInt64 → UInt64) {l : List UInt64} (h : l.Nodup) : Sorted (ltF szU f) (sortF (cmpF f) l) := by
  have hp : (sortF (cmpF f) l).Pairwise (fun x y => (!(ltOf (cmpF f)) y x) = true) := by
    unfold sortF
    refine List.pairwise_mergeSort (le := fun x y => !(ltOf (cmpF f)) y x) (fun a b c h1 h2 => ?_) (fun a b => ?_) l
    · simp only [Bool.not_eq_true', ltOf_cmpF] at h1 h2 ⊢
      have a1 : ¬ _ := fun e => by rw [ltF, ltK_iff.2 e] at h1; cases h1
      have a2 : ¬ _ := fun e => by rw [ltF, ltK_iff.2 e] at h2; cases h2
      cases h3 : ltF szU f c a with
      | false => rfl
      | true =>
        have a3 := ltK_iff.1 h3
        omega
    · simp only [Bool.or_eq_true, Bool.not_eq_true', ltOf_cmpF]
      cases h1 : ltF szU f b a with
      | false => exact .inl rfl
      | true => exact .inr ((ltF_ord szU f).asymm h1)
  have hn := nodup_sortF (cf := cmpF f) h
  unfold Sorted
  unfold List.Nodup at hn
  refine (hp.and hn).imp (fun {a b} e => ?_)
  obtain ⟨e1, e2⟩ := e
  have e1 : ltF szU f b a = false := by simpa [ltOf_cmpF] using e1
  cases e3 : ltF szU f a b with
  | true => rfl
  | false => exact absurd ((ltF_ord szU f).tot a b e3 e1) e2
theorem sortF_eq {f : UInt64 → UInt64} {l k : List UInt64} (hl : l.Nodup) (hk : Sorted (ltF szU f) k) (h : ∀ x, x ∈ k ↔ x ∈ l) : sortF (cmpF f) l = k :=
  Sorted.unique (ltF_ord szU f) (sortF_sorted f hl) hk (fun x => by rw [mem_sortF, h])
theorem ltF_same {f g : UInt64 → UInt64} {x y : UInt64} (hx : g x = f x) (hy : g y = f y) : ltF szU g x y = ltF szU f x y := by unfold ltF keyF; rw [hx, hy]
theorem sorted_same {f g : UInt64 → UInt64} {k : List UInt64} (h : Sorted (ltF szU f) k) (hg : ∀ x ∈ k, g x = f x) : Sorted (ltF szU g) k := by
 refine List.Pairwise.imp_of_mem (fun {a b} ha hb e => ?_) h
 rw [ltF_same (hg a ha) (hg b hb)]; exact e
theorem rep_of_all {f : UInt64 → UInt64} : ∀ {t : Tr}, (∀ x ∈ t.list, x ≠ 0) → (allP f (putsT t) = true ↔ t.Rep f t.root)
 | .nil, _ => by simp [putsT, allP, Tr.Rep, Tr.root]
 | .node l x r, h => by
   have h1 := rep_of_all (f := f) (t := l) (fun y hy => h y (by simp [Tr.list, hy]))
   have h2 := rep_of_all (f := f) (t := r) (fun y hy => h y (by simp [Tr.list, hy]))
   have hx : x ≠ 0 := h x (by simp [Tr.list])
   have e : allP f (putsT (.node l x r)) = (allP f (putsT l) && (f (x + 8) == l.root && (allP f (putsT r) && f (x + 16) == r.root))) := by simp [putsT, allP]
   rw [e]
   simp only [Bool.and_eq_true, beq_iff_eq, h1, h2]
   constructor
   ·rintro ⟨a, b, c, d⟩
    exact ⟨rfl, hx, by rw [b]; exact a, by rw [d]; exact c⟩
   ·rintro ⟨_, _, a, b⟩
    have ea := Tr.root_rep a
    have eb := Tr.root_rep b
    exact ⟨by rw [← ea]; exact a, ea, by rw [← eb]; exact b, eb⟩
theorem checkT_rep {f : UInt64 → UInt64} {t : Tr} (h : ∀ x ∈ t.list, x ≠ 0) : checkT f t = true ↔ t.Rep f (f 32) := by
 unfold checkT
 rw [Bool.and_eq_true, rep_of_all h, beq_iff_eq]
 constructor
 ·rintro ⟨a, b⟩; rw [b]; exact a
 ·intro a
  have e := Tr.root_rep a
  exact ⟨by rw [← e]; exact a, e⟩
theorem checkT_is {f : UInt64 → UInt64} {t T : Tr} (h : t.Rep f (f 32)) (ht : t.Heap mixU) (hT : T.Heap mixU) (hn : t.list.Nodup) (hz : ∀ x ∈ T.list, x ≠ 0) : checkT f T = true ↔ T.list = t.list := by
  rw [checkT_rep hz]
  constructor
  · intro k
    have hu : ∀ {t u : Tr} {a : UInt64}, t.Rep f a → u.Rep f a → t = u := by
      intro t
      induction t with
      | nil => intro u a h k; have h' : a = 0 := h; subst h'; exact (Tr.rep_zero k).symm
      | node l x r i1 i2 =>
        intro u a h k
        obtain ⟨rfl, h2, h3, h4⟩ := h
        obtain ⟨l', r', rfl⟩ := Tr.rep_pos k h2
        obtain ⟨_, _, k3, k4⟩ := k
        rw [i1 h3 k3, i2 h4 k4]
    rw [hu h k]
  · intro e
    rw [← Tr.Heap.unique ht hT e.symm hn]
    exact h
theorem stF_other (n : Nat) (f : UInt64 → UInt64) {o off : UInt64} (v : UInt64) (h : o ≠ off) : stF n f off v o = f o := by
 unfold stF
 split
 · exact upd_ne _ _ h
 · rfl
theorem aft_rep {f : UInt64 → UInt64} {k : UInt64 × UInt64} : ∀ {t : Tr} {a best : UInt64}, t.Rep f a → Sorted (ltF szU f) t.list →
   ∃ d, AftR szU f k a best ((t.list.find? (fun y => ltK k (keyF szU f y))).getD best) d
 | .nil, a, best, h, _ => by
   have ha : a = 0 := h
   subst ha
   exact ⟨0, by simpa [Tr.list] using AftR.nil f k best⟩
 | .node l x r, a, best, h, hs => by
   obtain ⟨rfl, h2, h3, h4⟩ := h
   simp only [Tr.list] at hs ⊢
   obtain ⟨s1, s2, s3⟩ := List.pairwise_append.1 hs
   obtain ⟨s4, s5⟩ := List.pairwise_cons.1 s2
   cases hk : ltK k (keyF szU f a) with
   | true =>
     obtain ⟨d, hd⟩ := aft_rep (k := k) (best := a) h3 s1
     refine ⟨d + 1, .step h2 ?_⟩
     rw [if_pos hk, sideF, if_pos hk]
     have e : ((l.list ++ a :: r.list).find? (fun y => ltK k (keyF szU f y))).getD best = (l.list.find? (fun y => ltK k (keyF szU f y))).getD a := by
        rw [List.find?_append, List.find?_cons, hk]
        cases l.list.find? (fun y => ltK k (keyF szU f y)) <;> rfl
     rw [e]
     exact hd
   | false =>
     obtain ⟨d, hd⟩ := aft_rep (k := k) (best := best) h4 s5
     refine ⟨d + 1, .step h2 ?_⟩
     rw [if_neg (by rw [hk]; decide), sideF, if_neg (by rw [hk]; decide)]
     have hl : l.list.find? (fun y => ltK k (keyF szU f y)) = none := by
        rw [List.find?_eq_none]
        intro y hy e
        have e1 := ltK_iff.1 e
        have e2 := ltK_iff.1 (s3 y hy a (by simp))
        have : ltK k (keyF szU f a) = true := ltK_iff.2 (by omega)
        rw [hk] at this; cases this
     have e : ((l.list ++ a :: r.list).find? (fun y => ltK k (keyF szU f y))).getD best = (r.list.find? (fun y => ltK k (keyF szU f y))).getD best := by
        rw [List.find?_append, List.find?_cons, hk, hl]
        rfl
     rw [e]
     exact hd
end
section
open Go.RowKit PT
theorem aft_same {f : UInt64 → UInt64} {k : UInt64 × UInt64} {a b r : UInt64} {d : Nat} (h : AftR szU f k a b r d) : ∀ {b' r' : UInt64} {d' : Nat}, AftR szU f k a b' r' d' → d = d' := by
 induction h with
 | nil => intro b' r' d' h'; cases h' with
   | nil => rfl
   | step h => exact absurd rfl h
 | step h0 _ ih => intro b' r' d' h'; cases h' with
   | nil => exact absurd rfl h0
   | step _ h1 => rw [ih h1]
open Classical in
noncomputable def aftM (f : UInt64 → UInt64) (k : UInt64 × UInt64) (a : UInt64) : Nat := if h : ∃ d b r, AftR szU f k a b r d then Classical.choose h else 0
theorem aftM_eq {f : UInt64 → UInt64} {k : UInt64 × UInt64} {a b r : UInt64} {d : Nat} (h : AftR szU f k a b r d) : aftM f k a = d := by
 have hx : ∃ d b r, AftR szU f k a b r d := ⟨d, b, r, h⟩
 unfold aftM
 rw [dif_pos hx]
 obtain ⟨b', r', h'⟩ := Classical.choose_spec hx
 exact (aft_same h h').symm
theorem aftM_less {f : UInt64 → UInt64} {k : UInt64 × UInt64} {a b r a' b' r' : UInt64} {d : Nat} (h : AftR szU f k a b r (d + 1)) (h' : AftR szU f k a' b' r' d) :
  aftM f k (UInt64.ofNat (intOf (.int .u64 (a'.toNat : Int))).toNat) < aftM f k (UInt64.ofNat (intOf (.int .u64 (a.toNat : Int))).toNat) := by
 have e : ∀ x : UInt64, UInt64.ofNat (intOf (.int .u64 (x.toNat : Int))).toNat = x := fun x => by simp [intOf]
 rw [e, e, aftM_eq h, aftM_eq h']
 exact Nat.lt_succ_self _
theorem neq0 (r : UInt64) : ((r.toNat : Int) != 0) = (r != 0) := by
 rw [Bool.eq_iff_iff, bne_iff_ne, bne_iff_ne]
 exact not_congr ⟨fun e => UInt64.toNat_inj.1 (by rw [UInt64.toNat_zero]; omega), fun e => by rw [e]; rfl⟩
theorem key_lt2 (f : UInt64 → UInt64) (at_ ks ko : UInt64) : decide (cmpK ks ko (sizeF f at_) at_ < 0) = ltK (ks, ko) (keyF szU f at_) := cmpK_lt _ _ _ _
theorem After_any {a : Option Addr} {f : UInt64 → UInt64} {N : Nat} {w : World} (h : Reads (.pointer a) f N w) (size off : UInt64) {r : UInt64} {d : Nat} (hA : AftR szU f (size, off) (f 32) 0 r d) :
    Calls Tryz.prog 55 #[.pointer a, .int .u64 (size.toNat : Int), .int .u64 (off.toNat : Int)] w fun e w' => e = .returned (.tuple #[.int .u64 (r.toNat : Int), .bool (r != 0)]) ∧ Keeps Nil w w' := by
  have hT := qH h
  have HA := qH hA
  clear h hA
  have hst := qH (Step.refl Nil w)
  go_enter Tryz.func55, Tryz.ntmps55
  obtain ⟨W1, hW1⟩ := nm (w.alloc (.cells #[.pointer a] 153))
  obtain ⟨B1, eB1⟩ := nm (w.heap.size)
  obtain ⟨W2, hW2⟩ := nm (W1.alloc (.cells #[.int .u64 (size.toNat : Int), .int .u64 (off.toNat : Int)] 162))
  obtain ⟨B2, eB2⟩ := nm (w.heap.size + 1)
  go_wp2_with fail
  rw [← hW1.out]
  rw [← hW2.out]
  try rw [← eB2.out]
  try rw [← eB1.out]
  have k1 := kA hW1
  have e0B1 := eB1.out
  have hB1 := zB hW1 (Bx.new Nil.lt _ _ e0B1)
  have gB1 := gZ e0B1 hst
  replace hst := sN hst k1
  clear k1 e0B1
  have k2 := kA hW2
  have e0B2 : B2 = W1.heap.size := by rw [eB2.out, hW1.out]; simp []
  have hB2 := zB hW2 (Bx.new Nil.lt _ _ e0B2)
  have gB2 := gZ e0B2 hst
  have nB1B2 := nZ e0B2 hB1
  replace hst := sN hst k2
  replace hB1 := bN hB1 k2
  clear k2 e0B2
  refine (hRoot_any (hT.out.keeps hst.out.keeps)).mono ?_
  rintro _ W3 ⟨rfl, kn⟩
  replace hst := sN hst kn
  replace hB1 := bN hB1 kn
  replace hB2 := bN hB2 kn
  clear kn
  have c_B1_0 := cB hB1 0
  have f_B1_0 := hB1.out.frz 0
  have l_B1 := hB1.out.lt
  have c_B2_0 := cB hB2 0
  have f_B2_0 := hB2.out.frz 0
  have c_B2_1 := cB hB2 1
  have f_B2_1 := hB2.out.frz 1
  have l_B2 := hB2.out.lt
  go_wp2_with fail
  clear c_B1_0 f_B1_0 l_B1 c_B2_0 f_B2_0 c_B2_1 f_B2_1 l_B2
  go_loopw [10, 11] (fun best at_ wr => ((∃ (x b : UInt64) (m : Nat), best = .int .u64 (b.toNat : Int) ∧ at_ = .int .u64 (x.toNat : Int) ∧ Hid (AftR szU f (size, off) x b r m) ∧ Hid (Step Nil Nil w wr)) ∧ Hid (Bx wr Nil B1 #[.pointer a] 153)) ∧ Hid (Bx wr Nil B2 #[.int .u64 (size.toNat : Int), .int .u64 (off.toNat : Int)] 162)) (fun best at_ _ => aftM f (size, off) (UInt64.ofNat (intOf at_).toNat))
  case atStart => exact ⟨⟨⟨_, 0, d, rfl, rfl, HA, hst⟩, hB1⟩, hB2⟩
  case round =>
    clear hB2
    obtain ⟨hrel, hB2⟩ := hrel
    clear hB1
    obtain ⟨hrel, hB1⟩ := hrel
    clear hst HA
    obtain ⟨x, b, m, rfl, rfl, HA, hst⟩ := hrel
    by_cases hx : x ≠ 0
    · have HX := qH hx
      obtain ⟨m, rfl⟩ : ∃ k, m = k + 1 := by
          cases HA.out with
          | nil => exact absurd rfl hx
          | step _ _ => exact ⟨_, rfl⟩
      have hn := qH (show AftR szU f (size, off) (f (sideF szU f x (size, off))) (if ltK (size, off) (keyF szU f x) then x else b) r m by cases HA.out with | step _ h => exact h)
      clear hx
      obtain ⟨c, hc⟩ : ∃ c, cmpK size off (sizeF f x) x = c := ⟨_, rfl⟩
      have h9 := key_lt2 f x size off
      rw [hc] at h9
      cases hl : ltK (size, off) (keyF szU f x) with
      | true =>
        have hd : decide (c < 0) = true := by rw [h9, hl]
        rw [hl] at hn
        have HL := qH hl
        clear hl h9
        have d1 : (((x.toNat : Int) : Int) != (0 : Int)) = true := (unlike_u64 (a := x) (b := 0) (HX.out)).1
        have c_B1_0 := cB hB1 0
        have f_B1_0 := hB1.out.frz 0
        have l_B1 := hB1.out.lt
        have c_B2_0 := cB hB2 0
        have f_B2_0 := hB2.out.frz 0
        have c_B2_1 := cB hB2 1
        have f_B2_1 := hB2.out.frz 1
        have l_B2 := hB2.out.lt
        go_wp2_with fail
        clear c_B1_0 f_B1_0 l_B1 c_B2_0 f_B2_0 c_B2_1 f_B2_1 l_B2
        obtain ⟨W4, hW4⟩ := nm (wr.drew)
        have kn := kD hW4
        replace hst := sN hst kn
        replace hB1 := bN hB1 kn
        replace hB2 := bN hB2 kn
        clear kn
        refine wp_region_held_drew (S := fun w' => w'.cell? ⟨B1, 0, none⟩ = some (.pointer a) ∧ w'.cell? ⟨B2, 0, none⟩ = some (.int .u64 (size.toNat : Int)) ∧ w'.cell? ⟨B2, 1, none⟩ = some (.int .u64 (off.toNat : Int))) (by kernel_rfl) (by rw [← hW4.out]; exact ⟨cB hB1 0, cB hB2 0, cB hB2 1⟩) (fun hHeld => ?_)
        rw [← hW4.out] at hHeld ⊢
        refine fT 0 rfl hHeld ?_
        try simp only [Act.put, List.getElem_toArray, List.getElem_cons_zero, List.setIfInBounds_toArray, List.set_cons_zero, List.set_cons_succ]
        refine fT 1 rfl hHeld ?_; try simp only [sP,sQ]
        refine fT 2 rfl hHeld ?_; try simp only [sP,sQ]
        refine wpAnyH_ready (rs := [3]) (by kernel_rfl) (by simp) ?_
        refine (AllReadyH.cons (o := _) rfl (fun K hK => ?_) AllReadyH.nil)
        go_simp
        refine (key_any (hT.out.keeps hst.out.keeps) x _ rfl).mono ?_
        rintro _ W5 ⟨rfl, kn⟩
        replace hst := sN hst kn
        replace hB1 := bN hB1 kn
        replace hB2 := bN hB2 kn
        clear kn
        refine hK.out _ _ (⟨cB hB1 0, cB hB2 0, cB hB2 1⟩) (fun hHeld => ?_)
        clear hK K
        try simp only [sP,sQ]
        refine wpAnyH_ready (rs := [4]) (by kernel_rfl) (by simp) ?_
        refine (AllReadyH.cons (o := _) rfl (fun K hK => ?_) AllReadyH.nil)
        go_simp
        refine (compare_any _ size off (sizeF f x) x).mono ?_
        rintro _ W6 ⟨rfl, kn⟩
        rw [hc]
        replace hst := sN hst kn
        replace hB1 := bN hB1 kn
        replace hB2 := bN hB2 kn
        clear kn
        refine hK.out _ _ (⟨cB hB1 0, cB hB2 0, cB hB2 1⟩) (fun hHeld => ?_)
        clear hK K
        try simp only [sP,sQ]
        refine fT 5 rfl hHeld ?_; try simp only [sP,sQ]
        refine fD ?_
        clear hHeld
        have c_B1_0 := cB hB1 0
        have f_B1_0 := hB1.out.frz 0
        have l_B1 := hB1.out.lt
        have c_B2_0 := cB hB2 0
        have f_B2_0 := hB2.out.frz 0
        have c_B2_1 := cB hB2 1
        have f_B2_1 := hB2.out.frz 1
        have l_B2 := hB2.out.lt
        go_wp2_with fail
        clear c_B1_0 f_B1_0 l_B1 c_B2_0 f_B2_0 c_B2_1 f_B2_1 l_B2
        obtain ⟨W7, hW7⟩ := nm (W6.drew)
        have kn := kD hW7
        replace hst := sN hst kn
        replace hB1 := bN hB1 kn
        replace hB2 := bN hB2 kn
        clear kn
        refine wp_region_held_drew (S := fun w' => w'.cell? ⟨B1, 0, none⟩ = some (.pointer a) ∧ w'.cell? ⟨B2, 0, none⟩ = some (.int .u64 (size.toNat : Int)) ∧ w'.cell? ⟨B2, 1, none⟩ = some (.int .u64 (off.toNat : Int))) (by kernel_rfl) (by rw [← hW7.out]; exact ⟨cB hB1 0, cB hB2 0, cB hB2 1⟩) (fun hHeld => ?_)
        rw [← hW7.out] at hHeld ⊢
        refine fT 0 rfl hHeld ?_
        try simp only [Act.put, List.getElem_toArray, List.getElem_cons_zero, List.setIfInBounds_toArray, List.set_cons_zero, List.set_cons_succ]
        refine fT 1 rfl hHeld ?_; try simp only [sP,sQ]
        refine fT 2 rfl hHeld ?_; try simp only [sP,sQ]
        refine fT 3 rfl hHeld ?_; try simp only [sP,sQ]
        refine fT 4 rfl hHeld ?_; try simp only [sP,sQ]
        refine wpAnyH_ready (rs := [5]) (by kernel_rfl) (by simp) ?_
        refine (AllReadyH.cons (o := _) rfl (fun K hK => ?_) AllReadyH.nil)
        go_simp
        refine (side_any (hT.out.keeps hst.out.keeps) x size off).mono ?_
        rintro _ W8 ⟨rfl, kn⟩
        obtain ⟨v1, zv1⟩ : ∃ v : UInt64, v = (sideF szU f x (size, off)) := ⟨_, rfl⟩
        rw [← zv1]
        replace zv1 := qH zv1
        replace hst := sN hst kn
        replace hB1 := bN hB1 kn
        replace hB2 := bN hB2 kn
        clear kn
        refine hK.out _ _ (⟨cB hB1 0, cB hB2 0, cB hB2 1⟩) (fun hHeld => ?_)
        clear hK K
        try simp only [sP,sQ]
        refine wpAnyH_ready (rs := [6]) (by kernel_rfl) (by simp) ?_
        refine (AllReadyH.cons (o := _) rfl (fun K hK => ?_) AllReadyH.nil)
        go_simp
        refine ((hT.out.keeps hst.out.keeps).loadC v1 _ rfl).mono ?_
        rintro _ W9 ⟨rfl, kn⟩
        replace hst := sN hst kn
        replace hB1 := bN hB1 kn
        replace hB2 := bN hB2 kn
        clear kn
        refine hK.out _ _ (⟨cB hB1 0, cB hB2 0, cB hB2 1⟩) (fun hHeld => ?_)
        clear hK K
        try simp only [sP,sQ]
        refine fT 7 rfl hHeld ?_; try simp only [sP,sQ]
        refine fD ?_
        clear hHeld
        have c_B1_0 := cB hB1 0
        have f_B1_0 := hB1.out.frz 0
        have l_B1 := hB1.out.lt
        have c_B2_0 := cB hB2 0
        have f_B2_0 := hB2.out.frz 0
        have c_B2_1 := cB hB2 1
        have f_B2_1 := hB2.out.frz 1
        have l_B2 := hB2.out.lt
        go_wp2_with fail
        clear c_B1_0 f_B1_0 l_B1 c_B2_0 f_B2_0 c_B2_1 f_B2_1 l_B2
        go_roundw
        case rel => exact ⟨⟨⟨_, x, m, rfl, rfl, qH (by rw [zv1.out]; exact hn.out), hst⟩, hB1⟩, hB2⟩
        case measure => exact aftM_less HA.out (by rw [zv1.out]; exact hn.out)
      | false =>
        have hd : decide (c < 0) = false := by rw [h9, hl]
        rw [hl] at hn
        have HL := qH hl
        clear hl h9
        have d1 : (((x.toNat : Int) : Int) != (0 : Int)) = true := (unlike_u64 (a := x) (b := 0) (HX.out)).1
        have c_B1_0 := cB hB1 0
        have f_B1_0 := hB1.out.frz 0
        have l_B1 := hB1.out.lt
        have c_B2_0 := cB hB2 0
        have f_B2_0 := hB2.out.frz 0
        have c_B2_1 := cB hB2 1
        have f_B2_1 := hB2.out.frz 1
        have l_B2 := hB2.out.lt
        go_wp2_with fail
        clear c_B1_0 f_B1_0 l_B1 c_B2_0 f_B2_0 c_B2_1 f_B2_1 l_B2
        obtain ⟨W4, hW4⟩ := nm (wr.drew)
        have kn := kD hW4
        replace hst := sN hst kn
        replace hB1 := bN hB1 kn
        replace hB2 := bN hB2 kn
        clear kn
        refine wp_region_held_drew (S := fun w' => w'.cell? ⟨B1, 0, none⟩ = some (.pointer a) ∧ w'.cell? ⟨B2, 0, none⟩ = some (.int .u64 (size.toNat : Int)) ∧ w'.cell? ⟨B2, 1, none⟩ = some (.int .u64 (off.toNat : Int))) (by kernel_rfl) (by rw [← hW4.out]; exact ⟨cB hB1 0, cB hB2 0, cB hB2 1⟩) (fun hHeld => ?_)
        rw [← hW4.out] at hHeld ⊢
        refine fT 0 rfl hHeld ?_
        try simp only [Act.put, List.getElem_toArray, List.getElem_cons_zero, List.setIfInBounds_toArray, List.set_cons_zero, List.set_cons_succ]
        refine fT 1 rfl hHeld ?_; try simp only [sP,sQ]
        refine fT 2 rfl hHeld ?_; try simp only [sP,sQ]
        refine wpAnyH_ready (rs := [3]) (by kernel_rfl) (by simp) ?_
        refine (AllReadyH.cons (o := _) rfl (fun K hK => ?_) AllReadyH.nil)
        go_simp
        refine (key_any (hT.out.keeps hst.out.keeps) x _ rfl).mono ?_
        rintro _ W5 ⟨rfl, kn⟩
        replace hst := sN hst kn
        replace hB1 := bN hB1 kn
        replace hB2 := bN hB2 kn
        clear kn
        refine hK.out _ _ (⟨cB hB1 0, cB hB2 0, cB hB2 1⟩) (fun hHeld => ?_)
        clear hK K
        try simp only [sP,sQ]
        refine wpAnyH_ready (rs := [4]) (by kernel_rfl) (by simp) ?_
        refine (AllReadyH.cons (o := _) rfl (fun K hK => ?_) AllReadyH.nil)
        go_simp
        refine (compare_any _ size off (sizeF f x) x).mono ?_
        rintro _ W6 ⟨rfl, kn⟩
        rw [hc]
        replace hst := sN hst kn
        replace hB1 := bN hB1 kn
        replace hB2 := bN hB2 kn
        clear kn
        refine hK.out _ _ (⟨cB hB1 0, cB hB2 0, cB hB2 1⟩) (fun hHeld => ?_)
        clear hK K
        try simp only [sP,sQ]
        refine fT 5 rfl hHeld ?_; try simp only [sP,sQ]
        refine fD ?_
        clear hHeld
        have c_B1_0 := cB hB1 0
        have f_B1_0 := hB1.out.frz 0
        have l_B1 := hB1.out.lt
        have c_B2_0 := cB hB2 0
        have f_B2_0 := hB2.out.frz 0
        have c_B2_1 := cB hB2 1
        have f_B2_1 := hB2.out.frz 1
        have l_B2 := hB2.out.lt
        go_wp2_with fail
        clear c_B1_0 f_B1_0 l_B1 c_B2_0 f_B2_0 c_B2_1 f_B2_1 l_B2
        obtain ⟨W7, hW7⟩ := nm (W6.drew)
        have kn := kD hW7
        replace hst := sN hst kn
        replace hB1 := bN hB1 kn
        replace hB2 := bN hB2 kn
        clear kn
        refine wp_region_held_drew (S := fun w' => w'.cell? ⟨B1, 0, none⟩ = some (.pointer a) ∧ w'.cell? ⟨B2, 0, none⟩ = some (.int .u64 (size.toNat : Int)) ∧ w'.cell? ⟨B2, 1, none⟩ = some (.int .u64 (off.toNat : Int))) (by kernel_rfl) (by rw [← hW7.out]; exact ⟨cB hB1 0, cB hB2 0, cB hB2 1⟩) (fun hHeld => ?_)
        rw [← hW7.out] at hHeld ⊢
        refine fT 0 rfl hHeld ?_
        try simp only [Act.put, List.getElem_toArray, List.getElem_cons_zero, List.setIfInBounds_toArray, List.set_cons_zero, List.set_cons_succ]
        refine fT 1 rfl hHeld ?_; try simp only [sP,sQ]
        refine fT 2 rfl hHeld ?_; try simp only [sP,sQ]
        refine fT 3 rfl hHeld ?_; try simp only [sP,sQ]
        refine fT 4 rfl hHeld ?_; try simp only [sP,sQ]
        refine wpAnyH_ready (rs := [5]) (by kernel_rfl) (by simp) ?_
        refine (AllReadyH.cons (o := _) rfl (fun K hK => ?_) AllReadyH.nil)
        go_simp
        refine (side_any (hT.out.keeps hst.out.keeps) x size off).mono ?_
        rintro _ W8 ⟨rfl, kn⟩
        obtain ⟨v1, zv1⟩ : ∃ v : UInt64, v = (sideF szU f x (size, off)) := ⟨_, rfl⟩
        rw [← zv1]
        replace zv1 := qH zv1
        replace hst := sN hst kn
        replace hB1 := bN hB1 kn
        replace hB2 := bN hB2 kn
        clear kn
        refine hK.out _ _ (⟨cB hB1 0, cB hB2 0, cB hB2 1⟩) (fun hHeld => ?_)
        clear hK K
        try simp only [sP,sQ]
        refine wpAnyH_ready (rs := [6]) (by kernel_rfl) (by simp) ?_
        refine (AllReadyH.cons (o := _) rfl (fun K hK => ?_) AllReadyH.nil)
        go_simp
        refine ((hT.out.keeps hst.out.keeps).loadC v1 _ rfl).mono ?_
        rintro _ W9 ⟨rfl, kn⟩
        replace hst := sN hst kn
        replace hB1 := bN hB1 kn
        replace hB2 := bN hB2 kn
        clear kn
        refine hK.out _ _ (⟨cB hB1 0, cB hB2 0, cB hB2 1⟩) (fun hHeld => ?_)
        clear hK K
        try simp only [sP,sQ]
        refine fT 7 rfl hHeld ?_; try simp only [sP,sQ]
        refine fD ?_
        clear hHeld
        have c_B1_0 := cB hB1 0
        have f_B1_0 := hB1.out.frz 0
        have l_B1 := hB1.out.lt
        have c_B2_0 := cB hB2 0
        have f_B2_0 := hB2.out.frz 0
        have c_B2_1 := cB hB2 1
        have f_B2_1 := hB2.out.frz 1
        have l_B2 := hB2.out.lt
        go_wp2_with fail
        clear c_B1_0 f_B1_0 l_B1 c_B2_0 f_B2_0 c_B2_1 f_B2_1 l_B2
        go_roundw
        case rel => exact ⟨⟨⟨_, b, m, rfl, rfl, qH (by rw [zv1.out]; exact hn.out), hst⟩, hB1⟩, hB2⟩
        case measure => exact aftM_less HA.out (by rw [zv1.out]; exact hn.out)
    · have hx0 : x = 0 := Classical.byContradiction hx
      subst hx0
      clear hx
      have c_B1_0 := cB hB1 0
      have f_B1_0 := hB1.out.frz 0
      have l_B1 := hB1.out.lt
      have c_B2_0 := cB hB2 0
      have f_B2_0 := hB2.out.frz 0
      have c_B2_1 := cB hB2 1
      have f_B2_1 := hB2.out.frz 1
      have l_B2 := hB2.out.lt
      go_wp2_with fail
      go_ret2
      clear c_B1_0 f_B1_0 l_B1 c_B2_0 f_B2_0 c_B2_1 f_B2_1 l_B2
      have hr : r = b := by cases HA.out with
        | nil => rfl
        | step h _ => exact absurd rfl h
      subst hr
      exact ⟨by rw [neq0]; rfl, hst.out.keeps⟩
end

section
open Go.RowKit
theorem Look.take {α : Type} {K : Kind α} {w : World} {a : Option Addr} {n c m : Nat} {l : List α} (h : Look K w (.slice a n c) l) (hm : m ≤ l.length) : Look K w (.slice a m c) (l.take m) := by
 by_cases h0 : m = 0
 ·subst h0; exact .inr ⟨⟨a, c, rfl⟩, rfl⟩
 ·obtain ⟨b, off, cap, e, h1, h2, h3, h4, h5⟩ := h.pos (by omega)
  simp only [Value.slice.injEq] at e
  obtain ⟨rfl, rfl, rfl⟩ := e
  have hl : (l.take m).length = m := by rw [List.length_take]; omega
  refine .inl (.inr ⟨b, off, c, by rw [hl], by rw [hl]; omega, h2, h3, h4, fun i j hj hi => ?_⟩)
  rw [h5 i j hj (by omega), List.getElem?_take_of_lt (by omega)]
theorem GoodP.lay {ws : List UInt64} {e : UInt64} : ∀ (ps : List PieceV) {l : List Put} {off : UInt64}, GoodP ws l → GoodP ws (layP ws e ps l off).1
 | [], _, _, h => h
 | p :: ps, l, off, h => by
   unfold layP; split
   · exact h
   · exact GoodP.lay ps (h.pc off p)
section
variable {P : Program} {fn : Func} {tmps : Array Value} {w : World} {p u v : Tmp} {ty : TypeId} {g : Nat} {t : TypeId} {cs : Array Value} {fr : Nat × Nat} {d : TypeDesc}
theorem results_tmp_row_tmp (h : fn.results = #[.tmp u, .cell p ty, .tmp v]) (ht : tmps.getD p undef = .pointer (some ⟨g, 0, none⟩)) (hg : w.heap[g]? = some (.cells cs t fr))
  (hu : P.underlying ty = some d) (hd : (match d with | .struct _ | .array _ _ => true | _ => false) = true) (hi : (P.info? ty).map (·.size) = some cs.size) : (results fn tmps).run P w = .ok (.tuple #[tmps.getD u undef, .agg cs, tmps.getD v undef]) w := by
 have hr := run_loadVar_row (P := P) w g t ty cs fr d hg hu hd hi
 have ht' : tmps[p]?.getD undef = .pointer (some ⟨g, 0, none⟩) := by simpa using ht
 simp only [results, h]
 simp [Result.andThen, ht', asAddr, hr]
end
def freeOf (L : List BlockV) : List UInt64 := (L.filter (fun b => !b.tag.used)).map (·.off)
theorem freeOf_add (L : List BlockV) (b : BlockV) : freeOf (L ++ [b]) = if b.tag.used then freeOf L else freeOf L ++ [b.off] := by
 unfold freeOf
 rw [List.filter_append, List.map_append]
 cases h : b.tag.used <;> simp [h]
end
section
open Go.RowKit PT
theorem RowL.nodup {L : List BlockV} {e : UInt64} (h : RowL L e) : (L.map (·.off)).Nodup := by
 unfold List.Nodup
 rw [List.pairwise_iff_getElem]
 intro i j hi hj hij he
 rw [List.length_map] at hi hj
 rw [List.getElem_map, List.getElem_map] at he
 have := h.same (List.getElem?_eq_getElem hi) (List.getElem?_eq_getElem hj) he
 omega
structure Stands (f0 : UInt64 → UInt64) (X : List UInt64) (f : UInt64 → UInt64) (l : List UInt64) : Prop where
 tree : ∃ T : Tr, T.Rep f (f 32) ∧ T.Heap mixU ∧ Sorted (ltF szU f0) T.list ∧ ∀ x, x ∈ T.list ↔ x ∈ l
 sub : ∀ x ∈ l, x ∈ X
 same : ∀ x ∈ X, f x = f0 x
 nodup : l.Nodup
section
variable {f0 f : UInt64 → UInt64} {X l : List UInt64} (hX : Spot 4800 X) (hlow : ∀ x ∈ X, 3776 ≤ x.toNat)
include hX hlow
theorem low8 {x : UInt64} (hx : x ∈ X) : x + 8 ≠ 32 ∧ x + 16 ≠ 32 ∧ x ≠ 32 := by
 have h1 := hX.n8 hx
 have h2 := hX.n16 hx
 have h3 := hlow x hx
 refine ⟨fun e => ?_, fun e => ?_, fun e => ?_⟩
 · rw [e] at h1; simp at h1; omega
 · rw [e] at h2; simp at h2; omega
 · rw [e] at h3; simp at h3
theorem plant_rep {g : UInt64 → UInt64} {T : Tr} {r : UInt64} (h : T.Rep g r) (hT : ∀ x ∈ T.list, x ∈ X) : T.Rep (stF 4800 g 32 r) (stF 4800 g 32 r 32) := by
 have e : stF 4800 g 32 r 32 = r := by rw [stF_in _ _ (by decide) (by decide), upd_same]
 rw [e]
 exact Tr.rep_frame h (fun x hx => ⟨stF_other _ _ _ (low8 hX hlow (hT x hx)).1, stF_other _ _ _ (low8 hX hlow (hT x hx)).2.1⟩)
theorem plant_same {g : UInt64 → UInt64} {r x : UInt64} (hx : x ∈ X) : stF 4800 g 32 r x = g x := stF_other _ _ _ (low8 hX hlow hx).2.2
theorem Stands.start {g : UInt64 → UInt64} (hs : ∀ x ∈ X, g x = f0 x) : Stands f0 X (stF 4800 g 32 0) [] :=
  ⟨⟨.nil, plant_rep hX hlow (show (Tr.nil).Rep g 0 from rfl) (by simp [Tr.list]), trivial, by simp [Sorted, Tr.list], by simp [Tr.list]⟩, by simp, fun x hx => by rw [plant_same hX hlow hx]; exact hs x hx, by simp⟩
theorem Stands.put (h : Stands f0 X f l) {off : UInt64} (ho : off ∈ X) (hn : off ∉ l) : ∃ f' r, InsR szU mixU 4800 f (f 32) off f' r ∧ Stands f0 X (stF 4800 f' 32 r) (l ++ [off]) := by
 obtain ⟨T, h1, h2, h3, h4⟩ := h.tree
 have hT : ∀ x ∈ T.list, x ∈ X := fun x hx => h.sub x ((h4 x).1 hx)
 have hs : Sorted (ltF szU f) T.list := sorted_same h3 (fun x hx => h.same x (hT x hx))
 have hn' : off ∉ T.list := fun e => hn ((h4 off).1 e)
 obtain ⟨f', r, i1, i2, i3⟩ := insert_rep (sz := szU) (mix := mixU) hX ho h1 hT (hs.nodup (ltF_ord szU f)) hn'
 have hsub : ∀ y ∈ off :: T.list, y ∈ X := fun y hy => by
  rcases List.mem_cons.1 hy with rfl | hy
  · exact ho
  · exact hT y hy
 have hm : ∀ x, x ∈ (Tr.insert mixU (ltF szU f) off T).list ↔ x ∈ l ++ [off] := fun x => by
  rw [Tr.mem_insert (ltF_ord szU f) hs hn', List.mem_append, List.mem_singleton, ← h4 x]
  exact or_comm
 have hl : (Tr.insert mixU (ltF szU f) off T).list = _ := Tr.insert_list (m := mixU) (ltF_ord szU f) hs hn'
 have hsr : Sorted (ltF szU f) (Tr.insert mixU (ltF szU f) off T).list := by rw [hl]; exact hs.put (ltF_ord szU f) hn'
 have hXX : ∀ x ∈ (Tr.insert mixU (ltF szU f) off T).list, x ∈ X := fun x hx => by
  rcases List.mem_append.1 ((hm x).1 hx) with h9 | h9
  · exact h.sub x h9
  · rw [List.mem_singleton.1 h9]; exact ho
 refine ⟨f', r, i1, ⟨⟨_, plant_rep hX hlow i2 hXX, Tr.Heap.insert mixU_inj (ltF_ord szU f) h2 hs hn', ?_, hm⟩, fun x hx => ?_, fun x hx => ?_, ?_⟩⟩
 ·exact sorted_same hsr (fun x hx => (h.same x (hXX x hx)).symm)
 ·rcases List.mem_append.1 hx with h9 | h9
  · exact h.sub x h9
  · rw [List.mem_singleton.1 h9]; exact ho
 ·rw [plant_same hX hlow hx, hX.tag i3 hsub hx]; exact h.same x hx
 ·exact List.nodup_append.2 ⟨h.nodup, by simp, fun a ha b hb e => hn (by rw [List.mem_singleton] at hb; rw [← hb, ← e]; exact ha)⟩
theorem Stands.cut (h : Stands f0 X f l) (off : UInt64) : ∃ f' r, RemR szU mixU 4800 f (f 32) off f' r (decide (off ∈ l)) ∧ Stands f0 X (if decide (off ∈ l) = true then stF 4800 f' 32 r else f') (l.filter (fun z => z != off)) := by
 obtain ⟨T, h1, h2, h3, h4⟩ := h.tree
 have hT : ∀ x ∈ T.list, x ∈ X := fun x hx => h.sub x ((h4 x).1 hx)
 have hs : Sorted (ltF szU f) T.list := sorted_same h3 (fun x hx => h.same x (hT x hx))
 obtain ⟨f', r, i1, i2, i3⟩ := remove_rep (sz := szU) (mix := mixU) (off := off) hX h1 hT hs
 have hd : decide (off ∈ T.list) = decide (off ∈ l) := by rw [decide_eq_decide]; exact h4 off
 rw [hd] at i1
 have hl := Tr.remove_list (m := mixU) (ltF_ord szU f) (x := off) hs
 have hm : ∀ x, x ∈ (Tr.remove mixU (ltF szU f) off T).list ↔ x ∈ l.filter (fun z => z != off) := fun x => by
  rw [Tr.mem_remove (ltF_ord szU f) hs, List.mem_filter, ← h4 x, bne_iff_ne]
 have hXX : ∀ x ∈ (Tr.remove mixU (ltF szU f) off T).list, x ∈ X := fun x hx => h.sub x ((List.mem_filter.1 ((hm x).1 hx)).1)
 have hsr : Sorted (ltF szU f) (Tr.remove mixU (ltF szU f) off T).list := by rw [hl]; exact hs.filter _
 have hhp := Tr.Heap.remove mixU_inj (ltF_ord szU f) (x := off) h2 hs
 refine ⟨f', r, i1, ?_⟩
 have hsame : ∀ x ∈ X, f' x = f0 x := fun x hx => by rw [hX.tag i3 hT hx]; exact h.same x hx
 have hnd := h.nodup.filter (fun z => z != off)
 have hsb : ∀ x ∈ l.filter (fun z => z != off), x ∈ X := fun x hx => h.sub x (List.mem_filter.1 hx).1
 have hsf : Sorted (ltF szU f0) (Tr.remove mixU (ltF szU f) off T).list := sorted_same hsr (fun x hx => (h.same x (hXX x hx)).symm)
 by_cases hin : off ∈ l
 ·rw [if_pos (decide_eq_true hin)]
  exact ⟨⟨_, plant_rep hX hlow i2 hXX, hhp, hsf, hm⟩, hsb, fun x hx => by rw [plant_same hX hlow hx]; exact hsame x hx, hnd⟩
 ·rw [if_neg (by simpa using hin)]
  have hnT : off ∉ T.list := fun e => hin ((h4 off).1 e)
  have hll : (Tr.remove mixU (ltF szU f) off T).list = T.list := by
   rw [hl]
   exact List.filter_eq_self.2 (fun z hz => by rw [bne_iff_ne]; exact fun e => hnT (by rw [← e]; exact hz))
  have hTT : Tr.remove mixU (ltF szU f) off T = T := Tr.Heap.unique hhp h2 hll (by rw [hll]; exact hs.nodup (ltF_ord szU f))
  rw [hTT] at i2 hm hsf
  have e32 : f' 32 = f 32 := i3 32 (fun x hx => ⟨(low8 hX hlow (hT x hx)).1.symm, (low8 hX hlow (hT x hx)).2.1.symm⟩)
  have er : r = f 32 := by rw [Tr.root_rep i2, Tr.root_rep h1]
  exact ⟨⟨T, by rw [e32, ← er]; exact i2, h2, hsf, hm⟩, hsb, hsame, hnd⟩
omit hlow in
theorem Stands.told (h : Stands f0 X f l) : ∃ T : Tr, T.Heap mixU ∧ T.list = sortF (cmpF f) l ∧ checkT f T = true ∧ T.Rep f (f 32) := by
 obtain ⟨T, h1, h2, h3, h4⟩ := h.tree
 have hT : ∀ x ∈ T.list, x ∈ X := fun x hx => h.sub x ((h4 x).1 hx)
 have hs : Sorted (ltF szU f) T.list := sorted_same h3 (fun x hx => h.same x (hT x hx))
 exact ⟨T, h2, (sortF_eq h.nodup hs h4).symm, (checkT_rep (fun x hx => hX.nz (hT x hx))).2 h1, h1⟩
omit hX hlow in
theorem Stands.list (h : Stands f0 X f l) : sortF (cmpF f) l = sortF (cmpF f0) l := by
 obtain ⟨T, h1, h2, h3, h4⟩ := h.tree
 have hT : ∀ x ∈ T.list, x ∈ X := fun x hx => h.sub x ((h4 x).1 hx)
 have hs : Sorted (ltF szU f) T.list := sorted_same h3 (fun x hx => h.same x (hT x hx))
 rw [sortF_eq h.nodup hs h4, sortF_eq h.nodup h3 h4]
omit hX hlow in
theorem Stands.root (h : Stands f0 X f l) : f 32 = 0 ↔ l = [] := by
 obtain ⟨T, h1, h2, h3, h4⟩ := h.tree
 constructor
 ·intro e
  rw [e] at h1
  have := Tr.rep_zero h1
  subst this
  exact List.eq_nil_iff_forall_not_mem.2 (fun x hx => by have := (h4 x).2 hx; simp [Tr.list] at this)
 ·rintro rfl
  cases T with
  | nil => exact h1
  | node l x r => have := (h4 x).1 (by simp [Tr.list]); simp at this
omit hX hlow in
theorem Stands.mono (h : Stands f0 X f l) {k : List UInt64} (hk : ∀ x, x ∈ k ↔ x ∈ l) (hn : k.Nodup) : Stands f0 X f k :=
 ⟨h.tree.elim fun T e => ⟨T, e.1, e.2.1, e.2.2.1, fun x => (e.2.2.2 x).trans (hk x).symm⟩, fun x hx => h.sub x ((hk x).1 hx), h.same, hn⟩
end
end
section
open Go.RowKit PT
section
variable {f0 f : UInt64 → UInt64} {X l : List UInt64}
theorem keyF_same {x : UInt64} (h : f x = f0 x) : keyF szU f x = keyF szU f0 x := by unfold keyF; rw [h]
theorem find_same {p q : UInt64 → Bool} : ∀ {k : List UInt64}, (∀ x ∈ k, p x = q x) → k.find? p = k.find? q
 | [], _ => rfl
 | x :: k, h => by
   rw [List.find?_cons, List.find?_cons, h x (by simp), find_same (fun y hy => h y (by simp [hy]))]
theorem Stands.after (hX : Spot 4800 X) (h : Stands f0 X f l) (k : UInt64 × UInt64) : ∃ d, AftR szU f k (f 32) 0 (((sortF (cmpF f0) l).find? (fun y => ltK k (keyF szU f0 y))).getD 0) d := by
 obtain ⟨T, _, h2, _, h4⟩ := h.told hX
 have hm : ∀ x ∈ T.list, f x = f0 x := fun x hx => h.same x (h.sub x (by rw [h2] at hx; exact mem_sortF.1 hx))
 obtain ⟨d, hd⟩ := aft_rep (k := k) (best := 0) h4 (by rw [h2]; exact sortF_sorted f h.nodup)
 rw [find_same (fun x hx => by rw [keyF_same (hm x hx)] : ∀ x ∈ T.list, ltK k (keyF szU f x) = ltK k (keyF szU f0 x)), h2, h.list] at hd
 exact ⟨d, hd⟩
theorem Stands.checks (hX : Spot 4800 X) (h : Stands f0 X f l) {k : List UInt64} (hk : k.Nodup) (hz : ∀ x ∈ k, x ≠ 0) : ∃ T : Tr, T.Heap mixU ∧ T.list = sortF (cmpF f) k ∧ (checkT f T = true ↔ ∀ x, x ∈ k ↔ x ∈ l) := by
 obtain ⟨T, h1, h2⟩ := Tr.exists_tree mixU mixU_inj _ (sortF (cmpF f) k) (Nat.le_refl _) (nodup_sortF hk)
 obtain ⟨t, h3, h4, _, h5⟩ := h.told hX
 refine ⟨T, h1, h2, ?_⟩
 rw [checkT_is h5 h3 h1 (by rw [h4]; exact nodup_sortF h.nodup) (fun x hx => hz x (by rw [h2] at hx; exact mem_sortF.1 hx)), h2, h4]
 constructor
 ·intro e x
  rw [← mem_sortF (cf := cmpF f) (l := k), e, mem_sortF]
 ·intro e
  exact sortF_eq hk (sortF_sorted f h.nodup) (fun x => by rw [mem_sortF, e x])
end
end
section
open Go.RowKit PT
def headU (c : UInt64) : UInt64 := 64 + 416 * c + 8
theorem Word8_any (w : World) (c : UInt64) (hc : c.toNat < 8) : Calls Tryz.prog 195 #[.int .i64 (c.toNat : Int), .int .u64 8] w fun e w' => e = .returned (.tuple #[.int .u64 ((headU c).toNat : Int), .bool true]) ∧ Keeps Nil w w' := by
 have hd1 : decide ((c.toNat : Int) < 0) = false := decide_eq_false (by omega)
 have hd2 : decide ((8 : Int) ≤ (c.toNat : Int)) = false := decide_eq_false (by omega)
 have q_c : IntKind.u64.wrap (c.toNat : Int) = (c.toNat : Int) := IntWalk.u64_in _ (by have := c.toNat_lt; omega)
 clear hc
 have hst := qH (Step.refl Nil w)
 go_enter Tryz.func195, Tryz.ntmps195
 obtain ⟨y1, zy1⟩ : ∃ y : UInt64, y = 416 * c := ⟨_, rfl⟩
 have q1 : IntKind.u64.wrap (416 * (c.toNat : Int)) = (y1.toNat : Int) := by rw [zy1]; exact u64_mul 416 c
 replace zy1 := qH zy1
 obtain ⟨y2, zy2⟩ : ∃ y : UInt64, y = 64 + y1 := ⟨_, rfl⟩
 have q2 : IntKind.u64.wrap (64 + (y1.toNat : Int)) = (y2.toNat : Int) := by rw [zy2]; exact u64_add 64 y1
 replace zy2 := qH zy2
 obtain ⟨y3, zy3⟩ : ∃ y : UInt64, y = y2 + 8 := ⟨_, rfl⟩
 have q3 : IntKind.u64.wrap ((y2.toNat : Int) + 8) = (y3.toNat : Int) := by rw [zy3]; exact u64_add y2 8
 replace zy3 := qH zy3
 go_wp2_with fail
 go_ret2
 exact ⟨by rw [show headU c = y3 by rw [zy3.out, zy2.out, zy1.out]; rfl]; rfl, hst.out.keeps⟩
theorem cget_any {a : Option Addr} {f : UInt64 → UInt64} {N : Nat} {w : World} (hT0 : Reads (.pointer a) f N w) (c : UInt64) (hc : c.toNat < 8) : Calls Tryz.prog 186 #[.pointer a, .int .i64 (c.toNat : Int), .int .u64 8] w fun e w' => e = .returned (.int .u64 ((f (headU c)).toNat : Int)) ∧ Keeps Nil w w' := by
 have hT := qH hT0
 clear hT0
 obtain ⟨h, hh⟩ : ∃ h, h = headU c := ⟨_, rfl⟩
 have HH := qH hh
 have HC := qH hc
 clear hh hc
 have hst := qH (Step.refl Nil w)
 go_enter Tryz.func186, Tryz.ntmps186
 go_wp2_with fail
 refine (Word8_any _ c HC.out).mono ?_
 rintro _ W1 ⟨rfl, kn⟩
 rw [← HH.out]
 replace hst := sN hst kn
 clear kn
 go_wp2_with fail
 refine ((hT.out.keeps hst.out.keeps).loadC h _ rfl).mono ?_
 rintro _ W2 ⟨rfl, kn⟩
 replace hst := sN hst kn
 clear kn
 go_wp2_with fail
 go_ret
 exact ⟨by rw [← HH.out]; rfl, hst.out.keeps⟩
theorem cHead_any {a : Option Addr} {f : UInt64 → UInt64} {N : Nat} {w : World} (hT0 : Reads (.pointer a) f N w) (c : UInt64) (hc : c.toNat < 8) : Calls Tryz.prog 171 #[.pointer a, .int .i64 (c.toNat : Int)] w fun e w' => e = .returned (.int .u64 ((f (headU c)).toNat : Int)) ∧ Keeps Nil w w' := by
 have hT := qH hT0
 have HC := qH hc
 clear hT0 hc
 have hst := qH (Step.refl Nil w)
 go_enter Tryz.func171, Tryz.ntmps171
 go_wp2_with fail
 refine (cget_any (hT.out.keeps hst.out.keeps) c HC.out).mono ?_
 rintro _ W1 ⟨rfl, kn⟩
 replace hst := sN hst kn
 clear kn
 go_wp2_with fail
 go_ret
 exact ⟨rfl, hst.out.keeps⟩
theorem cset_any {w : World} {t n : Nat} {S : Nat → Prop} {f : UInt64 → UInt64} (hT0 : TxF w t f n S) (c v : UInt64) (hc : c.toNat < 8) : Calls Tryz.prog 187 #[.pointer (some ⟨t, 0, none⟩), .int .i64 (c.toNat : Int), .int .u64 8, .int .u64 (v.toNat : Int)] w fun e w' => e = .returned (.int .i64 0) ∧ ∃ S', TxF w' t (PT.stF n f (headU c) v) n S' ∧ Step S S' w w' := by
 have hT := qH hT0
 clear hT0
 obtain ⟨h, hh⟩ : ∃ h, h = headU c := ⟨_, rfl⟩
 have HH := qH hh
 have HC := qH hc
 clear hh hc
 have hst := qH (Step.refl S w)
 go_enter Tryz.func187, Tryz.ntmps187
 go_wp2_with fail
 refine (Word8_any _ c HC.out).mono ?_
 rintro _ W1 ⟨rfl, kn⟩
 rw [← HH.out]
 replace hst := sN hst kn
 replace hT := qH (hT.out.nil kn)
 clear kn
 go_wp2_with fail
 refine (hT.out.store h v _ _ rfl rfl).mono ?_
 rintro _ W2 ⟨rfl, S1, hT2, kn⟩
 replace hst := sT hst kn
 replace hT := qH hT2
 clear kn hT2
 go_wp2_with fail
 go_ret
 exact ⟨rfl, _, by rw [← HH.out]; exact hT.out, hst.out⟩
theorem cPoint_any {w : World} {t n : Nat} {S : Nat → Prop} {f : UInt64 → UInt64} (hT0 : TxF w t f n S) (c v : UInt64) (hc : c.toNat < 8) : Calls Tryz.prog 172 #[.pointer (some ⟨t, 0, none⟩), .int .i64 (c.toNat : Int), .int .u64 (v.toNat : Int)] w fun e w' => e = .returned (.tuple #[]) ∧ ∃ S', TxF w' t (PT.stF n f (headU c) v) n S' ∧ Step S S' w w' := by
 have hT := qH hT0
 have HC := qH hc
 clear hT0 hc
 have hst := qH (Step.refl S w)
 go_enter Tryz.func172, Tryz.ntmps172
 go_wp2_with fail
 refine (cset_any hT.out c v HC.out).mono ?_
 rintro _ W1 ⟨rfl, S1, hT2, kn⟩
 replace hst := sT hst kn
 replace hT := qH hT2
 clear kn hT2
 go_wp2_with fail
 go_end0
 exact ⟨rfl, _, hT.out, hst.out⟩
def linkF (n : Nat) (f : UInt64 → UInt64) (c off : UInt64) : UInt64 → UInt64 :=
 PT.stF n (if f (headU c) = 0 then PT.stF n (PT.stF n f (off + 16) (f (headU c))) (off + 24) 0 else PT.stF n (PT.stF n (PT.stF n f (off + 16) (f (headU c))) (off + 24) 0) (f (headU c) + 24) off) (headU c) off
theorem Link_any {w : World} {t n : Nat} {S : Nat → Prop} {f : UInt64 → UInt64} (hT0 : TxF w t f n S) (c off : UInt64) (hc : c.toNat < 8) : Calls Tryz.prog 123 #[.pointer (some ⟨t, 0, none⟩), .int .i64 (c.toNat : Int), .int .u64 (off.toNat : Int)] w fun e w' => e = .returned (.tuple #[]) ∧ ∃ S', TxF w' t (linkF n f c off) n S' ∧ Step S S' w w' := by
 have hT := qH hT0
 have HC := qH hc
 obtain ⟨fi, hfi⟩ : ∃ x, x = f (headU c) := ⟨_, rfl⟩
 have HFI := qH hfi
 clear hT0 hc hfi
 by_cases hz : fi = 0
 ·have HZ := qH hz
  clear hz
  have hst := qH (Step.refl S w)
  go_enter Tryz.func123, Tryz.ntmps123
  go_wp2_with fail
  refine (cHead_any hT.out.reads c HC.out).mono ?_
  rintro _ W1 ⟨rfl, kn⟩
  rw [← HFI.out]
  replace hst := sN hst kn
  replace hT := qH (hT.out.nil kn)
  clear kn
  obtain ⟨y1, zy1⟩ : ∃ y : UInt64, y = off + 16 := ⟨_, rfl⟩
  have q1 : IntKind.u64.wrap ((off.toNat : Int) + 16) = (y1.toNat : Int) := by rw [zy1]; exact u64_add off 16
  replace zy1 := qH zy1
  go_wp2_with fail
  refine (hT.out.store y1 fi _ _ rfl rfl).mono ?_
  rintro _ W2 ⟨rfl, S1, hT2, kn⟩
  replace hst := sT hst kn
  replace hT := qH hT2
  clear kn hT2
  obtain ⟨y2, zy2⟩ : ∃ y : UInt64, y = off + 24 := ⟨_, rfl⟩
  have q2 : IntKind.u64.wrap ((off.toNat : Int) + 24) = (y2.toNat : Int) := by rw [zy2]; exact u64_add off 24
  replace zy2 := qH zy2
  go_wp2_with fail
  refine (hT.out.store y2 0 _ _ rfl rfl).mono ?_
  rintro _ W3 ⟨rfl, S2, hT2, kn⟩
  replace hst := sT hst kn
  replace hT := qH hT2
  clear kn hT2
  have d1 : (((fi.toNat : Int) : Int) != (0 : Int)) = false := (same_u64 (a := fi) (b := 0) (HZ.out)).1
  go_wp2_with fail
  refine (cPoint_any hT.out c off HC.out).mono ?_
  rintro _ W4 ⟨rfl, S3, hT2, kn⟩
  replace hst := sT hst kn
  replace hT := qH hT2
  clear kn hT2
  go_wp2_with fail
  go_end0
  refine ⟨rfl, _, ?_, hst.out⟩
  have h9 := hT.out
  rw [zy1.out, zy2.out] at h9
  unfold linkF
  rw [← HFI.out, if_pos HZ.out]
  exact h9
 ·have HZ := qH hz
  clear hz
  have hst := qH (Step.refl S w)
  go_enter Tryz.func123, Tryz.ntmps123
  go_wp2_with fail
  refine (cHead_any hT.out.reads c HC.out).mono ?_
  rintro _ W1 ⟨rfl, kn⟩
  rw [← HFI.out]
  replace hst := sN hst kn
  replace hT := qH (hT.out.nil kn)
  clear kn
  obtain ⟨y1, zy1⟩ : ∃ y : UInt64, y = off + 16 := ⟨_, rfl⟩
  have q1 : IntKind.u64.wrap ((off.toNat : Int) + 16) = (y1.toNat : Int) := by rw [zy1]; exact u64_add off 16
  replace zy1 := qH zy1
  go_wp2_with fail
  refine (hT.out.store y1 fi _ _ rfl rfl).mono ?_
  rintro _ W2 ⟨rfl, S1, hT2, kn⟩
  replace hst := sT hst kn
  replace hT := qH hT2
  clear kn hT2
  obtain ⟨y2, zy2⟩ : ∃ y : UInt64, y = off + 24 := ⟨_, rfl⟩
  have q2 : IntKind.u64.wrap ((off.toNat : Int) + 24) = (y2.toNat : Int) := by rw [zy2]; exact u64_add off 24
  replace zy2 := qH zy2
  go_wp2_with fail
  refine (hT.out.store y2 0 _ _ rfl rfl).mono ?_
  rintro _ W3 ⟨rfl, S2, hT2, kn⟩
  replace hst := sT hst kn
  replace hT := qH hT2
  clear kn hT2
  have d1 : (((fi.toNat : Int) : Int) != (0 : Int)) = true := (unlike_u64 (a := fi) (b := 0) (HZ.out)).1
  obtain ⟨y3, zy3⟩ : ∃ y : UInt64, y = fi + 24 := ⟨_, rfl⟩
  have q3 : IntKind.u64.wrap ((fi.toNat : Int) + 24) = (y3.toNat : Int) := by rw [zy3]; exact u64_add fi 24
  replace zy3 := qH zy3
  go_wp2_with fail
  refine (hT.out.store y3 off _ _ rfl rfl).mono ?_
  rintro _ W4 ⟨rfl, S3, hT2, kn⟩
  replace hst := sT hst kn
  replace hT := qH hT2
  clear kn hT2
  go_wp2_with fail
  refine (cPoint_any hT.out c off HC.out).mono ?_
  rintro _ W5 ⟨rfl, S4, hT2, kn⟩
  replace hst := sT hst kn
  replace hT := qH hT2
  clear kn hT2
  go_wp2_with fail
  go_end0
  refine ⟨rfl, _, ?_, hst.out⟩
  have h9 := hT.out
  rw [zy1.out, zy2.out, zy3.out] at h9
  unfold linkF
  rw [← HFI.out, if_neg HZ.out]
  exact h9
end
end Go.Proofs.YtefpbljekfkefaaGreat
