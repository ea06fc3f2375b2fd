/- TreeZ, Awake07: merged. -/
import Derived.Test.YtefpbljekfkefaaGreatM24
import Derived.Test.YtefpbljekfkefaaGreatM26
import Derived.Test.YtefpbljekfkefaaGreatM25
/- The tree of free blocks: what stands, what is put in and taken out, in plain laws. -/
namespace Go.Proofs.YtefpbljekfkefaaGreat
open Go.RowKit PT

/-! ### where the free blocks stand -/
theorem mem_freeOf {L : List BlockV} {x : UInt64} (h : x ∈ freeOf L) : ∃ (i : Nat) (b : BlockV), L[i]? = some b ∧ b.off = x ∧ b.tag.used = false := by
  unfold freeOf at h
  obtain ⟨b, hb, hx⟩ := List.mem_map.1 h
  obtain ⟨h1, h2⟩ := List.mem_filter.1 hb
  obtain ⟨i, hi, e⟩ := List.getElem_of_mem h1
  exact ⟨i, b, (List.getElem?_eq_getElem hi).trans (congrArg some e), hx, by simpa using h2⟩
theorem RowL.nodup {L : List BlockV} {e : UInt64} (h : RowL L e) : (L.map (·.off)).Nodup := by
  unfold List.Nodup
  rw [List.pairwise_iff_getElem]
  intro i j hi hj hij he
  rw [List.length_map] at hi hj
  rw [List.getElem_map, List.getElem_map] at he
  have := h.same (List.getElem?_eq_getElem hi) (List.getElem?_eq_getElem hj) he
  omega
theorem free_good (ps : List PieceV) : Spot 4800 (freeL ps) ∧ (freeL ps).Nodup ∧ ∀ x ∈ freeL ps, 3776 ≤ x.toNat := by
  obtain ⟨L, _, hwL, hrow, _, _, _, _⟩ := laid_walk (e := 4800) (by decide) (ps.take 20)
  have hfl : freeL ps = freeOf L := by unfold freeL layF; rw [hwL]
  rw [hfl]
  have e0 : (4800 : UInt64).toNat = 4800 := rfl
  have h0 : ∀ x ∈ freeOf L, x.toNat % 16 = 0 ∧ 3776 ≤ x.toNat ∧ x.toNat + 48 ≤ 4800 := fun x hx => by
    obtain ⟨i, b, hb, rfl, _⟩ := mem_freeOf hx
    obtain ⟨_, h2, h3, h4, h5, h6⟩ := hrow.at_ i b hb
    exact ⟨h4, h5, by omega⟩
  refine ⟨⟨fun x hx => (h0 x hx).1, fun x hx => by have := (h0 x hx).2.1; omega, fun x hx => (h0 x hx).2.2, fun x hx y hy he => ?_, by decide⟩, ?_, fun x hx => (h0 x hx).2.1⟩
  · have := (h0 x hx).1
    obtain ⟨i, b, hb, rfl, _⟩ := mem_freeOf hx
    obtain ⟨j, c, hc, rfl, _⟩ := mem_freeOf hy
    have hb3 := (hrow.at_ i b hb).2.2.1
    have hc3 := (hrow.at_ j c hc).2.2.1
    by_cases hij : i < j
    · have := hrow.below (j - i - 1) i hb (by rw [show i + (j - i - 1) + 1 = j by omega]; exact hc)
      omega
    · by_cases hji : j < i
      · have := hrow.below (i - j - 1) j hc (by rw [show j + (i - j - 1) + 1 = i by omega]; exact hb)
        omega
      · obtain rfl : i = j := by omega
        rw [hb] at hc; cases hc; omega
  · unfold freeOf
    exact hrow.nodup.sublist (List.filter_sublist.map _)
theorem free_short (ps : List PieceV) : (freeL ps).length ≤ 100 := by
  obtain ⟨L, _, hwL, hrow, hne, _, _, _⟩ := laid_walk (e := 4800) (by decide) (ps.take 20)
  have hfl : freeL ps = freeOf L := by unfold freeL layF; rw [hwL]
  have h := hrow.short hne
  have e0 : (4800 : UInt64).toNat = 4800 := rfl
  have h2 : (freeOf L).length ≤ L.length := by unfold freeOf; rw [List.length_map]; exact List.length_filter_le _ _
  rw [hfl]
  omega

/-! ### the tree of some blocks stands in words -/
structure Stands (f0 : UInt64 → UInt64) (X : List UInt64) (f : UInt64 → UInt64) (l : List UInt64) : Prop where
  tree : ∃ T : Tr, T.Rep f (f 32) ∧ T.Heap mixU ∧ Sorted (ltF szU f0) T.list ∧ ∀ x, x ∈ T.list ↔ x ∈ l
  sub : ∀ x ∈ l, x ∈ X
  same : ∀ x ∈ X, f x = f0 x
  nodup : l.Nodup
section
variable {f0 f : UInt64 → UInt64} {X l : List UInt64} (hX : Spot 4800 X) (hlow : ∀ x ∈ X, 3776 ≤ x.toNat)
include hX hlow
theorem low8 {x : UInt64} (hx : x ∈ X) : x + 8 ≠ 32 ∧ x + 16 ≠ 32 ∧ x ≠ 32 := by
  have h1 := hX.n8 hx
  have h2 := hX.n16 hx
  have h3 := hlow x hx
  refine ⟨fun e => ?_, fun e => ?_, fun e => ?_⟩
  · rw [e] at h1; simp at h1; omega
  · rw [e] at h2; simp at h2; omega
  · rw [e] at h3; simp at h3
theorem plant_rep {g : UInt64 → UInt64} {T : Tr} {r : UInt64} (h : T.Rep g r) (hT : ∀ x ∈ T.list, x ∈ X) : T.Rep (stF 4800 g 32 r) (stF 4800 g 32 r 32) := by
  have e : stF 4800 g 32 r 32 = r := by rw [stF_in _ _ (by decide) (by decide), upd_same]
  rw [e]
  exact Tr.rep_frame h (fun x hx => ⟨stF_other _ _ _ (low8 hX hlow (hT x hx)).1, stF_other _ _ _ (low8 hX hlow (hT x hx)).2.1⟩)
theorem plant_same {g : UInt64 → UInt64} {r x : UInt64} (hx : x ∈ X) : stF 4800 g 32 r x = g x := stF_other _ _ _ (low8 hX hlow hx).2.2
theorem Stands.start {g : UInt64 → UInt64} (hs : ∀ x ∈ X, g x = f0 x) : Stands f0 X (stF 4800 g 32 0) [] :=
  ⟨⟨.nil, plant_rep hX hlow (show (Tr.nil).Rep g 0 from rfl) (by simp [Tr.list]), trivial, by simp [Sorted, Tr.list], by simp [Tr.list]⟩, by simp, fun x hx => by rw [plant_same hX hlow hx]; exact hs x hx, by simp⟩
theorem Stands.put (h : Stands f0 X f l) {off : UInt64} (ho : off ∈ X) (hn : off ∉ l) : ∃ f' r, InsR szU mixU 4800 f (f 32) off f' r ∧ Stands f0 X (stF 4800 f' 32 r) (l ++ [off]) := by
  obtain ⟨T, h1, h2, h3, h4⟩ := h.tree
  have hT : ∀ x ∈ T.list, x ∈ X := fun x hx => h.sub x ((h4 x).1 hx)
  have hs : Sorted (ltF szU f) T.list := sorted_same h3 (fun x hx => h.same x (hT x hx))
  have hn' : off ∉ T.list := fun e => hn ((h4 off).1 e)
  obtain ⟨f', r, i1, i2, i3⟩ := insert_rep (sz := szU) (mix := mixU) hX ho h1 hT (hs.nodup (ltF_ord szU f)) hn'
  have hsub : ∀ y ∈ off :: T.list, y ∈ X := fun y hy => by
    rcases List.mem_cons.1 hy with rfl | hy
    · exact ho
    · exact hT y hy
  have hm : ∀ x, x ∈ (Tr.insert mixU (ltF szU f) off T).list ↔ x ∈ l ++ [off] := fun x => by
    rw [Tr.mem_insert (ltF_ord szU f) hs hn', List.mem_append, List.mem_singleton, ← h4 x]
    exact or_comm
  have hl : (Tr.insert mixU (ltF szU f) off T).list = _ := Tr.insert_list (m := mixU) (ltF_ord szU f) hs hn'
  have hsr : Sorted (ltF szU f) (Tr.insert mixU (ltF szU f) off T).list := by rw [hl]; exact hs.put (ltF_ord szU f) hn'
  have hXX : ∀ x ∈ (Tr.insert mixU (ltF szU f) off T).list, x ∈ X := fun x hx => by
    rcases List.mem_append.1 ((hm x).1 hx) with h9 | h9
    · exact h.sub x h9
    · rw [List.mem_singleton.1 h9]; exact ho
  refine ⟨f', r, i1, ⟨⟨_, plant_rep hX hlow i2 hXX, Tr.Heap.insert mixU_inj (ltF_ord szU f) h2 hs hn', ?_, hm⟩, fun x hx => ?_, fun x hx => ?_, ?_⟩⟩
  · exact sorted_same hsr (fun x hx => (h.same x (hXX x hx)).symm)
  · rcases List.mem_append.1 hx with h9 | h9
    · exact h.sub x h9
    · rw [List.mem_singleton.1 h9]; exact ho
  · rw [plant_same hX hlow hx, hX.tag i3 hsub hx]; exact h.same x hx
  · exact List.nodup_append.2 ⟨h.nodup, by simp, fun a ha b hb e => hn (by rw [List.mem_singleton] at hb; rw [← hb, ← e]; exact ha)⟩
theorem Stands.cut (h : Stands f0 X f l) (off : UInt64) : ∃ f' r, RemR szU mixU 4800 f (f 32) off f' r (decide (off ∈ l)) ∧ Stands f0 X (if decide (off ∈ l) = true then stF 4800 f' 32 r else f') (l.filter (fun z => z != off)) := by
  obtain ⟨T, h1, h2, h3, h4⟩ := h.tree
  have hT : ∀ x ∈ T.list, x ∈ X := fun x hx => h.sub x ((h4 x).1 hx)
  have hs : Sorted (ltF szU f) T.list := sorted_same h3 (fun x hx => h.same x (hT x hx))
  obtain ⟨f', r, i1, i2, i3⟩ := remove_rep (sz := szU) (mix := mixU) (off := off) hX h1 hT hs
  have hd : decide (off ∈ T.list) = decide (off ∈ l) := by rw [decide_eq_decide]; exact h4 off
  rw [hd] at i1
  have hl := Tr.remove_list (m := mixU) (ltF_ord szU f) (x := off) hs
  have hm : ∀ x, x ∈ (Tr.remove mixU (ltF szU f) off T).list ↔ x ∈ l.filter (fun z => z != off) := fun x => by
    rw [Tr.mem_remove (ltF_ord szU f) hs, List.mem_filter, ← h4 x, bne_iff_ne]
  have hXX : ∀ x ∈ (Tr.remove mixU (ltF szU f) off T).list, x ∈ X := fun x hx => h.sub x ((List.mem_filter.1 ((hm x).1 hx)).1)
  have hsr : Sorted (ltF szU f) (Tr.remove mixU (ltF szU f) off T).list := by rw [hl]; exact hs.filter _
  have hhp := Tr.Heap.remove mixU_inj (ltF_ord szU f) (x := off) h2 hs
  refine ⟨f', r, i1, ?_⟩
  have hsame : ∀ x ∈ X, f' x = f0 x := fun x hx => by rw [hX.tag i3 hT hx]; exact h.same x hx
  have hnd := h.nodup.filter (fun z => z != off)
  have hsb : ∀ x ∈ l.filter (fun z => z != off), x ∈ X := fun x hx => h.sub x (List.mem_filter.1 hx).1
  have hsf : Sorted (ltF szU f0) (Tr.remove mixU (ltF szU f) off T).list := sorted_same hsr (fun x hx => (h.same x (hXX x hx)).symm)
  by_cases hin : off ∈ l
  · rw [if_pos (decide_eq_true hin)]
    exact ⟨⟨_, plant_rep hX hlow i2 hXX, hhp, hsf, hm⟩, hsb, fun x hx => by rw [plant_same hX hlow hx]; exact hsame x hx, hnd⟩
  · rw [if_neg (by simpa using hin)]
    have hnT : off ∉ T.list := fun e => hin ((h4 off).1 e)
    have hll : (Tr.remove mixU (ltF szU f) off T).list = T.list := by
      rw [hl]
      exact List.filter_eq_self.2 (fun z hz => by rw [bne_iff_ne]; exact fun e => hnT (by rw [← e]; exact hz))
    have hTT : Tr.remove mixU (ltF szU f) off T = T := Tr.Heap.unique hhp h2 hll (by rw [hll]; exact hs.nodup (ltF_ord szU f))
    rw [hTT] at i2 hm hsf
    have e32 : f' 32 = f 32 := i3 32 (fun x hx => ⟨(low8 hX hlow (hT x hx)).1.symm, (low8 hX hlow (hT x hx)).2.1.symm⟩)
    have er : r = f 32 := by rw [Tr.root_rep i2, Tr.root_rep h1]
    exact ⟨⟨T, by rw [e32, ← er]; exact i2, h2, hsf, hm⟩, hsb, hsame, hnd⟩
omit hlow in
/-- Check, All: what is told of it -/
theorem Stands.told (h : Stands f0 X f l) : ∃ T : Tr, T.Heap mixU ∧ T.list = sortF (cmpF f) l ∧ checkT f T = true ∧ T.Rep f (f 32) := by
  obtain ⟨T, h1, h2, h3, h4⟩ := h.tree
  have hT : ∀ x ∈ T.list, x ∈ X := fun x hx => h.sub x ((h4 x).1 hx)
  have hs : Sorted (ltF szU f) T.list := sorted_same h3 (fun x hx => h.same x (hT x hx))
  exact ⟨T, h2, (sortF_eq h.nodup hs h4).symm, (checkT_rep (fun x hx => hX.nz (hT x hx))).2 h1, h1⟩
omit hX hlow in
theorem Stands.list (h : Stands f0 X f l) : sortF (cmpF f) l = sortF (cmpF f0) l := by
  obtain ⟨T, h1, h2, h3, h4⟩ := h.tree
  have hT : ∀ x ∈ T.list, x ∈ X := fun x hx => h.sub x ((h4 x).1 hx)
  have hs : Sorted (ltF szU f) T.list := sorted_same h3 (fun x hx => h.same x (hT x hx))
  rw [sortF_eq h.nodup hs h4, sortF_eq h.nodup h3 h4]
omit hX hlow in
theorem Stands.root (h : Stands f0 X f l) : f 32 = 0 ↔ l = [] := by
  obtain ⟨T, h1, h2, h3, h4⟩ := h.tree
  constructor
  · intro e
    rw [e] at h1
    have := Tr.rep_zero h1
    subst this
    exact List.eq_nil_iff_forall_not_mem.2 (fun x hx => by have := (h4 x).2 hx; simp [Tr.list] at this)
  · rintro rfl
    cases T with
    | nil => exact h1
    | node l x r => have := (h4 x).1 (by simp [Tr.list]); simp at this
omit hX hlow in
theorem Stands.mono (h : Stands f0 X f l) {k : List UInt64} (hk : ∀ x, x ∈ k ↔ x ∈ l) (hn : k.Nodup) : Stands f0 X f k :=
  ⟨h.tree.elim fun T e => ⟨T, e.1, e.2.1, e.2.2.1, fun x => (e.2.2.2 x).trans (hk x).symm⟩, fun x hx => h.sub x ((hk x).1 hx), h.same, hn⟩
theorem Stands.build {g : UInt64 → UInt64} (hg : ∀ x ∈ X, g x = f0 x) (hl : ∀ x ∈ l, x ∈ X) (hn : l.Nodup) : ∃ T : Tr, T.Heap mixU ∧ T.list = sortF (cmpF g) l ∧ Stands f0 X (stF 4800 (stAll 4800 g (putsT T)) 32 T.root) l := by
  obtain ⟨T, h1, h2⟩ := Tr.exists_tree mixU mixU_inj _ (sortF (cmpF g) l) (Nat.le_refl _) (nodup_sortF hn)
  have hT : ∀ x ∈ T.list, x ∈ X := fun x hx => hl x (by rw [h2] at hx; exact mem_sortF.1 hx)
  have hs : Sorted (ltF szU g) T.list := by rw [h2]; exact sortF_sorted g hn
  refine ⟨T, h1, h2, ⟨⟨T, plant_rep hX hlow (stAll_rep hX T g hT (by rw [h2]; exact nodup_sortF hn)) hT, h1, sorted_same hs (fun x hx => (hg x (hT x hx)).symm), fun x => by rw [h2]; exact mem_sortF⟩, hl, fun x hx => ?_, hn⟩⟩
  rw [plant_same hX hlow hx, hX.tag (stAll_out T g) hT hx]
  exact hg x hx
end
end Go.Proofs.YtefpbljekfkefaaGreat

/- carracklaw07: awake. -/
namespace Go.Proofs.YtefpbljekfkefaaGreat
open Go.RowKit PT

theorem box1_view {S : Nat → Prop} {w : World} {B : Nat} {T : TypeId} {x : UInt64} (h : Bx w S B #[.int .u64 (x.toNat : Int)] T) : View kU S w (.slice (some ⟨B, 0, none⟩) 1 1) [x] :=
  .inr ⟨B, 0, 1, rfl, Nat.le_refl _, by decide, h.lt, h.2, fun i j hj hi => by
    have hj' : j = 0 := by have : j < 1 := hj; omega
    have hi' : i = 0 := by have : i < 1 := hi; omega
    subst hj' hi'
    simpa using h.cell 0 _ rfl⟩
section
variable {f0 f : UInt64 → UInt64} {X l : List UInt64}
theorem Stands.rootIn (h : Stands f0 X f l) (hn : l ≠ []) : f 32 ∈ l := by
  obtain ⟨T, h1, h2, h3, h4⟩ := h.tree
  cases T with
  | nil =>
    refine absurd ((h.root).1 h1) hn
  | node a x b =>
    rw [h1.1]
    exact (h4 x).1 (by simp [Tr.list])
theorem keyF_same {x : UInt64} (h : f x = f0 x) : keyF szU f x = keyF szU f0 x := by unfold keyF; rw [h]
theorem find_same {p q : UInt64 → Bool} : ∀ {k : List UInt64}, (∀ x ∈ k, p x = q x) → k.find? p = k.find? q
  | [], _ => rfl
  | x :: k, h => by
    rw [List.find?_cons, List.find?_cons, h x (by simp), find_same (fun y hy => h y (by simp [hy]))]
theorem Stands.after (hX : Spot 4800 X) (h : Stands f0 X f l) (k : UInt64 × UInt64) : ∃ d, AftR szU f k (f 32) 0 (((sortF (cmpF f0) l).find? (fun y => ltK k (keyF szU f0 y))).getD 0) d := by
  obtain ⟨T, _, h2, _, h4⟩ := h.told hX
  have hm : ∀ x ∈ T.list, f x = f0 x := fun x hx => h.same x (h.sub x (by rw [h2] at hx; exact mem_sortF.1 hx))
  obtain ⟨d, hd⟩ := aft_rep (k := k) (best := 0) h4 (by rw [h2]; exact sortF_sorted f h.nodup)
  rw [find_same (fun x hx => by rw [keyF_same (hm x hx)] : ∀ x ∈ T.list, ltK k (keyF szU f x) = ltK k (keyF szU f0 x)), h2, h.list] at hd
  exact ⟨d, hd⟩
/-- Check tells whether it is the tree of just some -/
theorem Stands.checks (hX : Spot 4800 X) (h : Stands f0 X f l) {k : List UInt64} (hk : k.Nodup) (hz : ∀ x ∈ k, x ≠ 0) : ∃ T : Tr, T.Heap mixU ∧ T.list = sortF (cmpF f) k ∧ (checkT f T = true ↔ ∀ x, x ∈ k ↔ x ∈ l) := by
  obtain ⟨T, h1, h2⟩ := Tr.exists_tree mixU mixU_inj _ (sortF (cmpF f) k) (Nat.le_refl _) (nodup_sortF hk)
  obtain ⟨t, h3, h4, _, h5⟩ := h.told hX
  refine ⟨T, h1, h2, ?_⟩
  rw [checkT_is h5 h3 h1 (by rw [h4]; exact nodup_sortF h.nodup) (fun x hx => hz x (by rw [h2] at hx; exact mem_sortF.1 hx)), h2, h4]
  constructor
  · intro e x
    rw [← mem_sortF (cf := cmpF f) (l := k), e, mem_sortF]
  · intro e
    exact sortF_eq hk (sortF_sorted f h.nodup) (fun x => by rw [mem_sortF, e x])
end
theorem aw7_1 : freeL [] = [3776] := by kernel_rfl
theorem aw7_2 : szU (layF [] 3776) = 1024 := by kernel_rfl

theorem sort1 (cf : UInt64 → UInt64 → Int) (x : UInt64) : sortF cf [x] = [x] := by unfold sortF; simp
theorem sort0 (cf : UInt64 → UInt64 → Int) : sortF cf [] = [] := by unfold sortF; simp

set_option maxRecDepth 100000 in
set_option maxHeartbeats 4000000 in
theorem awake07 (w : World) : Calls Tryz.prog 43 #[] w fun e w' => e = .returned (.bool true) ∧ Keeps Nil w w' := by
  obtain ⟨X, hX⟩ : ∃ X : List UInt64, X = [3776] := ⟨_, rfl⟩
  obtain ⟨f0, hf0⟩ : ∃ g, g = layF [] := ⟨_, rfl⟩
  obtain ⟨P, hP⟩ : ∃ P, P = layAll (formW 4800) [] (([] : List PieceV).take 20) := ⟨_, rfl⟩
  obtain ⟨g1, _, g3⟩ := free_good []
  rw [aw7_1, ← hX] at g1 g3
  have hs : szU (f0 3776) = 1024 := by rw [hf0]; exact aw7_2
  have HQ := Lib.hid (And.intro g1 g3)
  have HF := Lib.hid (And.intro hf0 (And.intro hP (And.intro hX hs)))
  clear hX hf0 hP g1 g3 hs
  have hst := Lib.hid (Step.refl Nil w)
  go_enter Tryz.func43, Tryz.ntmps43
  go_wp2_with fail
  refine (laid07_any (Look.nil)).mono ?_
  rintro _ W1 ⟨t, ab, ao, ac, a2, c2, vf, S1, rfl, hT, hX, hF, kn⟩
  replace hT := Lib.hid hT
  replace hX := Lib.hid hX
  replace hT := hT.out
  replace hX := hX.out
  rw [aw7_1] at hF
  rw [← HF.out.1] at hT
  rw [← HF.out.2.1] at hX ⊢
  obtain ⟨af, cf, rfl, hfm⟩ := hF.val
  have hfm2 := Lib.hid hfm
  clear hfm
  replace hF := Lib.hid hF
  replace hT := Lib.hid hT
  replace hX := Lib.hid hX
  replace hst := Lib.hid (hst.out.trans kn)
  clear kn
  obtain ⟨W2, hW2⟩ : ∃ W, W = W1.alloc (.cells #[.slice (some ⟨ab, ao, none⟩) 600 ac, .slice a2 P.length c2] 71) := ⟨_, rfl⟩
  obtain ⟨B1, eB1⟩ : ∃ B, B = W1.heap.size := ⟨_, rfl⟩
  replace hW2 := Lib.hid hW2
  replace eB1 := Lib.hid eB1
  go_wp2_with fail
  rw [← hW2.out]
  try rw [← eB1.out]
  have k1 : Keeps Nil W1 W2 := by rw [hW2.out]; exact alloc_keeps _ _
  have e0B1 : B1 = W1.heap.size := by rw [eB1.out]
  have hB1 := Lib.hid (show Bx W2 S1 B1 #[.slice (some ⟨ab, ao, none⟩) 600 ac, .slice a2 P.length c2] 71 by rw [hW2.out]; exact Bx.new hT.out.lt _ _ e0B1)
  have gB1 := Lib.hid (show w.heap.size ≤ B1 by rw [e0B1]; exact hst.out.keeps.size)
  replace hst := Lib.hid (hst.out.nil k1)
  replace hX := Lib.hid (hX.out.keeps_nil k1)
  replace hF := Lib.hid (hF.out.keeps_nil k1)
  replace hT := Lib.hid (hT.out.nil k1)
  clear k1 e0B1
  obtain ⟨f1, ef1⟩ : ∃ g, g = PT.stF 4800 f0 32 0 := ⟨_, rfl⟩
  have hZ := Lib.hid (show Stands f0 X f1 [] by rw [ef1]; exact Stands.start HQ.out.1 HQ.out.2 (fun x _ => rfl))
  refine (plantF_any hT.out 0 _ rfl).mono ?_
  rintro _ W3 ⟨rfl, S1, hT2, kn⟩
  rw [← ef1] at hT2
  clear ef1
  replace hst := Lib.hid (hst.out.trans kn)
  replace hX := Lib.hid (hX.out.steps kn)
  replace hF := Lib.hid (hF.out.steps kn)
  replace hB1 := Lib.hid (hB1.out.steps kn)
  replace hT := Lib.hid hT2
  clear kn hT2
  have c_B1_0 := hB1.out.cell 0 _ rfl
  have f_B1_0 := hB1.out.frz 0
  have c_B1_1 := hB1.out.cell 1 _ rfl
  have f_B1_1 := hB1.out.frz 1
  have l_B1 := hB1.out.lt
  go_wp2_with fail
  clear c_B1_0 f_B1_0 c_B1_1 f_B1_1 l_B1
  obtain ⟨f2a, f2r, hIf2, hZf2⟩ := Stands.put HQ.out.1 HQ.out.2 hZ.out (off := 3776) (by rw [HF.out.2.2.1]; simp) (by simp)
  obtain ⟨f2, ef2⟩ : ∃ g, g = PT.stF 4800 f2a 32 f2r := ⟨_, rfl⟩
  rw [← ef2] at hZf2
  replace hZ := Lib.hid hZf2
  clear hZf2
  replace hIf2 := Lib.hid hIf2
  refine (Insert_any hIf2.out hT.out).mono ?_
  rintro _ W4 ⟨rfl, S2, hT2, kn⟩
  rw [← ef2] at hT2
  clear ef2 hIf2
  replace hst := Lib.hid (hst.out.trans kn)
  replace hX := Lib.hid (hX.out.steps kn)
  replace hF := Lib.hid (hF.out.steps kn)
  replace hB1 := Lib.hid (hB1.out.steps kn)
  replace hT := Lib.hid hT2
  clear kn hT2
  have c_B1_0 := hB1.out.cell 0 _ rfl
  have f_B1_0 := hB1.out.frz 0
  have c_B1_1 := hB1.out.cell 1 _ rfl
  have f_B1_1 := hB1.out.frz 1
  have l_B1 := hB1.out.lt
  go_wp2_with fail
  clear c_B1_0 f_B1_0 c_B1_1 f_B1_1 l_B1
  obtain ⟨dD1, hD1⟩ := Stands.after HQ.out.1 hZ.out (48, 0)
  have hRt := Lib.hid (show f2 32 = 3776 by have := hZ.out.rootIn (by simp); simpa using this)
  rw [show ([] ++ [3776] : List UInt64) = [3776] from rfl, sort1, List.find?_cons, show ltK (48, 0) (keyF szU f0 3776) = true by unfold keyF; rw [HF.out.2.2.2]; decide] at hD1
  replace hD1 := show AftR szU f2 (48, 0) (f2 32) 0 3776 _ from hD1
  replace hD1 := Lib.hid hD1
  refine (After_any hT.out.reads 48 0 hD1.out).mono ?_
  rintro _ W5 ⟨rfl, kn⟩
  clear hD1
  replace hst := Lib.hid (hst.out.nil kn)
  replace hX := Lib.hid (hX.out.keeps_nil kn)
  replace hF := Lib.hid (hF.out.keeps_nil kn)
  replace hT := Lib.hid (hT.out.nil kn)
  replace hB1 := Lib.hid (hB1.out.nil kn)
  clear kn
  have c_B1_0 := hB1.out.cell 0 _ rfl
  have f_B1_0 := hB1.out.frz 0
  have c_B1_1 := hB1.out.cell 1 _ rfl
  have f_B1_1 := hB1.out.frz 1
  have l_B1 := hB1.out.lt
  go_wp2_with fail
  clear c_B1_0 f_B1_0 c_B1_1 f_B1_1 l_B1
  refine (hRoot_any hT.out.reads).mono ?_
  rintro _ W6 ⟨rfl, kn⟩
  replace hst := Lib.hid (hst.out.nil kn)
  replace hX := Lib.hid (hX.out.keeps_nil kn)
  replace hF := Lib.hid (hF.out.keeps_nil kn)
  replace hT := Lib.hid (hT.out.nil kn)
  replace hB1 := Lib.hid (hB1.out.nil kn)
  clear kn
  have d1 : ((((f2 32).toNat : Int) : Int) == (3776 : Int)) = true := (same_u64 (a := (f2 32)) (b := 3776) (hRt.out)).2
  have c_B1_0 := hB1.out.cell 0 _ rfl
  have f_B1_0 := hB1.out.frz 0
  have c_B1_1 := hB1.out.cell 1 _ rfl
  have f_B1_1 := hB1.out.frz 1
  have l_B1 := hB1.out.lt
  obtain ⟨W7, hW7⟩ : ∃ W, W = W6.alloc (.cells #[.int .u64 3776] 25) := ⟨_, rfl⟩
  obtain ⟨B2, eB2⟩ : ∃ B, B = W6.heap.size := ⟨_, rfl⟩
  replace hW7 := Lib.hid hW7
  replace eB2 := Lib.hid eB2
  go_wp2_with fail
  clear c_B1_0 f_B1_0 c_B1_1 f_B1_1 l_B1
  rw [← hW7.out]
  try rw [← eB2.out]
  have k2 : Keeps Nil W6 W7 := by rw [hW7.out]; exact alloc_keeps _ _
  have e0B2 : B2 = W6.heap.size := by rw [eB2.out]
  have hB2 := Lib.hid (show Bx W7 S2 B2 #[.int .u64 3776] 25 by rw [hW7.out]; exact Bx.new hT.out.lt _ _ e0B2)
  have gB2 := Lib.hid (show w.heap.size ≤ B2 by rw [e0B2]; exact hst.out.keeps.size)
  have nB1B2 := Lib.hid (show B1 < B2 by rw [e0B2]; exact hB1.out.lt)
  replace hst := Lib.hid (hst.out.nil k2)
  replace hX := Lib.hid (hX.out.keeps_nil k2)
  replace hF := Lib.hid (hF.out.keeps_nil k2)
  replace hT := Lib.hid (hT.out.nil k2)
  replace hB1 := Lib.hid (hB1.out.nil k2)
  clear k2 e0B2
  obtain ⟨T1, hT1a, hT1b, hT1c⟩ := Stands.checks HQ.out.1 hZ.out (k := ([3776] : List UInt64)) (by simp) (by simp)
  have hT1d : checkT f2 T1 = true := hT1c.2 (fun x => by simp)
  replace hT1a := Lib.hid (And.intro hT1a (And.intro hT1b hT1d))
  clear hT1b hT1c hT1d
  refine (Check_any hT.out (box1_view (x := 3776) hB2.out) (by decide) hT1a.out.1 hT1a.out.2.1).mono ?_
  rintro _ W8 ⟨rfl, kn⟩
  rw [hT1a.out.2.2]
  clear hT1a
  replace hst := Lib.hid (hst.out.nil kn)
  replace hX := Lib.hid (hX.out.keeps_nil kn)
  replace hF := Lib.hid (hF.out.keeps_nil kn)
  replace hT := Lib.hid (hT.out.nil kn)
  replace hB1 := Lib.hid (hB1.out.nil kn)
  replace hB2 := Lib.hid (hB2.out.nil kn)
  clear kn
  have c_B1_0 := hB1.out.cell 0 _ rfl
  have f_B1_0 := hB1.out.frz 0
  have c_B1_1 := hB1.out.cell 1 _ rfl
  have f_B1_1 := hB1.out.frz 1
  have l_B1 := hB1.out.lt
  have c_B2_0 := hB2.out.cell 0 _ rfl
  have f_B2_0 := hB2.out.frz 0
  have l_B2 := hB2.out.lt
  go_wp2_with fail
  clear c_B1_0 f_B1_0 c_B1_1 f_B1_1 l_B1 c_B2_0 f_B2_0 l_B2
  obtain ⟨T2, hT2a, hT2b, hT2c⟩ := Stands.checks HQ.out.1 hZ.out (k := ([] : List UInt64)) (by simp) (by simp)
  have hT2d : checkT f2 T2 = false := Bool.eq_false_iff.2 (fun e => (fun h => by have := (h 3776).2 (by simp); simp at this) (hT2c.1 e))
  replace hT2a := Lib.hid (And.intro hT2a (And.intro hT2b hT2d))
  clear hT2b hT2c hT2d
  refine (Check_any hT.out ((.inl ⟨rfl, rfl⟩ : View kU S2 W8 (.slice none 0 0) [])) (by decide) hT2a.out.1 hT2a.out.2.1).mono ?_
  rintro _ W9 ⟨rfl, kn⟩
  rw [hT2a.out.2.2]
  clear hT2a
  replace hst := Lib.hid (hst.out.nil kn)
  replace hX := Lib.hid (hX.out.keeps_nil kn)
  replace hF := Lib.hid (hF.out.keeps_nil kn)
  replace hT := Lib.hid (hT.out.nil kn)
  replace hB1 := Lib.hid (hB1.out.nil kn)
  replace hB2 := Lib.hid (hB2.out.nil kn)
  clear kn
  have c_B1_0 := hB1.out.cell 0 _ rfl
  have f_B1_0 := hB1.out.frz 0
  have c_B1_1 := hB1.out.cell 1 _ rfl
  have f_B1_1 := hB1.out.frz 1
  have l_B1 := hB1.out.lt
  have c_B2_0 := hB2.out.cell 0 _ rfl
  have f_B2_0 := hB2.out.frz 0
  have l_B2 := hB2.out.lt
  go_wp2_with fail
  clear c_B1_0 f_B1_0 c_B1_1 f_B1_1 l_B1 c_B2_0 f_B2_0 l_B2
  obtain ⟨T3, _, hT3b, _, hT3d⟩ := hZ.out.told HQ.out.1
  rw [hZ.out.list] at hT3b
  rw [show ([] ++ [3776] : List UInt64) = [3776] from rfl] at hT3b
  rw [sort1] at hT3b
  replace hT3b := Lib.hid hT3b
  replace hT3d := Lib.hid hT3d
  refine (All_any hT.out.readsK hT.out.lt hT3d.out (by rw [hT3b.out]; decide)).mono ?_
  rintro _ W10 ⟨v, rfl, ho, kn⟩
  rw [hT3b.out] at ho
  replace ho := ho.view (S := S2) (fun g hg e => absurd (hT.out.lt g e) (Nat.not_lt.2 hg))
  obtain ⟨aaT3, caT3, rfl, _⟩ := ho.val
  have hAT3 := Lib.hid ho
  clear ho hT3b hT3d
  replace hst := Lib.hid (hst.out.nil kn)
  replace hX := Lib.hid (hX.out.keeps_nil kn)
  replace hF := Lib.hid (hF.out.keeps_nil kn)
  replace hT := Lib.hid (hT.out.nil kn)
  replace hB1 := Lib.hid (hB1.out.nil kn)
  replace hB2 := Lib.hid (hB2.out.nil kn)
  clear kn
  have c_B1_0 := hB1.out.cell 0 _ rfl
  have f_B1_0 := hB1.out.frz 0
  have c_B1_1 := hB1.out.cell 1 _ rfl
  have f_B1_1 := hB1.out.frz 1
  have l_B1 := hB1.out.lt
  have c_B2_0 := hB2.out.cell 0 _ rfl
  have f_B2_0 := hB2.out.frz 0
  have l_B2 := hB2.out.lt
  go_wp2_with fail
  clear c_B1_0 f_B1_0 c_B1_1 f_B1_1 l_B1 c_B2_0 f_B2_0 l_B2
  obtain ⟨f3a, f3r, hIf3, hZf3⟩ := Stands.cut HQ.out.1 HQ.out.2 hZ.out 3776
  rw [show decide ((3776 : UInt64) ∈ (([] ++ [3776]) : List UInt64)) = true from (by decide)] at hIf3 hZf3
  obtain ⟨f3, ef3⟩ : ∃ g, g = PT.stF 4800 f3a 32 f3r := ⟨_, rfl⟩
  rw [if_pos rfl, ← ef3] at hZf3
  replace hZ := Lib.hid hZf3
  clear hZf3
  replace hIf3 := Lib.hid hIf3
  refine (Delete_any hIf3.out hT.out).mono ?_
  rintro _ W11 ⟨rfl, S3, hT2, kn⟩
  rw [if_pos rfl, ← ef3] at hT2
  clear ef3 hIf3
  replace hst := Lib.hid (hst.out.trans kn)
  replace hX := Lib.hid (hX.out.steps kn)
  replace hF := Lib.hid (hF.out.steps kn)
  replace hB1 := Lib.hid (hB1.out.steps kn)
  replace hB2 := Lib.hid (hB2.out.steps kn)
  replace hT := Lib.hid hT2
  clear kn hT2
  have c_B1_0 := hB1.out.cell 0 _ rfl
  have f_B1_0 := hB1.out.frz 0
  have c_B1_1 := hB1.out.cell 1 _ rfl
  have f_B1_1 := hB1.out.frz 1
  have l_B1 := hB1.out.lt
  have c_B2_0 := hB2.out.cell 0 _ rfl
  have f_B2_0 := hB2.out.frz 0
  have l_B2 := hB2.out.lt
  go_wp2_with fail
  clear c_B1_0 f_B1_0 c_B1_1 f_B1_1 l_B1 c_B2_0 f_B2_0 l_B2
  refine (hRoot_any hT.out.reads).mono ?_
  rintro _ W12 ⟨rfl, kn⟩
  replace hst := Lib.hid (hst.out.nil kn)
  replace hX := Lib.hid (hX.out.keeps_nil kn)
  replace hF := Lib.hid (hF.out.keeps_nil kn)
  replace hT := Lib.hid (hT.out.nil kn)
  replace hB1 := Lib.hid (hB1.out.nil kn)
  replace hB2 := Lib.hid (hB2.out.nil kn)
  clear kn
  have d2 : ((((f3 32).toNat : Int) : Int) == (0 : Int)) = true := (same_u64 (a := (f3 32)) (b := 0) (hZ.out.root.2 (by decide))).2
  have c_B1_0 := hB1.out.cell 0 _ rfl
  have f_B1_0 := hB1.out.frz 0
  have c_B1_1 := hB1.out.cell 1 _ rfl
  have f_B1_1 := hB1.out.frz 1
  have l_B1 := hB1.out.lt
  have c_B2_0 := hB2.out.cell 0 _ rfl
  have f_B2_0 := hB2.out.frz 0
  have l_B2 := hB2.out.lt
  go_wp2_with fail
  go_ret
  clear c_B1_0 f_B1_0 c_B1_1 f_B1_1 l_B1 c_B2_0 f_B2_0 l_B2
  exact ⟨rfl, hst.out.keeps⟩
end Go.Proofs.YtefpbljekfkefaaGreat
