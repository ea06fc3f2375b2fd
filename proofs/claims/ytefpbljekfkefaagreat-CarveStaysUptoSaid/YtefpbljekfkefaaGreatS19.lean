/- GapQ, FitP, GapR: written short. -/
import Derived.Test.YtefpbljekfkefaaGreatS18
import Derived.Test.YtefpbljekfkefaaGreatS01
import Derived.Test.YtefpbljekfkefaaGreatS10
set_option maxRecDepth 100000
set_option maxHeartbeats 8000000
namespace Go.Proofs.YtefpbljekfkefaaGreat
section
open Go.RowKit PT
section
variable {f g : UInt64 → UInt64} {e : UInt64} {E h1 h2 : Nat} {H A C : List BlockV} {b : BlockV} {Ls : Nat → List UInt64} {K : UInt64 → UInt64 → Prop}
theorem spot_mono {n : Nat} {X Y : List UInt64} (h : Spot n X) (hs : ∀ y ∈ Y, y ∈ X) : Spot n Y :=
  ⟨fun x hx => h.al x (hs x hx), fun x hx => h.pos x (hs x hx), fun x hx => h.inn x (hs x hx), fun x hx y hy => h.apart x (hs x hx) y (hs y hy), h.small⟩
theorem Wd.cut (h : Wd f e (A ++ b :: C) Ls K) (hl : Lay E (A ++ b :: C)) (hb : b.tag.used = false) :
  ∃ f' r, RemR szU mixU 4800 f (f 32) b.off f' r true ∧ Wd (stF 4800 f' 32 r) e (A ++ C) Ls K := by
 obtain ⟨s1, s2, s3⟩ := hl.spot
 have hbm : b ∈ A ++ b :: C := by simp
 obtain ⟨f', r, i1, i2, i3⟩ := TreeOK.cut s1 s3 h.tree (mem_free.2 ⟨b, hbm, hb, rfl⟩)
 refine ⟨f', r, i1, h.turn hl (fun o ho => i3 o (hl.vit_tree ho).1 (hl.vit_tree ho).2) (fun x hx => .inl ?_) (fun x hx hu => ?_) (i2.mono (fun x => ?_))⟩
 ·rcases List.mem_append.1 hx with hx | hx
  ·exact List.mem_append_left _ hx
  ·exact List.mem_append_right _ (List.mem_cons_of_mem _ hx)
 ·rcases List.mem_append.1 hx with hx | hx
  ·exact List.mem_append_left _ hx
  ·rcases List.mem_cons.1 hx with rfl | hx
   · rw [hb] at hu; cases hu
   · exact List.mem_append_right _ hx
 ·rw [freeOf_append, freeOf_cons_free _ hb] at s2
  rw [freeOf_append, freeOf_append A (b :: C), freeOf_cons_free _ hb, List.mem_filter, bne_iff_ne]
  have s4 := List.nodup_append.1 s2
  have s5 := List.nodup_cons.1 s4.2.1
  simp only [List.mem_append, List.mem_cons]
  constructor
  ·intro hx
   refine ⟨hx.elim .inl (fun z => .inr (.inr z)), fun ex => ?_⟩
   subst ex
   rcases hx with hx | hx
   · exact s4.2.2 _ hx _ (by simp) rfl
   · exact s5.1 hx
  ·rintro ⟨hx | hx | hx, hne⟩
   · exact .inl hx
   · exact absurd hx hne
   · exact .inr hx
structure Fits (E h1 h2 : Nat) (A C : List BlockV) (b : BlockV) : Prop where
 gap : Gap E A h1 h2 C
 ok : BOK b
 lo : h1 ≤ b.off.toNat
 hi : b.z ≤ h2
 mod : b.off.toNat % 16 = 0
theorem Fits.lay (F : Fits E h1 h2 A C b) : Lay E (A ++ b :: C) := by
 have hl := F.gap.lay
 obtain ⟨m1, m2, m3, m4⟩ := F.gap.m1
 have g3 := F.lo
 have g4 := F.hi
 have hz : b.z = b.off.toNat + b.tag.size.toNat := rfl
 have hs := F.ok.sz
 refine ⟨fun x hx => ?_, ?_, F.gap.top⟩
 ·rcases List.mem_append.1 hx with hx | hx
  ·exact hl.ok x (List.mem_append_left _ hx)
  ·rcases List.mem_cons.1 hx with rfl | hx
   · exact ⟨F.ok, F.mod, by omega, by omega⟩
   · exact hl.ok x (List.mem_append_right _ hx)
 ·obtain ⟨p1, p2, p3⟩ := List.pairwise_append.1 hl.ap
  refine List.pairwise_append.2 ⟨p1, List.pairwise_cons.2 ⟨fun y hy => ?_, p2⟩, fun x hx y hy => ?_⟩
  ·have := F.gap.outC hy; omega
  ·rcases List.mem_cons.1 hy with rfl | hy
   · have := F.gap.outA hx; omega
   · exact p3 x hx y hy
theorem Fits.mem (_ : Fits E h1 h2 A C b) : b ∈ A ++ b :: C := by simp
theorem Fits.up (_F : Fits E h1 h2 A C b) {x : BlockV} (hx : x ∈ A ++ C) : x ∈ A ++ b :: C := by
 rcases List.mem_append.1 hx with hx | hx
 · exact List.mem_append_left _ hx
 · exact List.mem_append_right _ (List.mem_cons_of_mem _ hx)
theorem Fits.down (F : Fits E h1 h2 A C b) {x : BlockV} (hx : x ∈ A ++ b :: C) : x = b ∨ x ∈ A ++ C := by
 rcases List.mem_append.1 hx with hx | hx
 ·exact .inr (List.mem_append_left _ hx)
 ·rcases List.mem_cons.1 hx with rfl | hx
  · exact .inl rfl
  · exact .inr (List.mem_append_right _ hx)
theorem Fits.vit_out (F : Fits E h1 h2 A C b) {o : UInt64} (hv : Vit (A ++ C) o) : o.toNat < b.off.toNat ∨ b.z ≤ o.toNat := by
 have hl := F.gap.lay
 obtain ⟨m1, m2, m3, m4⟩ := F.gap.m1
 have g3 := F.lo
 have g4 := F.hi
 rcases hv with ⟨h5, _⟩ | ⟨x, hx, h5⟩
 ·omega
 ·have n := hl.nums hx
  have := F.gap.out hx
  omega
theorem Fits.out (F : Fits E h1 h2 A C b) {x : BlockV} (hx : x ∈ A ++ C) : x.z ≤ b.off.toNat ∨ b.z ≤ x.off.toNat := by
 have g3 := F.lo
 have g4 := F.hi
 have := F.gap.out hx
 omega
theorem tagF_other {n : Nat} {off : UInt64} {t : TagV} {o : UInt64} (ho1 : o ≠ off) (ho2 : o ≠ off + t.size - 8) : tagF n f off t o = f o := by
 unfold tagF
 rw [stF_other _ _ _ ho2, stF_other _ _ _ ho1]
theorem Lay.tag2 (hl : Lay E H) (hb : b ∈ H) : tagF 4800 f b.off b.tag b.off = packU b.tag ∧ tagF 4800 f b.off b.tag (b.off + b.tag.size - 8) = packU b.tag := by
 have n := hl.nums hb
 have e2 := hl.last hb
 have hne : b.off ≠ b.off + b.tag.size - 8 := fun ex => by rw [← ex] at e2; omega
 unfold tagF
 constructor
 · rw [stF_other _ _ _ hne, stF_in _ _ (by omega) (by omega), upd_same]
 · rw [stF_in _ _ (by omega) (by omega), upd_same]
theorem Wd.put (h : Wd f e (A ++ C) Ls K) (F : Fits E h1 h2 A C b) (hb : b.tag.used = false) :
  ∃ f' r, InsR szU mixU 4800 (tagF 4800 f b.off b.tag) (tagF 4800 f b.off b.tag 32) b.off f' r ∧ Wd (stF 4800 f' 32 r) e (A ++ b :: C) Ls K := by
 have hl := F.gap.lay
 have hl' := F.lay
 have hbm := F.mem
 obtain ⟨s1, s2, s3⟩ := hl'.spot
 have n := hl'.nums hbm
 have e2 := hl'.last hbm
 have hlist : ∀ x, x ∈ freeOf (A ++ b :: C) ↔ x ∈ freeOf (A ++ C) ++ [b.off] := fun x => by
  rw [freeOf_append, freeOf_append, freeOf_cons_free _ hb]
  simp only [List.mem_append, List.mem_cons, List.not_mem_nil, or_false]
  constructor
  ·rintro (h | h | h)
   · exact .inl (.inl h)
   · exact .inr h
   · exact .inl (.inr h)
  ·rintro ((h | h) | h)
   · exact .inl h
   · exact .inr (.inr h)
   · exact .inr (.inl h)
 have hn : b.off ∉ freeOf (A ++ C) := by
  rw [freeOf_append, freeOf_cons_free _ hb] at s2
  have s4 := List.nodup_append.1 s2
  have s5 := List.nodup_cons.1 s4.2.1
  rw [freeOf_append, List.mem_append]
  rintro (hx | hx)
  ·exact s4.2.2 _ hx _ (by simp) rfl
  ·exact s5.1 hx
 have hgo : ∀ o : UInt64, o.toNat < b.off.toNat ∨ b.z ≤ o.toNat → tagF 4800 f b.off b.tag o = f o := fun o ho => by
  refine tagF_other (fun ex => ?_) (fun ex => ?_)
  ·rw [ex] at ho; omega
  ·rw [ex, e2] at ho; omega
 have ht : TreeOK (tagF 4800 f b.off b.tag) (freeOf (A ++ C)) := by
  refine h.tree.frame (hgo 32 (.inl ?_)) (fun x hx => ?_)
  ·have e32 : (32 : UInt64).toNat = 32 := rfl
   omega
  ·obtain ⟨a, ha, _, rfl⟩ := mem_free.1 hx
   have m := hl.nums ha
   have o1 := F.out ha
   have e3 : (a.off + 8).toNat = a.off.toNat + 8 := hl.at_ ha 8 (by decide)
   have e4 : (a.off + 16).toNat = a.off.toNat + 16 := hl.at_ ha 16 (by decide)
   exact ⟨hgo _ (by omega), hgo _ (by omega), hgo _ (by omega)⟩
 obtain ⟨f', r, i1, i2, i3⟩ := TreeOK.put (spot_mono s1 (fun y hy => (hlist y).2 hy)) (fun y hy => s3 y ((hlist y).2 hy)) ht hn
 have hvb : ∀ o, Vit (A ++ b :: C) o → stF 4800 f' 32 r o = tagF 4800 f b.off b.tag o := fun o ho =>
  i3 o (hl'.vit_tree ho).1 (fun x hx => (hl'.vit_tree ho).2 x ((hlist x).2 hx))
 have hup : ∀ o, Vit (A ++ C) o → Vit (A ++ b :: C) o := fun o ho => by
  rcases ho with ho | ⟨x, hx, ho⟩
  ·exact .inl ho
  ·exact .inr ⟨x, F.up hx, ho⟩
 have htag := hl'.tag2 (f := f) hbm
 refine ⟨f', r, i1, h.turn hl (fun o ho => by rw [hvb o (hup o ho)]; exact hgo o (F.vit_out ho)) (fun x hx => ?_) (fun x hx _ => F.up hx) (i2.mono hlist)⟩
 rcases F.down hx with rfl | hx
 ·refine .inr ⟨hb, ?_, ?_, fun hu => ?_⟩
  ·rw [hvb _ (.inr ⟨x, hbm, .inl rfl⟩)]; exact htag.1
  ·rw [hvb _ (.inr ⟨x, hbm, .inr (.inl (by omega))⟩)]; exact htag.2
  ·rw [hb] at hu; cases hu
 ·exact .inl hx
def updO (Ls : Nat → List UInt64) (b : BlockV) : Nat → List UInt64 := fun c => if b.tag.owner = (c : Int) + 1 then b.off :: Ls c else Ls c
theorem Wd.more {K' : UInt64 → UInt64 → Prop} (h : Wd f e H Ls K) (hk : ∀ o v, K' o v → K o v ∨ (f o = v ∧ ∃ b ∈ H, b.tag.used = true ∧ b.off.toNat + 32 ≤ o.toNat ∧ o.toNat + 8 < b.z)) : Wd f e H Ls K' :=
  ⟨h.e16, h.chk, h.tags, h.tree, h.leds, h.nodup, h.own, fun o v ho => (hk o v ho).elim (h.kept o v) id⟩
theorem Wd.join {G : UInt64 → UInt64} (h : Wd f e (A ++ C) Ls K) (F : Fits E h1 h2 A C b) (hu : b.tag.used = true) (hb : Tagged G b)
    (hout : ∀ o : UInt64, (o.toNat < b.off.toNat ∨ b.z ≤ o.toNat) → (∀ c : UInt64, c.toNat < 8 → b.tag.owner = (c.toNat : Int) + 1 → o ≠ headU c ∧ ∀ y, (Ls c.toNat)[0]? = some y → o ≠ y + 24) → G o = f o)
    (hlink : ∀ c : UInt64, c.toNat < 8 → b.tag.owner = (c.toNat : Int) + 1 → G (headU c) = b.off ∧ G (b.off + 16) = atL (Ls c.toNat) 0 ∧ G (b.off + 24) = 0 ∧ ∀ y, (Ls c.toNat)[0]? = some y → G (y + 24) = b.off) :
    Wd G e (A ++ b :: C) (updO Ls b) K := by
  have hl := F.gap.lay
  have hl' := F.lay
  have hbm := F.mem
  have n := hl'.nums hbm
  have h3776 := n.2.2.2.2.1
  -- a block of an owner's
  have hblk : ∀ c : UInt64, c.toNat < 8 → ∀ y ∈ Ls c.toNat, ∃ a ∈ A ++ C, a.tag.used = true ∧ a.tag.owner = (c.toNat : Int) + 1 ∧ a.off = y := fun c hc y hy => (h.own c.toNat hc y).1 hy
  have h24 : ∀ a ∈ A ++ C, (a.off + 24).toNat = a.off.toNat + 24 := fun a ha => hl.at_ ha 24 (by decide)
  have h16 : ∀ a ∈ A ++ C, (a.off + 16).toNat = a.off.toNat + 16 := fun a ha => hl.at_ ha 16 (by decide)
  have h08 : ∀ a ∈ A ++ C, (a.off + 8).toNat = a.off.toNat + 8 := fun a ha => hl.at_ ha 8 (by decide)
  -- what stands neither in the hole, nor at a list's links
  have stay : ∀ o : UInt64, (o.toNat < b.off.toNat ∨ b.z ≤ o.toNat) → (∀ c : UInt64, c.toNat < 8 → o.toNat ≠ (headU c).toNat) → (∀ a ∈ A ++ C, a.tag.used = true → a.tag.owner = b.tag.owner → o.toNat ≠ a.off.toNat + 24) → G o = f o := fun o h5 h6 h7 => by
    refine hout o h5 (fun c hc hco => ⟨fun ex => h6 c hc (by rw [ex]), fun y hy ey => ?_⟩)
    obtain ⟨a, ha, hau, hao, rfl⟩ := hblk c hc y (getE_mem hy)
    exact h7 a ha hau (hao.trans hco.symm) (by rw [ey, h24 a ha])
  have hhd : ∀ c : UInt64, c.toNat < 8 → (headU c).toNat = 72 + 416 * c.toNat := fun c hc => headU_nat hc
  have low : ∀ o : UInt64, o.toNat < 72 → G o = f o := fun o ho => stay o (.inl (by omega)) (fun c hc => by rw [hhd c hc]; omega) (fun a ha _ _ => by have := hl.nums ha; omega)
  -- within a block that is there, but not its word ahead
  have inb : ∀ a ∈ A ++ C, ∀ o : UInt64, a.off.toNat ≤ o.toNat → o.toNat < a.z → o.toNat ≠ a.off.toNat + 24 → G o = f o := fun a ha o h5 h6 h7 => by
    have m := hl.nums ha
    have o1 := F.out ha
    refine stay o (by omega) (fun c hc => by rw [hhd c hc]; omega) (fun x hx _ _ ex => ?_)
    have mx := hl.nums hx
    rcases hl.two ha hx with rfl | h8 | h8
    · exact h7 ex
    · omega
    · omega
  -- within a block of another owner
  have ino : ∀ a ∈ A ++ C, a.tag.owner ≠ b.tag.owner → ∀ o : UInt64, a.off.toNat ≤ o.toNat → o.toNat < a.z → G o = f o := fun a ha hne o h5 h6 => by
    have m := hl.nums ha
    have o1 := F.out ha
    refine stay o (by omega) (fun c hc => by rw [hhd c hc]; omega) (fun x hx _ hxo ex => ?_)
    have mx := hl.nums hx
    rcases hl.two ha hx with rfl | h8 | h8
    · exact hne hxo
    · omega
    · omega
  have hown : ∀ c, c < 8 → ∀ x, x ∈ updO Ls b c ↔ ∃ a ∈ A ++ b :: C, a.tag.used = true ∧ a.tag.owner = (c : Int) + 1 ∧ a.off = x := fun c hc x => by
    unfold updO
    by_cases hco : b.tag.owner = (c : Int) + 1
    · rw [if_pos hco, List.mem_cons, h.own c hc x]
      constructor
      · rintro (rfl | ⟨a, ha, h5⟩)
        · exact ⟨b, hbm, hu, hco, rfl⟩
        · exact ⟨a, F.up ha, h5⟩
      · rintro ⟨a, ha, h5, h6, h7⟩
        rcases F.down ha with rfl | ha
        · exact .inl h7.symm
        · exact .inr ⟨a, ha, h5, h6, h7⟩
    · rw [if_neg hco, h.own c hc x]
      constructor
      · rintro ⟨a, ha, h5⟩
        exact ⟨a, F.up ha, h5⟩
      · rintro ⟨a, ha, h5, h6, h7⟩
        rcases F.down ha with rfl | ha
        · exact absurd h6 hco
        · exact ⟨a, ha, h5, h6, h7⟩
  have hnew : ∀ c, c < 8 → b.off ∉ Ls c := fun c hc hin => by
    obtain ⟨a, ha, _, _, he⟩ := (h.own c hc b.off).1 hin
    have m := hl.nums ha
    have o1 := F.out ha
    rw [he] at m o1
    have hz : b.z = b.off.toNat + b.tag.size.toNat := rfl
    have hza : a.z = a.off.toNat + a.tag.size.toNat := rfl
    rw [he] at hza
    omega
  refine ⟨?_, ?_, fun x hx => ?_, ?_, fun c hc => ?_, fun c hc => ?_, hown, fun o v hk => ?_⟩
  · rw [low 16 (by decide)]; exact h.e16
  · rw [chk_same (low 0 (by decide)) (low 8 (by decide)) (low 16 (by decide)) (low 40 (by decide))]; exact h.chk
  · rcases F.down hx with rfl | hx
    · exact hb
    · have m := hl.nums hx
      have e1 := h08 x hx
      have e2 := hl.last hx
      obtain ⟨t1, t2, t3⟩ := h.tags x hx
      refine ⟨?_, ?_, fun hxu => ?_⟩
      · rw [inb x hx x.off (by omega) (by omega) (by omega)]; exact t1
      · rw [inb x hx _ (by omega) (by omega) (by omega)]; exact t2
      · rw [inb x hx _ (by omega) (by omega) (by omega)]; exact t3 hxu
  · have hlist : freeOf (A ++ b :: C) = freeOf (A ++ C) := by rw [freeOf_append, freeOf_append, freeOf_cons_used _ hu]
    rw [hlist]
    refine h.tree.frame (low 32 (by decide)) (fun x hx => ?_)
    obtain ⟨a, ha, _, rfl⟩ := mem_free.1 hx
    have m := hl.nums ha
    have e1 := h08 a ha
    have e2 := h16 a ha
    exact ⟨inb a ha _ (by omega) (by omega) (by omega), inb a ha _ (by omega) (by omega) (by omega), inb a ha _ (by omega) (by omega) (by omega)⟩
  · by_cases hco : b.tag.owner = (c.toNat : Int) + 1
    · obtain ⟨l1, l2, l3, l4⟩ := hlink c hc hco
      obtain ⟨d1, d2⟩ := h.leds c hc
      have hU : updO Ls b c.toNat = b.off :: Ls c.toNat := if_pos hco
      rw [hU]
      refine ⟨l1, fun k y hk => ?_⟩
      cases k with
      | zero =>
        have hy : b.off = y := by simpa using hk
        subst hy
        refine ⟨?_, ?_⟩
        · rw [l2, show ((0 : Nat) : Int) + 1 = ((1 : Nat) : Int) by omega, show (0 : Int) = ((0 : Nat) : Int) from rfl, atL_nat, atL_nat]; simp
        · rw [l3]; rfl
      | succ k =>
        have hy : (Ls c.toNat)[k]? = some y := by simpa using hk
        obtain ⟨w1, w2⟩ := d2 k y hy
        obtain ⟨a, ha, hau, hao, rfl⟩ := hblk c hc y (getE_mem hy)
        have m := hl.nums ha
        have e1 := h16 a ha
        have e3 := h24 a ha
        refine ⟨?_, ?_⟩
        · rw [inb a ha _ (by omega) (by omega) (by omega), w1, show ((k + 1 : Nat) : Int) + 1 = ((k + 2 : Nat) : Int) by omega, show (k : Int) + 1 = ((k + 1 : Nat) : Int) by omega, atL_nat, atL_nat]; simp
        · cases k with
          | zero =>
            rw [l4 a.off hy, show ((0 + 1 : Nat) : Int) - 1 = ((0 : Nat) : Int) by omega, atL_nat]; simp
          | succ k =>
            have hst : G (a.off + 24) = f (a.off + 24) := by
              refine hout _ (by have := F.out ha; omega) (fun c' hc' hco' => ⟨fun ex => ?_, fun y hy0 ey => ?_⟩)
              · have := hhd c' hc'
                rw [← ex, e3] at this; omega
              · have ecc : c' = c := UInt64.toNat_inj.1 (by omega)
                subst ecc
                obtain ⟨a', ha', _, _, rfl⟩ := hblk c' hc y (getE_mem hy0)
                have e4 := h24 a' ha'
                have : a.off = a'.off := UInt64.toNat_inj.1 (by rw [← ey] at e4; omega)
                rw [← this] at hy0
                have hnd := h.nodup c'.toNat hc
                have hlt1 := (List.getElem?_eq_some_iff.1 hy).1
                have hlt0 := (List.getElem?_eq_some_iff.1 hy0).1
                have := List.pairwise_iff_getElem.1 hnd 0 (k + 1) hlt0 hlt1 (by omega)
                rw [(List.getElem?_eq_some_iff.1 hy).2, (List.getElem?_eq_some_iff.1 hy0).2] at this
                exact this rfl
            rw [hst, w2, show ((k + 1 + 1 : Nat) : Int) - 1 = ((k + 1 : Nat) : Int) by omega, show ((k + 1 : Nat) : Int) - 1 = ((k : Nat) : Int) by omega, atL_nat, atL_nat]; simp
    · have hU : updO Ls b c.toNat = Ls c.toNat := if_neg hco
      rw [hU]
      refine (h.leds c hc).frame ?_ (fun y hy => ?_)
      · refine hout _ (.inl (by rw [hhd c hc]; omega)) (fun c' hc' hco' => ⟨fun ex => ?_, fun y hy0 ey => ?_⟩)
        · have i1 := hhd c hc
          have i2 := hhd c' hc'
          rw [ex] at i1
          have : c.toNat = c'.toNat := by omega
          rw [this] at hco; exact hco hco'
        · obtain ⟨a', ha', _, _, rfl⟩ := hblk c' hc' y (getE_mem hy0)
          have m := hl.nums ha'
          have i1 := hhd c hc
          rw [ey, h24 a' ha'] at i1
          omega
      · obtain ⟨a, ha, hau, hao, rfl⟩ := hblk c hc y hy
        have m := hl.nums ha
        have e1 := h16 a ha
        have e3 := h24 a ha
        have hne : a.tag.owner ≠ b.tag.owner := fun ex => hco (ex.symm.trans hao)
        exact ⟨ino a ha hne _ (by omega) (by omega), ino a ha hne _ (by omega) (by omega)⟩
  · unfold updO
    split
    · exact List.nodup_cons.2 ⟨hnew c hc, h.nodup c hc⟩
    · exact h.nodup c hc
  · obtain ⟨k1, a, ha, k2, k3, k4⟩ := h.kept o v hk
    exact ⟨by rw [inb a ha o (by omega) (by omega) (by omega)]; exact k1, a, F.up ha, k2, k3, k4⟩
def zeroF (n : Nat) (f : UInt64 → UInt64) (p : UInt64) : Nat → UInt64 → UInt64
 | 0 => f
 | k + 1 => stF n (zeroF n f p k) (p + 8 * UInt64.ofNat k) 0
theorem zeroF_spec {p : UInt64} (hp : p.toNat % 8 = 0) : ∀ k, p.toNat + 8 * k ≤ 4800 → (∀ o : UInt64, (o.toNat < p.toNat ∨ p.toNat + 8 * k ≤ o.toNat) → zeroF 4800 f p k o = f o) ∧ ∀ i, i < k → ∀ o : UInt64, o.toNat = p.toNat + 8 * i → zeroF 4800 f p k o = 0
  | 0, _ => ⟨fun _ _ => rfl, fun i hi => by omega⟩
  | k + 1, h => by
    obtain ⟨i1, i2⟩ := zeroF_spec hp k (by omega)
    have e : (p + 8 * UInt64.ofNat k).toNat = p.toNat + 8 * k := by
      rw [UInt64.toNat_add, UInt64.toNat_mul, UInt64.toNat_ofNat', show (8 : UInt64).toNat = 8 from rfl]
      omega
    refine ⟨fun o ho => ?_, fun i hi o ho => ?_⟩
    · unfold zeroF
      rw [stF_other _ _ _ (fun ex => by rw [ex, e] at ho; omega)]
      exact i1 o (by omega)
    · unfold zeroF
      by_cases hik : i = k
      · subst hik
        have : o = p + 8 * UInt64.ofNat i := UInt64.toNat_inj.1 (by rw [ho, e])
        rw [this, stF_in _ _ (by omega) (by omega), upd_same]
      · rw [stF_other _ _ _ (fun ex => by rw [ex, e] at ho; omega)]
        exact i2 i (by omega) o ho
theorem linkF_other {n : Nat} {c off o : UInt64} (a1 : o ≠ off + 16) (a2 : o ≠ off + 24) (a3 : o ≠ headU c) (a4 : f (headU c) ≠ 0 → o ≠ f (headU c) + 24) : linkF n f c off o = f o := by
 unfold linkF
 rw [stF_other _ _ _ a3]
 split
 ·rw [stF_other _ _ _ a2, stF_other _ _ _ a1]
 ·rename_i h
  rw [stF_other _ _ _ (a4 h), stF_other _ _ _ a2, stF_other _ _ _ a1]
end
end
section
open Go.RowKit PT
def padU (off a : UInt64) : UInt64 := if (off.toNat + 32) % a.toNat = 0 then 0 else upA (off + 80) a - (off + 32)
def alignB (a : UInt64) : Bool := powB a && decide (16 ≤ a.toNat ∧ a.toNat ≤ 4096)
theorem align_spec {a : UInt64} (h : alignB a = true) : powB a = true ∧ 16 ≤ a.toNat ∧ a.toNat ≤ 4096 ∧ a.toNat % 16 = 0 := by
 unfold alignB at h
 rw [Bool.and_eq_true, decide_eq_true_iff] at h
 obtain ⟨j, _, hj⟩ := powB_two h.1
 refine ⟨h.1, h.2.1, h.2.2, ?_⟩
 have h4 : 4 ≤ j := by
  by_cases hc : j < 4
  ·have : 2 ^ j < 2 ^ 4 := (Nat.pow_lt_pow_iff_right (by decide)).2 hc
   omega
  ·omega
 rw [hj, show j = (j - 4) + 4 by omega, Nat.pow_add]
 exact Nat.mul_mod_left _ _
theorem upA_nat {n a : UInt64} (hp : 0 < a.toNat) (h : n.toNat + a.toNat < 18446744073709551616) :
    (upA n a).toNat % a.toNat = 0 ∧ n.toNat ≤ (upA n a).toNat ∧ (upA n a).toNat < n.toNat + a.toNat ∧ ∀ x, x % a.toNat = 0 → n.toNat ≤ x → (upA n a).toNat ≤ x := by
  have hm := Nat.mod_lt n.toNat hp
  have hle := Nat.mod_le n.toNat a.toNat
  unfold upA
  by_cases h0 : n.toNat % a.toNat = 0
  · rw [if_pos h0]
    exact ⟨h0, Nat.le_refl _, by omega, fun x _ h => h⟩
  · rw [if_neg h0]
    have e1 : (n - UInt64.ofNat (n.toNat % a.toNat)).toNat = n.toNat - n.toNat % a.toNat := by
      rw [UInt64.toNat_sub_of_le _ _ (by rw [UInt64.le_iff_toNat_le, UInt64.toNat_ofNat']; have := n.toNat_lt; omega), UInt64.toNat_ofNat']
      have := n.toNat_lt; omega
    have e2 : (n - UInt64.ofNat (n.toNat % a.toNat) + a).toNat = n.toNat - n.toNat % a.toNat + a.toNat := by rw [UInt64.toNat_add, e1]; omega
    have e3 : n.toNat - n.toNat % a.toNat = a.toNat * (n.toNat / a.toNat) := by have := Nat.div_add_mod n.toNat a.toNat; omega
    rw [e2, e3]
    refine ⟨by rw [Nat.add_mod_right, Nat.mul_mod_right], by omega, by omega, fun x hx hnx => ?_⟩
    have e4 : x = a.toNat * (x / a.toNat) := by have := Nat.div_add_mod x a.toNat; omega
    have h5 : n.toNat / a.toNat < x / a.toNat := by
      by_cases hc : n.toNat / a.toNat < x / a.toNat
      · exact hc
      · have := Nat.mul_le_mul_left a.toNat (Nat.le_of_not_lt hc)
        omega
    have h6 := Nat.mul_le_mul_left a.toNat (Nat.succ_le_of_lt h5)
    rw [Nat.mul_succ] at h6
    omega
theorem pad_spec {off a : UInt64} (ha : alignB a = true) (ho : off.toNat ≤ 1048576) (h16 : off.toNat % 16 = 0) :
    (padU off a).toNat % 16 = 0 ∧ (off.toNat + 32 + (padU off a).toNat) % a.toNat = 0 ∧ ((padU off a).toNat = 0 ∨ 48 ≤ (padU off a).toNat) ∧ (padU off a).toNat < 48 + 4096 ∧
      ∀ n, n < (padU off a).toNat → (off.toNat + 32 + n) % a.toNat = 0 → 0 < n ∧ n < 48 := by
  obtain ⟨hp, a1, a2, a3⟩ := align_spec ha
  unfold padU
  by_cases h0 : (off.toNat + 32) % a.toNat = 0
  · rw [if_pos h0]
    have e0 : (0 : UInt64).toNat = 0 := rfl
    rw [e0]
    exact ⟨rfl, h0, .inl rfl, by omega, fun n hn => by omega⟩
  · rw [if_neg h0]
    have e80 : (off + 80).toNat = off.toNat + 80 := by rw [UInt64.toNat_add, show (80 : UInt64).toNat = 80 from rfl]; omega
    have e32 : (off + 32).toNat = off.toNat + 32 := by rw [UInt64.toNat_add, show (32 : UInt64).toNat = 32 from rfl]; omega
    obtain ⟨u1, u2, u3, u4⟩ := upA_nat (n := off + 80) (a := a) (by omega) (by rw [e80]; omega)
    obtain ⟨q, hq⟩ : ∃ q, q = upA (off + 80) a := ⟨_, rfl⟩
    rw [← hq] at u1 u2 u3 u4 ⊢
    rw [e80] at u2 u3 u4
    have e1 : (q - (off + 32)).toNat = q.toNat - (off.toNat + 32) := by rw [UInt64.toNat_sub_of_le _ _ (by rw [UInt64.le_iff_toNat_le, e32]; omega), e32]
    rw [e1]
    have hq16 : q.toNat % 16 = 0 := by
      have e4 : q.toNat = a.toNat * (q.toNat / a.toNat) := by have := Nat.div_add_mod q.toNat a.toNat; omega
      have e5 : a.toNat = 16 * (a.toNat / 16) := by omega
      rw [e4, e5, Nat.mul_assoc]
      exact Nat.mul_mod_right _ _
    refine ⟨by omega, by rw [show off.toNat + 32 + (q.toNat - (off.toNat + 32)) = q.toNat by omega]; exact u1, by omega, by omega, fun n hn hz => ?_⟩
    by_cases hn0 : n = 0
    · subst hn0; exact absurd hz h0
    · refine ⟨by omega, ?_⟩
      by_cases hc : n < 48
      · exact hc
      · have := u4 _ hz (by omega)
        omega
def bestF (P : BlockV → Bool) (H : List BlockV) : Nat → Option Nat
  | 0 => none
  | k + 1 => match H[k]? with
    | none => bestF P H k
    | some b => if P b then (match bestF P H k with
      | none => some k
      | some j => if b.tag.size.toNat < ((H[j]?).getD BlockV.zero).tag.size.toNat then some k else some j) else bestF P H k
theorem bestF_spec (P : BlockV → Bool) (H : List BlockV) : ∀ k, k ≤ H.length →
    match bestF P H k with
    | none => ∀ i b, i < k → H[i]? = some b → P b = false
    | some j => j < k ∧ ∃ b, H[j]? = some b ∧ P b = true ∧ ∀ i c, i < k → H[i]? = some c → P c = true → b.tag.size.toNat < c.tag.size.toNat ∨ (b.tag.size.toNat = c.tag.size.toNat ∧ j ≤ i)
  | 0, _ => by intro i b hi; omega
  | k + 1, hk => by
    have ih := bestF_spec P H k (by omega)
    obtain ⟨b, hb⟩ : ∃ b, H[k]? = some b := ⟨H[k], List.getElem?_eq_getElem (by omega)⟩
    have hlast : ∀ i c, i < k + 1 → H[i]? = some c → i < k ∨ (i = k ∧ c = b) := fun i c hi hc => by
      by_cases h : i = k
      · subst h; rw [hb] at hc; cases hc; exact .inr ⟨rfl, rfl⟩
      · exact .inl (by omega)
    unfold bestF
    simp only [hb]
    cases hP : P b with
    | false =>
      rw [if_neg (by decide)]
      cases hbf : bestF P H k with
      | none =>
        rw [hbf] at ih
        intro i c hi hc
        rcases hlast i c hi hc with h | ⟨_, rfl⟩
        · exact ih i c h hc
        · exact hP
      | some j =>
        rw [hbf] at ih
        obtain ⟨i1, d, i2, i3, i4⟩ := ih
        refine ⟨by omega, d, i2, i3, fun i c hi hc hPc => ?_⟩
        rcases hlast i c hi hc with h | ⟨_, rfl⟩
        · exact i4 i c h hc hPc
        · rw [hP] at hPc; cases hPc
    | true =>
      rw [if_pos rfl]
      cases hbf : bestF P H k with
      | none =>
        rw [hbf] at ih
        refine ⟨by omega, b, hb, hP, fun i c hi hc hPc => ?_⟩
        rcases hlast i c hi hc with h | ⟨rfl, rfl⟩
        · have := ih i c h hc
          rw [hPc] at this; cases this
        · exact .inr ⟨rfl, Nat.le_refl _⟩
      | some j =>
        rw [hbf] at ih
        obtain ⟨i1, d, i2, i3, i4⟩ := ih
        simp only [i2, Option.getD_some]
        by_cases hlt : b.tag.size.toNat < d.tag.size.toNat
        · rw [if_pos hlt]
          refine ⟨by omega, b, hb, hP, fun i c hi hc hPc => ?_⟩
          rcases hlast i c hi hc with h | ⟨rfl, rfl⟩
          · have := i4 i c h hc hPc
            omega
          · exact .inr ⟨rfl, Nat.le_refl _⟩
        · rw [if_neg hlt]
          refine ⟨by omega, d, i2, i3, fun i c hi hc hPc => ?_⟩
          rcases hlast i c hi hc with h | ⟨rfl, rfl⟩
          · exact i4 i c h hc hPc
          · omega
theorem Lay.turn {e : Nat} {H : List BlockV} (hl : Lay e H) {i j : Nat} {x y : BlockV} (hx : H[i]? = some x) (hy : H[j]? = some y) (hij : i < j) : x.off.toNat < y.off.toNat := by
 obtain ⟨h1, rfl⟩ := List.getElem?_eq_some_iff.1 hx
 obtain ⟨h2, rfl⟩ := List.getElem?_eq_some_iff.1 hy
 have := List.pairwise_iff_getElem.1 hl.ap i j h1 h2 hij
 have n := hl.nums (List.getElem_mem h1)
 omega
def fitB (need a : UInt64) (b : BlockV) : Bool := !b.tag.used && decide (need.toNat ≤ b.tag.size.toNat) && decide ((padU b.off a).toNat ≤ b.tag.size.toNat - need.toNat)
def fitO (f : UInt64 → UInt64) (need a : UInt64) (x : UInt64) : Bool := decide (need.toNat ≤ (szU (f x)).toNat) && decide ((padU x a).toNat ≤ (szU (f x)).toNat - need.toNat)
theorem szU_tag {f : UInt64 → UInt64} {b : BlockV} (hb : BOK b) (ht : Tagged f b) : szU (f b.off) = b.tag.size := by
 unfold szU
 rw [ht.1, unpack_pack hb.1]
theorem fit_same {f : UInt64 → UInt64} {E : Nat} {H : List BlockV} (hl : Lay E H) (ht : ∀ b ∈ H, Tagged f b) (need a : UInt64) :
    ((sortF (cmpF f) (freeOf H)).find? (fitO f need a)) = (bestF (fitB need a) H H.length).map (fun j => ((H[j]?).getD BlockV.zero).off) := by
  have hs : Sorted (ltF szU f) (sortF (cmpF f) (freeOf H)) := sortF_sorted f hl.spot.2.1
  have hmem : ∀ b ∈ H, b.tag.used = false → b.off ∈ sortF (cmpF f) (freeOf H) := fun b hb hf => mem_sortF.2 (mem_free.2 ⟨b, hb, hf, rfl⟩)
  have hP : ∀ b ∈ H, b.tag.used = false → fitO f need a b.off = fitB need a b := fun b hb hf => by
    unfold fitO fitB
    rw [szU_tag (hl.ok b hb).1 (ht b hb), hf]
    simp
  have hbs := bestF_spec (fitB need a) H H.length (Nat.le_refl _)
  have hin : ∀ b ∈ H, ∃ i, i < H.length ∧ H[i]? = some b := fun b hb => by
    obtain ⟨i, hi, rfl⟩ := List.getElem_of_mem hb
    exact ⟨i, hi, List.getElem?_eq_getElem hi⟩
  cases hbf : bestF (fitB need a) H H.length with
  | none =>
    rw [hbf] at hbs
    rw [Option.map_none, List.find?_eq_none]
    intro x hx
    obtain ⟨b, hb, hf, rfl⟩ := mem_free.1 (mem_sortF.1 hx)
    obtain ⟨i, hi, hbi⟩ := hin b hb
    rw [hP b hb hf, hbs i b hi hbi]
    decide
  | some j =>
    rw [hbf] at hbs
    obtain ⟨hj, b, hbj, hPb, hall⟩ := hbs
    have hb : b ∈ H := getE_mem hbj
    have hf : b.tag.used = false := by
      unfold fitB at hPb
      simp only [Bool.and_eq_true, Bool.not_eq_true'] at hPb
      exact hPb.1.1
    rw [Option.map_some, hbj, Option.getD_some]
    -- split the sorted list at b
    obtain ⟨A, C, hAC⟩ := List.append_of_mem (hmem b hb hf)
    rw [hAC] at hs
    obtain ⟨p1, p2, p3⟩ := List.pairwise_append.1 hs
    rw [hAC, List.find?_append, List.find?_cons, hP b hb hf, hPb]
    have hA : A.find? (fitO f need a) = none := by
      rw [List.find?_eq_none]
      intro x hx hfx
      have hx' : x ∈ freeOf H := mem_sortF.1 (by rw [hAC]; exact List.mem_append_left _ hx)
      obtain ⟨c, hc, hcf, rfl⟩ := mem_free.1 hx'
      rw [hP c hc hcf] at hfx
      obtain ⟨i, hi, hci⟩ := hin c hc
      have h9 := hall i c hi hci hfx
      have hlt : ltF szU f c.off b.off = true := p3 c.off hx b.off (by simp)
      unfold ltF at hlt
      rw [ltK_iff] at hlt
      unfold keyF at hlt
      simp only [szU_tag (hl.ok b hb).1 (ht b hb), szU_tag (hl.ok c hc).1 (ht c hc)] at hlt
      rcases Nat.lt_trichotomy i j with hij | hij | hij
      · omega
      · subst hij
        rw [hci] at hbj; cases hbj
        omega
      · have := hl.turn hbj hci hij
        have h5 : b.tag.size.toNat = c.tag.size.toNat → b.tag.size = c.tag.size := fun h => UInt64.toNat_inj.1 h
        omega
    rw [hA]
    rfl
section
variable {f : UInt64 → UInt64} {e : UInt64} {E h1 h2 : Nat} {A C : List BlockV} {b : BlockV} {Ls : Nat → List UInt64} {K : UInt64 → UInt64 → Prop} {w : World} {t : Nat} {S : Nat → Prop}
theorem Fits.inT (F : Fits e.toNat h1 h2 A C b) (h16 : f 16 = e) : inT (f 16) b.off b.tag.size = true := by
 have n := F.lay.nums F.mem
 obtain ⟨m1, m2, m3, m4⟩ := F.gap.m1
 have h := F.hi
 rw [h16]
 exact decide_eq_true ⟨by omega, by omega, by omega, by omega⟩
theorem sizes_ok {size : UInt64} (h : 48 ≤ size.toNat) (h1 : size.toNat % 16 = 0) (h2 : size.toNat ≤ 1048576) (off : UInt64) : BOK ⟨off, ⟨size, false, 0⟩, 0⟩ :=
 ⟨decide_eq_true ⟨h1, h, h2, Int.le_refl _, (by decide : (0 : Int) ≤ 8), .inr rfl⟩, by rw [if_neg (show ¬ (false = true) by decide)]⟩
def wordsN (n : UInt64) : Nat := (n.toNat + 7) / 8
theorem need_words {n : UInt64} (h : needB n = true) : 40 + 8 * wordsN n ≤ (needU n).toNat ∧ 48 ≤ (needU n).toNat ∧ (needU n).toNat % 16 = 0 := by
 have := needU_yes h
 unfold wordsN
 omega
def useF (f : UInt64 → UInt64) (b : BlockV) : UInt64 → UInt64 := stF 4800 (tagF 4800 f b.off b.tag) (b.off + 8) b.len
theorem useF_spec (F : Fits E h1 h2 A C b) (_hu : b.tag.used = true) : Tagged (useF f b) b ∧ ∀ o : UInt64, (o.toNat < b.off.toNat ∨ b.z ≤ o.toNat) → useF f b o = f o := by
 have hl := F.lay
 have hbm := F.mem
 have n := hl.nums hbm
 have e2 := hl.last hbm
 have e1 : (b.off + 8).toNat = b.off.toNat + 8 := hl.at_ hbm 8 (by decide)
 obtain ⟨t1, t2⟩ := hl.tag2 (f := f) hbm
 unfold useF
 refine ⟨⟨?_, ?_, fun _ => ?_⟩, fun o ho => ?_⟩
 ·rw [stF_other _ _ _ (fun ex => by rw [← ex] at e1; omega)]; exact t1
 ·rw [stF_other _ _ _ (fun ex => by rw [← ex] at e1; omega)]; exact t2
 ·rw [stF_in _ _ (by omega) (by omega), upd_same]
 ·rw [stF_other _ _ _ (fun ex => by rw [ex] at ho; omega)]
  exact tagF_other (fun ex => by rw [ex] at ho; omega) (fun ex => by rw [ex] at ho; omega)
def zeroK (b : BlockV) (K : UInt64 → UInt64 → Prop) : UInt64 → UInt64 → Prop := fun o v => K o v ∨ (v = 0 ∧ ∃ i, i < wordsN b.len ∧ o.toNat = b.off.toNat + 32 + 8 * i)
theorem zero_all {G : UInt64 → UInt64} {Ls' : Nat → List UInt64} (F : Fits E h1 h2 A C b) (hu : b.tag.used = true)
  (hJ : ∀ G' : UInt64 → UInt64, (∀ o : UInt64, (o.toNat < b.off.toNat + 32 ∨ b.z ≤ o.toNat + 8) → G' o = G o) → Wd G' e (A ++ b :: C) Ls' K) :
  Wd (zeroF 4800 G (b.off + 32) (wordsN b.len)) e (A ++ b :: C) Ls' (zeroK b K) := by
 have hl := F.lay
 have hbm := F.mem
 have n := hl.nums hbm
 have e1 : (b.off + 32).toNat = b.off.toNat + 32 := hl.at_ hbm 32 (by decide)
 have hk := F.ok.2
 rw [if_pos hu] at hk
 obtain ⟨w1, w2, w3⟩ := need_words hk.1
 obtain ⟨z1, z2⟩ := zeroF_spec (f := G) (p := b.off + 32) (by omega) (wordsN b.len) (by omega)
 refine (hJ _ (fun o ho => z1 o (by omega))).more (fun o v hv => ?_)
 rcases hv with hv | ⟨rfl, i, hi, ho⟩
 · exact .inl hv
 · exact .inr ⟨z2 i hi o (by omega), b, hbm, hu, by omega, by omega⟩
theorem Wd.use0 (h : Wd f e (A ++ C) Ls K) (F : Fits E h1 h2 A C b) (hu : b.tag.used = true) (ho : b.tag.owner = 0) :
  Wd (zeroF 4800 (useF f b) (b.off + 32) (wordsN b.len)) e (A ++ b :: C) (updO Ls b) (zeroK b K) := by
 obtain ⟨t, o1⟩ := useF_spec (f := f) F hu
 have n := F.lay.nums F.mem
 have e2 := F.lay.last F.mem
 have e1 : (b.off + 8).toNat = b.off.toNat + 8 := F.lay.at_ F.mem 8 (by decide)
 refine zero_all F hu (fun G' hG => h.join F hu ⟨?_, ?_, fun hu => ?_⟩ (fun o hout _ => ?_) (fun c _ hco => ?_))
 · rw [hG _ (by omega)]; exact t.1
 · rw [hG _ (by omega)]; exact t.2.1
 · rw [hG _ (by omega)]; exact t.2.2 hu
 · rw [hG _ (by omega)]; exact o1 o hout
 · omega
theorem LedOK.at0 {l : List UInt64} {c : UInt64} (h : LedOK f c l) : f (headU c) = (l[0]?).getD 0 := by
  rw [h.first, show (0 : Int) = ((0 : Nat) : Int) from rfl, atL_nat]
theorem Wd.useL (h : Wd f e (A ++ C) Ls K) (F : Fits E h1 h2 A C b) (hu : b.tag.used = true) {c : UInt64} (hc : c.toNat < 8) (ho : b.tag.owner = (c.toNat : Int) + 1) :
  Wd (zeroF 4800 (linkF 4800 (useF f b) c b.off) (b.off + 32) (wordsN b.len)) e (A ++ b :: C) (updO Ls b) (zeroK b K) := by
 obtain ⟨t, o1⟩ := useF_spec (f := f) F hu
 have hl := F.gap.lay
 have n := F.lay.nums F.mem
 have e2 := F.lay.last F.mem
 have e8 : (b.off + 8).toNat = b.off.toNat + 8 := F.lay.at_ F.mem 8 (by decide)
 have e16 : (b.off + 16).toNat = b.off.toNat + 16 := F.lay.at_ F.mem 16 (by decide)
 have e24 : (b.off + 24).toNat = b.off.toNat + 24 := F.lay.at_ F.mem 24 (by decide)
 have eh := headU_nat hc
 have hhd : useF f b (headU c) = (Ls c.toNat)[0]?.getD 0 := by
  rw [o1 _ (by omega)]; exact (h.leds c hc).at0
 -- the block that came first
 have hfirst : ∀ y, (Ls c.toNat)[0]? = some y → useF f b (headU c) = y ∧ y ≠ 0 ∧ (y + 24).toNat = y.toNat + 24 ∧ (y.toNat + 48 ≤ b.off.toNat ∨ b.z ≤ y.toNat) ∧ 3776 ≤ y.toNat ∧ y.toNat + 48 ≤ 4800 ∧ y.toNat % 16 = 0 := fun y hy => by
  obtain ⟨a, ha, hau, hao, rfl⟩ := (h.own c.toNat hc y).1 (getE_mem hy)
  have m := hl.nums ha
  have o2 := F.out ha
  refine ⟨by rw [hhd, hy]; rfl, fun ex => ?_, hl.at_ ha 24 (by decide), by omega, by omega, by omega, by omega⟩
  rw [ex] at m
  have : (0 : UInt64).toNat = 0 := rfl
  omega
 have h4 : ∀ o : UInt64, (∀ y, (Ls c.toNat)[0]? = some y → o ≠ y + 24) → useF f b (headU c) ≠ 0 → o ≠ useF f b (headU c) + 24 := fun o hy hne => by
  cases hls : (Ls c.toNat)[0]? with
  | none => rw [hhd, hls] at hne; exact absurd rfl hne
  | some y => rw [(hfirst y hls).1]; exact hy y hls
 have hne24 : ∀ o : UInt64, b.off.toNat ≤ o.toNat → o.toNat < b.z → ∀ y, (Ls c.toNat)[0]? = some y → o ≠ y + 24 := fun o h5 h6 y hy ex => by
  have := hfirst y hy
  rw [ex] at h5 h6
  omega
 have inL : ∀ o : UInt64, (o = b.off ∨ o = b.off + b.tag.size - 8 ∨ o = b.off + 8) → linkF 4800 (useF f b) c b.off o = useF f b o := fun o ho' => by
  have hr : b.off.toNat ≤ o.toNat ∧ o.toNat < b.z ∧ o.toNat ≠ b.off.toNat + 16 ∧ o.toNat ≠ b.off.toNat + 24 := by
   rcases ho' with rfl | rfl | rfl <;> omega
  exact linkF_other (fun ex => by rw [ex] at hr; omega) (fun ex => by rw [ex] at hr; omega) (fun ex => by rw [ex] at hr; omega) (h4 o (hne24 o hr.1 hr.2.1))
 have z0 : useF f b (headU c) = 0 ↔ (Ls c.toNat)[0]? = none := by
  cases hls : (Ls c.toNat)[0]? with
  | none => rw [hhd, hls]; simp
  | some y => rw [(hfirst y hls).1]; simp [(hfirst y hls).2.1]
 have hb16 : b.off + 16 ≠ headU c := fun ex => by rw [ex] at e16; omega
 have hb24 : b.off + 24 ≠ headU c := fun ex => by rw [ex] at e24; omega
 have h1624 : b.off + 16 ≠ b.off + 24 := fun ex => by rw [ex] at e16; omega
 refine zero_all F hu (fun G' hG => h.join F hu ⟨?_, ?_, fun hu => ?_⟩ (fun o hout hsp => ?_) (fun c' hc' hco => ?_))
 ·rw [hG _ (by omega), inL _ (.inl rfl)]; exact t.1
 ·rw [hG _ (by omega), inL _ (.inr (.inl rfl))]; exact t.2.1
 ·rw [hG _ (by omega), inL _ (.inr (.inr rfl))]; exact t.2.2 hu
 ·rw [hG _ (by omega)]
  obtain ⟨s1, s2⟩ := hsp c hc ho
  rw [linkF_other (fun ex => by rw [ex] at hout; omega) (fun ex => by rw [ex] at hout; omega) s1 (h4 o s2)]
  exact o1 o hout
 ·have : c' = c := UInt64.toNat_inj.1 (by omega)
  subst this
  refine ⟨?_, ?_, ?_, fun y hy => ?_⟩
  ·rw [hG _ (by omega)]
   unfold linkF
   rw [stF_in _ _ (by omega) (by omega), upd_same]
  ·rw [hG _ (by omega), show (0 : Int) = ((0 : Nat) : Int) from rfl, atL_nat, ← hhd]
   unfold linkF
   rw [stF_other _ _ _ hb16]
   by_cases hz : useF f b (headU c') = 0
   · rw [if_pos hz, stF_other _ _ _ h1624, stF_in _ _ (by omega) (by omega), upd_same]
   · rw [if_neg hz, stF_other _ _ _ (h4 _ (hne24 _ (by omega) (by omega)) hz), stF_other _ _ _ h1624, stF_in _ _ (by omega) (by omega), upd_same]
  ·rw [hG _ (by omega)]
   unfold linkF
   rw [stF_other _ _ _ hb24]
   by_cases hz : useF f b (headU c') = 0
   · rw [if_pos hz, stF_in _ _ (by omega) (by omega), upd_same]
   · rw [if_neg hz, stF_other _ _ _ (h4 _ (hne24 _ (by omega) (by omega)) hz), stF_in _ _ (by omega) (by omega), upd_same]
  ·have q := hfirst y hy
   have hz : ¬ useF f b (headU c') = 0 := fun ex => by rw [z0.1 ex] at hy; cases hy
   rw [hG _ (by omega)]
   unfold linkF
   rw [stF_other _ _ _ (fun ex => by have := q.2.2.1; rw [ex] at this; omega), if_neg hz, q.1, stF_in _ _ (by omega) (by omega), upd_same]
end
end
end Go.Proofs.YtefpbljekfkefaaGreat
