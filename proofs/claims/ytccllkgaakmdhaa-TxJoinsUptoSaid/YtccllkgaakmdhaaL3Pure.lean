/- What is thought of, and applied: plain laws, no program in sight. -/
import Derived.Test.YtccllkgaakmdhaaL3Thought
namespace Go.Proofs.Ytccllkgaakmdhaa

/-- the offsets, and that each stands once -/
def keysP (l : List Put) : List UInt64 := l.map (·.1)

theorem nodup_sub {α : Type} [DecidableEq α] {d : List α} : ∀ {k : List α}, d.Nodup → (∀ x ∈ d, x ∈ k) → d.length ≤ k.length := by
  induction d with
  | nil => intro k _ _; simp
  | cons x d ih =>
    intro k hn hs
    have hx : x ∈ k := hs x (by simp)
    have h1 := List.nodup_cons.1 hn
    have h2 := ih (k := k.erase x) h1.2 (fun y hy => by
      have hne : y ≠ x := fun e => h1.1 (by rw [← e]; exact hy)
      exact (List.mem_erase_of_ne hne).2 (hs y (by simp [hy])))
    rw [List.length_erase_of_mem hx] at h2
    have := List.length_pos_of_mem hx
    simp only [List.length_cons]
    omega

theorem loadP_mem {l : List Put} {off v : UInt64} (h : loadP l off = some v) : (off, v) ∈ l := by
  induction l with
  | nil => simp [loadP] at h
  | cons x l ih =>
    unfold loadP at h
    split at h
    · rename_i e
      subst e
      simp at h
      subst h
      simp
    · simp [ih h]
theorem loadP_none {l : List Put} {off : UInt64} : loadP l off = none ↔ off ∉ keysP l := by
  induction l with
  | nil => simp [loadP, keysP]
  | cons x l ih =>
    unfold loadP
    split
    · rename_i e; simp [keysP, e]
    · rename_i e
      simp only [keysP, List.map_cons, List.mem_cons, not_or] at ih ⊢
      exact ⟨fun h => ⟨e, ih.1 h⟩, fun h => ih.2 h.2⟩
theorem loadP_nodup {l : List Put} (hn : (keysP l).Nodup) {x : Put} (hx : x ∈ l) : loadP l x.1 = some x.2 := by
  induction l with
  | nil => simp at hx
  | cons y l ih =>
    simp only [keysP, List.map_cons, List.nodup_cons] at hn
    unfold loadP
    rcases List.mem_cons.1 hx with rfl | hx
    · simp
    · split
      · rename_i e
        exact absurd (by rw [← e]; exact List.mem_map.2 ⟨x, hx, rfl⟩) hn.1
      · exact ih hn.2 hx

theorem told_nodup {l : List Put} (hn : (keysP l).Nodup) : told l = l := by
  unfold told
  conv => rhs; rw [← List.map_id l]
  refine List.map_congr_left fun x hx => ?_
  rw [loadP_nodup hn hx]
  rfl

theorem keysP_store {l : List Put} (off v : UInt64) : keysP (storeP l off v) = if off ∈ keysP l then keysP l else keysP l ++ [off] := by
  induction l with
  | nil => simp [storeP, keysP]
  | cons x l ih =>
    unfold storeP
    split
    · rename_i e; simp [keysP, e]
    · rename_i e
      simp only [keysP, List.map_cons, List.mem_cons] at ih ⊢
      rw [ih]
      by_cases h : off ∈ List.map (fun x => x.1) l
      · simp [h]
      · simp [h, e]
theorem storeP_nodup {l : List Put} (hn : (keysP l).Nodup) (off v : UInt64) : (keysP (storeP l off v)).Nodup := by
  rw [keysP_store]
  split
  · exact hn
  · rename_i h
    rw [List.nodup_append]
    refine ⟨hn, by simp, fun a ha b hb e => ?_⟩
    simp at hb
    subst hb; subst e
    exact h ha

/-- each stands once, and in the segment -/
def GoodP (ws : List UInt64) (l : List Put) : Prop := (keysP l).Nodup ∧ ∀ x ∈ l, inB ws x.1 = true
theorem GoodP.nil (ws : List UInt64) : GoodP ws [] := ⟨by simp [keysP], by simp⟩
theorem GoodP.store {ws : List UInt64} {l : List Put} (h : GoodP ws l) (off v : UInt64) : GoodP ws (txStore ws l off v) := by
  unfold txStore
  split
  · rename_i hin
    refine ⟨storeP_nodup h.1 off v, fun x hx => ?_⟩
    have : x.1 ∈ keysP (storeP l off v) := List.mem_map.2 ⟨x, hx, rfl⟩
    rw [keysP_store] at this
    have h2 : x.1 ∈ keysP l ∨ x.1 = off := by
      split at this
      · exact .inl this
      · simpa using this
    rcases h2 with h2 | h2
    · obtain ⟨y, hy, e⟩ := List.mem_map.1 h2
      rw [← e]; exact h.2 y hy
    · rw [h2]; exact hin
  · exact h
theorem GoodP.fold {ws : List UInt64} (k : List Put) : ∀ {acc : List Put}, GoodP ws acc → GoodP ws (k.foldl (fun acc x => txStore ws acc x.1 x.2) acc) := by
  induction k with
  | nil => intro acc h; exact h
  | cons x k ih => intro acc h; exact ih (h.store x.1 x.2)
theorem good_thP (ws : List UInt64) (k : List Put) : GoodP ws (thP ws k) := GoodP.fold k (GoodP.nil ws)
theorem told_thP (ws : List UInt64) (k : List Put) : told (thP ws k) = thP ws k := told_nodup (good_thP ws k).1

theorem inB_len {ws ws' : List UInt64} (h : ws'.length = ws.length) (off : UInt64) : inB ws' off = inB ws off := by unfold inB; rw [h]
theorem inB_iff {ws : List UInt64} {off : UInt64} : inB ws off = true ↔ off.toNat % 8 = 0 ∧ off.toNat < 8 * ws.length := by simp [inB]

/-- a word behind a store -/
theorem putW_get (ws : List UInt64) (off v : UInt64) (hin : inB ws off = true) (i : Nat) (hi : i < ws.length) :
    (putW ws off v)[i]? = if off.toNat = 8 * i then some v else ws[i]? := by
  have h := inB_iff.1 hin
  unfold putW
  rw [if_pos hin, List.getElem?_set]
  by_cases e : off.toNat = 8 * i
  · rw [if_pos e, if_pos (by omega), if_pos (by omega)]
  · rw [if_neg e, if_neg (by omega)]
theorem putW_out (ws : List UInt64) (off v : UInt64) (hin : inB ws off = false) : putW ws off v = ws := by simp [putW, hin]

/-- the words behind all that are thought of -/
theorem applyW_get {l : List Put} : ∀ {ws : List UInt64}, (keysP l).Nodup → (∀ x ∈ l, inB ws x.1 = true) → ∀ (i : Nat) (off : UInt64), i < ws.length → off.toNat = 8 * i → (applyW ws l)[i]? = (loadP l off).or ws[i]? := by
  induction l with
  | nil => intro ws _ _ i off hi ho; simp [applyW, loadP]
  | cons x l ih =>
    intro ws hn hb i off hi ho
    simp only [keysP, List.map_cons, List.nodup_cons] at hn
    have hx := hb x (by simp)
    have hlen := putW_length ws x.1 x.2
    have h1 : applyW ws (x :: l) = applyW (putW ws x.1 x.2) l := rfl
    rw [h1, ih hn.2 (fun y hy => by rw [inB_len hlen]; exact hb y (by simp [hy])) i off (by omega) ho, putW_get ws x.1 x.2 hx i hi]
    have hl : loadP (x :: l) off = if off = x.1 then some x.2 else loadP l off := rfl
    rw [hl]
    by_cases e : off = x.1
    · rw [if_pos e]
      have : loadP l off = none := loadP_none.2 (by rw [e]; exact hn.1)
      rw [this, if_pos (by rw [← e]; exact ho)]
      rfl
    · rw [if_neg e, if_neg (fun h => e (UInt64.toNat_inj.1 (by omega)))]

/-- the words' offset -/
theorem off_of (ws : List UInt64) (hs : ws.length ≤ 131072) (i : Nat) (hi : i < ws.length) : (UInt64.ofNat (8 * i)).toNat = 8 * i := by
  rw [UInt64.toNat_ofNat']; omega

theorem loadP_store {l : List Put} (off v o : UInt64) : loadP (storeP l off v) o = if o = off then some v else loadP l o := by
  induction l with
  | nil => simp [storeP, loadP]
  | cons x l ih =>
    unfold storeP
    split
    · rename_i e
      subst e
      unfold loadP
      split <;> rfl
    · rename_i e
      unfold loadP
      rw [ih]
      by_cases h : o = x.1
      · simp only [if_pos h]
        rw [if_neg (fun e2 => e (by rw [← e2, h]))]
      · simp only [if_neg h]

theorem applyW_store {ws : List UInt64} {l : List Put} (hs : ws.length ≤ 131072) (h : GoodP ws l) (off v : UInt64) : applyW ws (txStore ws l off v) = putW (applyW ws l) off v := by
  have hlen := applyW_length l ws
  by_cases hin : inB ws off = true
  · have h2 := h.store off v
    apply List.ext_getElem?
    intro i
    by_cases hi : i < ws.length
    · have ho := off_of ws hs i hi
      rw [applyW_get h2.1 h2.2 i _ hi ho, putW_get _ off v (by rw [inB_len hlen]; exact hin) i (by omega), applyW_get h.1 h.2 i _ hi ho]
      unfold txStore
      rw [if_pos hin, loadP_store]
      by_cases e : UInt64.ofNat (8 * i) = off
      · rw [if_pos e, if_pos (by rw [← e]; exact ho)]; rfl
      · rw [if_neg e, if_neg (fun h => e (UInt64.toNat_inj.1 (by omega)))]
    · rw [List.getElem?_eq_none (by rw [applyW_length]; omega), List.getElem?_eq_none (by rw [putW_length]; omega)]
  · have hf : inB ws off = false := by simpa using hin
    unfold txStore
    rw [if_neg hin, putW_out _ _ _ (by rw [inB_len hlen]; exact hf)]
theorem applyW_fold {ws : List UInt64} (hs : ws.length ≤ 131072) (k : List Put) : ∀ {acc : List Put}, GoodP ws acc → applyW ws (k.foldl (fun acc x => txStore ws acc x.1 x.2) acc) = applyW (applyW ws acc) k := by
  induction k with
  | nil => intro acc _; rfl
  | cons x k ih =>
    intro acc h
    rw [List.foldl_cons, ih (h.store x.1 x.2), applyW_store hs h]
    rfl
/-- thought of and applied it is as stored, one behind the other -/
theorem applyW_thP {ws : List UInt64} (hs : ws.length ≤ 131072) (k : List Put) : applyW ws (thP ws k) = applyW ws k := applyW_fold hs k (GoodP.nil ws)

theorem applyW_again {ws : List UInt64} {l : List Put} (hs : ws.length ≤ 131072) (h : GoodP ws l) : applyW (applyW ws l) l = applyW ws l := by
  have hlen := applyW_length l ws
  apply List.ext_getElem?
  intro i
  by_cases hi : i < ws.length
  · have ho := off_of ws hs i hi
    rw [applyW_get h.1 (fun x hx => by rw [inB_len hlen]; exact h.2 x hx) i _ (by omega) ho, applyW_get h.1 h.2 i _ hi ho]
    cases loadP l (UInt64.ofNat (8 * i)) <;> rfl
  · rw [List.getElem?_eq_none (by rw [applyW_length]; omega), List.getElem?_eq_none (by omega)]

theorem good_length {ws : List UInt64} {l : List Put} (h : GoodP ws l) : l.length ≤ ws.length := by
  have := nodup_sub (d := keysP l) (k := (List.range ws.length).map (fun i => UInt64.ofNat (8 * i))) h.1 (fun o ho => by
    obtain ⟨x, hx, rfl⟩ := List.mem_map.1 ho
    have hb := inB_iff.1 (h.2 x hx)
    refine List.mem_map.2 ⟨x.1.toNat / 8, List.mem_range.2 (by omega), ?_⟩
    apply UInt64.toNat_inj.1
    rw [UInt64.toNat_ofNat']
    have := x.1.toNat_lt
    omega)
  simpa [keysP] using this
end Go.Proofs.Ytccllkgaakmdhaa
