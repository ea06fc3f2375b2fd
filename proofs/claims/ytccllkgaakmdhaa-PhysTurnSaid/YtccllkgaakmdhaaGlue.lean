/- Plain laws of what is thought of, and small joints of the contracts. -/
import Derived.Test.YtccllkgaakmdhaaCoreB
import Derived.Deep.RegionHeld3
namespace Go.Proofs.Ytccllkgaakmdhaa
open Go.RowKit

theorem keeps_drew (w : World) : Keeps Nil w w.drew := (Keeps.refl Nil w).drew

/-- what is thought of behind stores, in turn -/
def thP (ws : List UInt64) (k : List Put) : List Put := k.foldl (fun acc x => txStore ws acc x.1 x.2) []
theorem thP_snoc (ws : List UInt64) (k : List Put) (x : Put) : thP ws (k ++ [x]) = txStore ws (thP ws k) x.1 x.2 := by simp [thP]
theorem thP_take {ws : List UInt64} {l : List Put} {k : Nat} {x : Put} (h : l[k]? = some x) : thP ws (l.take (k + 1)) = txStore ws (thP ws (l.take k)) x.1 x.2 := by rw [take_succ' h, thP_snoc]
theorem storeP_length (l : List Put) (off v : UInt64) : (storeP l off v).length ≤ l.length + 1 := by
  induction l with
  | nil => simp [storeP]
  | cons x l ih => simp only [storeP]; split <;> simp; omega
theorem txStore_length (ws : List UInt64) (l : List Put) (off v : UInt64) : (txStore ws l off v).length ≤ l.length + 1 := by
  unfold txStore; split
  · exact storeP_length l off v
  · omega
theorem foldl_store_length (ws : List UInt64) (k : List Put) : ∀ acc : List Put, (k.foldl (fun acc x => txStore ws acc x.1 x.2) acc).length ≤ acc.length + k.length := by
  induction k with
  | nil => intro acc; simp
  | cons x k ih =>
    intro acc
    have h1 := ih (txStore ws acc x.1 x.2)
    have h2 := txStore_length ws acc x.1 x.2
    simp only [List.foldl_cons, List.length_cons]
    omega
theorem thP_length (ws : List UInt64) (k : List Put) : (thP ws k).length ≤ k.length := by
  have := foldl_store_length ws k []
  simpa [thP] using this



/-- the offsets, and that each stands once -/
def keysP (l : List Put) : List UInt64 := l.map (·.1)

theorem nodup_sub {α : Type} [DecidableEq α] {d : List α} : ∀ {k : List α}, d.Nodup → (∀ x ∈ d, x ∈ k) → d.length ≤ k.length := by
  induction d with
  | nil => intro k _ _; simp
  | cons x d ih =>
    intro k hn hs
    have hx : x ∈ k := hs x (by simp)
    have h1 := List.nodup_cons.1 hn
    have h2 := ih (k := k.erase x) h1.2 (fun y hy => by
      have hne : y ≠ x := fun e => h1.1 (by rw [← e]; exact hy)
      exact (List.mem_erase_of_ne hne).2 (hs y (by simp [hy])))
    rw [List.length_erase_of_mem hx] at h2
    have := List.length_pos_of_mem hx
    simp only [List.length_cons]
    omega

theorem loadP_mem {l : List Put} {off v : UInt64} (h : loadP l off = some v) : (off, v) ∈ l := by
  induction l with
  | nil => simp [loadP] at h
  | cons x l ih =>
    unfold loadP at h
    split at h
    · rename_i e
      subst e
      simp at h
      subst h
      simp
    · simp [ih h]
theorem loadP_none {l : List Put} {off : UInt64} : loadP l off = none ↔ off ∉ keysP l := by
  induction l with
  | nil => simp [loadP, keysP]
  | cons x l ih =>
    unfold loadP
    split
    · rename_i e; simp [keysP, e]
    · rename_i e
      simp only [keysP, List.map_cons, List.mem_cons, not_or] at ih ⊢
      exact ⟨fun h => ⟨e, ih.1 h⟩, fun h => ih.2 h.2⟩
theorem loadP_nodup {l : List Put} (hn : (keysP l).Nodup) {x : Put} (hx : x ∈ l) : loadP l x.1 = some x.2 := by
  induction l with
  | nil => simp at hx
  | cons y l ih =>
    simp only [keysP, List.map_cons, List.nodup_cons] at hn
    unfold loadP
    rcases List.mem_cons.1 hx with rfl | hx
    · simp
    · split
      · rename_i e
        exact absurd (by rw [← e]; exact List.mem_map.2 ⟨x, hx, rfl⟩) hn.1
      · exact ih hn.2 hx

theorem told_nodup {l : List Put} (hn : (keysP l).Nodup) : told l = l := by
  unfold told
  conv => rhs; rw [← List.map_id l]
  refine List.map_congr_left fun x hx => ?_
  rw [loadP_nodup hn hx]
  rfl

theorem keysP_store {l : List Put} (off v : UInt64) : keysP (storeP l off v) = if off ∈ keysP l then keysP l else keysP l ++ [off] := by
  induction l with
  | nil => simp [storeP, keysP]
  | cons x l ih =>
    unfold storeP
    split
    · rename_i e; simp [keysP, e]
    · rename_i e
      simp only [keysP, List.map_cons, List.mem_cons] at ih ⊢
      rw [ih]
      by_cases h : off ∈ List.map (fun x => x.1) l
      · simp [h]
      · simp [h, e]
theorem storeP_nodup {l : List Put} (hn : (keysP l).Nodup) (off v : UInt64) : (keysP (storeP l off v)).Nodup := by
  rw [keysP_store]
  split
  · exact hn
  · rename_i h
    rw [List.nodup_append]
    refine ⟨hn, by simp, fun a ha b hb e => ?_⟩
    simp at hb
    subst hb; subst e
    exact h ha

/-- each stands once, and in the segment -/
def GoodP (ws : List UInt64) (l : List Put) : Prop := (keysP l).Nodup ∧ ∀ x ∈ l, inB ws x.1 = true
theorem GoodP.nil (ws : List UInt64) : GoodP ws [] := ⟨by simp [keysP], by simp⟩
theorem GoodP.store {ws : List UInt64} {l : List Put} (h : GoodP ws l) (off v : UInt64) : GoodP ws (txStore ws l off v) := by
  unfold txStore
  split
  · rename_i hin
    refine ⟨storeP_nodup h.1 off v, fun x hx => ?_⟩
    have : x.1 ∈ keysP (storeP l off v) := List.mem_map.2 ⟨x, hx, rfl⟩
    rw [keysP_store] at this
    have h2 : x.1 ∈ keysP l ∨ x.1 = off := by
      split at this
      · exact .inl this
      · simpa using this
    rcases h2 with h2 | h2
    · obtain ⟨y, hy, e⟩ := List.mem_map.1 h2
      rw [← e]; exact h.2 y hy
    · rw [h2]; exact hin
  · exact h
theorem GoodP.fold {ws : List UInt64} (k : List Put) : ∀ {acc : List Put}, GoodP ws acc → GoodP ws (k.foldl (fun acc x => txStore ws acc x.1 x.2) acc) := by
  induction k with
  | nil => intro acc h; exact h
  | cons x k ih => intro acc h; exact ih (h.store x.1 x.2)
theorem good_thP (ws : List UInt64) (k : List Put) : GoodP ws (thP ws k) := GoodP.fold k (GoodP.nil ws)
theorem told_thP (ws : List UInt64) (k : List Put) : told (thP ws k) = thP ws k := told_nodup (good_thP ws k).1

theorem inB_len {ws ws' : List UInt64} (h : ws'.length = ws.length) (off : UInt64) : inB ws' off = inB ws off := by unfold inB; rw [h]
theorem inB_iff {ws : List UInt64} {off : UInt64} : inB ws off = true ↔ off.toNat % 8 = 0 ∧ off.toNat < 8 * ws.length := by simp [inB]

/-- a word behind a store -/
theorem putW_get (ws : List UInt64) (off v : UInt64) (hin : inB ws off = true) (i : Nat) (hi : i < ws.length) :
    (putW ws off v)[i]? = if off.toNat = 8 * i then some v else ws[i]? := by
  have h := inB_iff.1 hin
  unfold putW
  rw [if_pos hin, List.getElem?_set]
  by_cases e : off.toNat = 8 * i
  · rw [if_pos e, if_pos (by omega), if_pos (by omega)]
  · rw [if_neg e, if_neg (by omega)]
theorem putW_out (ws : List UInt64) (off v : UInt64) (hin : inB ws off = false) : putW ws off v = ws := by simp [putW, hin]

/-- the words behind all that are thought of -/
theorem applyW_get {l : List Put} : ∀ {ws : List UInt64}, (keysP l).Nodup → (∀ x ∈ l, inB ws x.1 = true) → ∀ (i : Nat) (off : UInt64), i < ws.length → off.toNat = 8 * i → (applyW ws l)[i]? = (loadP l off).or ws[i]? := by
  induction l with
  | nil => intro ws _ _ i off hi ho; simp [applyW, loadP]
  | cons x l ih =>
    intro ws hn hb i off hi ho
    simp only [keysP, List.map_cons, List.nodup_cons] at hn
    have hx := hb x (by simp)
    have hlen := putW_length ws x.1 x.2
    have h1 : applyW ws (x :: l) = applyW (putW ws x.1 x.2) l := rfl
    rw [h1, ih hn.2 (fun y hy => by rw [inB_len hlen]; exact hb y (by simp [hy])) i off (by omega) ho, putW_get ws x.1 x.2 hx i hi]
    have hl : loadP (x :: l) off = if off = x.1 then some x.2 else loadP l off := rfl
    rw [hl]
    by_cases e : off = x.1
    · rw [if_pos e]
      have : loadP l off = none := loadP_none.2 (by rw [e]; exact hn.1)
      rw [this, if_pos (by rw [← e]; exact ho)]
      rfl
    · rw [if_neg e, if_neg (fun h => e (UInt64.toNat_inj.1 (by omega)))]

/-- the words' offset -/
theorem off_of (ws : List UInt64) (hs : ws.length ≤ 131072) (i : Nat) (hi : i < ws.length) : (UInt64.ofNat (8 * i)).toNat = 8 * i := by
  rw [UInt64.toNat_ofNat']; omega

theorem loadP_store {l : List Put} (off v o : UInt64) : loadP (storeP l off v) o = if o = off then some v else loadP l o := by
  induction l with
  | nil => simp [storeP, loadP]
  | cons x l ih =>
    unfold storeP
    split
    · rename_i e
      subst e
      unfold loadP
      split <;> rfl
    · rename_i e
      unfold loadP
      rw [ih]
      by_cases h : o = x.1
      · simp only [if_pos h]
        rw [if_neg (fun e2 => e (by rw [← e2, h]))]
      · simp only [if_neg h]

theorem applyW_store {ws : List UInt64} {l : List Put} (hs : ws.length ≤ 131072) (h : GoodP ws l) (off v : UInt64) : applyW ws (txStore ws l off v) = putW (applyW ws l) off v := by
  have hlen := applyW_length l ws
  by_cases hin : inB ws off = true
  · have h2 := h.store off v
    apply List.ext_getElem?
    intro i
    by_cases hi : i < ws.length
    · have ho := off_of ws hs i hi
      rw [applyW_get h2.1 h2.2 i _ hi ho, putW_get _ off v (by rw [inB_len hlen]; exact hin) i (by omega), applyW_get h.1 h.2 i _ hi ho]
      unfold txStore
      rw [if_pos hin, loadP_store]
      by_cases e : UInt64.ofNat (8 * i) = off
      · rw [if_pos e, if_pos (by rw [← e]; exact ho)]; rfl
      · rw [if_neg e, if_neg (fun h => e (UInt64.toNat_inj.1 (by omega)))]
    · rw [List.getElem?_eq_none (by rw [applyW_length]; omega), List.getElem?_eq_none (by rw [putW_length]; omega)]
  · have hf : inB ws off = false := by simpa using hin
    unfold txStore
    rw [if_neg hin, putW_out _ _ _ (by rw [inB_len hlen]; exact hf)]
theorem applyW_fold {ws : List UInt64} (hs : ws.length ≤ 131072) (k : List Put) : ∀ {acc : List Put}, GoodP ws acc → applyW ws (k.foldl (fun acc x => txStore ws acc x.1 x.2) acc) = applyW (applyW ws acc) k := by
  induction k with
  | nil => intro acc _; rfl
  | cons x k ih =>
    intro acc h
    rw [List.foldl_cons, ih (h.store x.1 x.2), applyW_store hs h]
    rfl
/-- thought of and applied it is as stored, one behind the other -/
theorem applyW_thP {ws : List UInt64} (hs : ws.length ≤ 131072) (k : List Put) : applyW ws (thP ws k) = applyW ws k := applyW_fold hs k (GoodP.nil ws)

theorem applyW_again {ws : List UInt64} {l : List Put} (hs : ws.length ≤ 131072) (h : GoodP ws l) : applyW (applyW ws l) l = applyW ws l := by
  have hlen := applyW_length l ws
  apply List.ext_getElem?
  intro i
  by_cases hi : i < ws.length
  · have ho := off_of ws hs i hi
    rw [applyW_get h.1 (fun x hx => by rw [inB_len hlen]; exact h.2 x hx) i _ (by omega) ho, applyW_get h.1 h.2 i _ hi ho]
    cases loadP l (UInt64.ofNat (8 * i)) <;> rfl
  · rw [List.getElem?_eq_none (by rw [applyW_length]; omega), List.getElem?_eq_none (by omega)]

theorem good_length {ws : List UInt64} {l : List Put} (h : GoodP ws l) : l.length ≤ ws.length := by
  have := nodup_sub (d := keysP l) (k := (List.range ws.length).map (fun i => UInt64.ofNat (8 * i))) h.1 (fun o ho => by
    obtain ⟨x, hx, rfl⟩ := List.mem_map.1 ho
    have hb := inB_iff.1 (h.2 x hx)
    refine List.mem_map.2 ⟨x.1.toNat / 8, List.mem_range.2 (by omega), ?_⟩
    apply UInt64.toNat_inj.1
    rw [UInt64.toNat_ofNat']
    have := x.1.toNat_lt
    omega)
  simpa [keysP] using this

/-- a Tx's two rows in a block, behind steps that turn nothing -/
theorem row2 {w : World} {m : Nat} {a b : Value} {T : TypeId} (h : w.heap[m]? = some (.cells #[a, b] T (0, 0))) : w.cell? ⟨m, 0, none⟩ = some a ∧ w.cell? ⟨m, 1, none⟩ = some b :=
  ⟨by simp [World.cell?, h], by simp [World.cell?, h]⟩


/-- a struct of two words in a block of its own, behind steps that turn nothing -/
theorem box2 {w w' : World} {k : Nat} {a b : Value} {T : TypeId} (h : w.heap[k]? = some (.cells #[a, b] T (0, 0))) (hK : Keeps Nil w w') :
    w'.heap[k]? = some (.cells #[a, b] T (0, 0)) ∧ w'.cell? ⟨k, 0, none⟩ = some a ∧ w'.cell? ⟨k, 1, none⟩ = some b := by
  have h' := hK.at h (fun e => e)
  exact ⟨h', by simp [World.cell?, h'], by simp [World.cell?, h']⟩


/-- the words' row and the document's, held against each other -/
theorem nums_same {S : Nat → Prop} {w1 w : World} {v v2 : Value} {base : Nat} {l l2 : List UInt64} (h : Own kU w1 base v l) (hK : Keeps Nil w1 w) (h2 : View kU S w v2 l2) (he : l = l2) :
    Calls Try.prog 29 #[v, v2] w fun e w' => e = .returned (.bool true) ∧ Keeps Nil w w' := by
  have := Nums_any ((h.keeps_nil hK).view (S := Nil) (fun _ _ e => e)) h2
  rw [decide_eq_true he] at this
  exact this
theorem puts_same {S : Nat → Prop} {w1 w : World} {v v2 : Value} {base : Nat} {l l2 : List Put} (h : Own kP w1 base v l) (hK : Keeps Nil w1 w) (h2 : View kP S w v2 l2) (he : l = l2) :
    Calls Try.prog 32 #[v, v2] w fun e w' => e = .returned (.bool true) ∧ Keeps Nil w w' := by
  have := Same_any ((h.keeps_nil hK).view (S := Nil) (fun _ _ e => e)) h2
  rw [decide_eq_true he] at this
  exact this


theorem diffL_self (ws : List UInt64) : diffL ws ws = [] := by
  simp [diffL, diffTo]
theorem Mem.bare {w : World} {s t : Nat} {l : List Put} {ws : List UInt64} {S : Nat → Prop} (h : Mem w s t l ws S) :
    Calls Try.prog 47 #[.pointer (some ⟨t, 0, none⟩)] w fun e w' => ∃ tb S', e = .returned (.pointer (some ⟨tb, 0, none⟩)) ∧ Mem w' s tb [] ws S' ∧ Keeps Nil w w' := by
  obtain ⟨q, m, tv, h1, h2, h3, h4, h5⟩ := h
  refine (TxBare_some h1).mono ?_
  rintro e w' ⟨rfl, g1, g2, _⟩
  have hl := h2.lt
  have hS : ∀ k, txS (w.heap.size + 1) w.heap.size (.slice none 0 0) k → w.heap.size ≤ k := fun k hk => by
    rcases hk with rfl | rfl | hk
    · omega
    · omega
    · cases hk
  exact ⟨w.heap.size + 1, fun k => txS (w.heap.size + 1) w.heap.size (.slice none 0 0) k ∨ k = s ∨ k = q, rfl, ⟨q, _, _, g1, h2.keeps g2 (fun e => e) (fun e => e), fun e => by have := hS _ e; omega, fun e => by have := hS _ e; omega, fun k => Iff.rfl⟩, g2⟩
theorem Mem.diff {w : World} {s t p' q' : Nat} {l : List Put} {ws vs : List UInt64} {S : Nat → Prop} (h : Mem w s t l ws S) (h' : SegAt w p' q' vs) (hl : ws.length = vs.length) :
    Calls Try.prog 44 #[.pointer (some ⟨s, 0, none⟩), .pointer (some ⟨p', 0, none⟩)] w fun e w' => ∃ v, e = .returned v ∧ Own kU w' w.heap.size v (diffL ws vs) ∧ Keeps Nil w w' := by
  obtain ⟨q, m, tv, h1, h2, h3, h4, h5⟩ := h
  exact Diff_any h2 h' hl
theorem Own.empty {α : Type} {K : Kind α} {w : World} {base : Nat} {v : Value} (h : Own K w base v []) : ∃ a cap, v = .slice a 0 cap := by
  obtain ⟨a, cap, e, _⟩ := (h.view (S := Nil) (fun _ _ e => e)).val
  exact ⟨a, cap, e⟩

theorem diff_sub {ws : List UInt64} {l : List Put} (hs : ws.length ≤ 131072) (h : GoodP ws l) {x : UInt64} (hx : x ∈ diffL ws (applyW ws l)) : x ∈ keysP l := by
  unfold diffL diffTo at hx
  obtain ⟨i, hi, rfl⟩ := List.mem_map.1 hx
  obtain ⟨hr, hne⟩ := List.mem_filter.1 hi
  have hi' : i < ws.length := List.mem_range.1 hr
  have hg := applyW_get h.1 h.2 i (offU i) hi' (off_ofNat (by omega))
  cases e : loadP l (offU i) with
  | none =>
    rw [hg, e] at hne
    simp at hne
  | some u => exact List.mem_map.2 ⟨_, loadP_mem e, rfl⟩
theorem diff_nodup {ws vs : List UInt64} (hs : ws.length ≤ 131072) : (diffL ws vs).Nodup := by
  unfold diffL diffTo List.Nodup
  rw [List.pairwise_map]
  have h1 : (List.range ws.length).Pairwise (fun a b => a < b) := List.pairwise_lt_range
  have h2 := h1.filter (fun i => ws[i]?.getD 0 != vs[i]?.getD 0)
  refine h2.imp_of_mem fun {a b} ha hb hlt e => ?_
  have h3 : a < ws.length := List.mem_range.1 (List.mem_filter.1 ha).1
  have h4 : b < ws.length := List.mem_range.1 (List.mem_filter.1 hb).1
  have := congrArg UInt64.toNat e
  rw [off_ofNat (by omega), off_ofNat (by omega)] at this
  omega
theorem diff_le {ws : List UInt64} {l : List Put} (hs : ws.length ≤ 131072) (h : GoodP ws l) : (diffL ws (applyW ws l)).length ≤ l.length := by
  have := nodup_sub (diff_nodup hs) (fun x hx => diff_sub hs h hx)
  simpa [keysP] using this
theorem keys_apart {l : List Put} (hn : (keysP l).Nodup) {i j : Nat} {x y : Put} (hi : l[i]? = some x) (hj : l[j]? = some y) (hne : j < i) : y.1 ≠ x.1 := by
  intro e
  have h1 := List.pairwise_iff_getElem.1 hn
  obtain ⟨a1, a2⟩ := List.getElem?_eq_some_iff.1 hi
  obtain ⟨b1, b2⟩ := List.getElem?_eq_some_iff.1 hj
  have := h1 j i (by simpa [keysP] using b1) (by simpa [keysP] using a1) hne
  simp only [keysP, List.getElem_map, a2, b2] at this
  exact this e
theorem once_load {ws : List UInt64} {l : List Put} (hn : (keysP l).Nodup) {i : Nat} {x : Put} (hi : l[i]? = some x) : txLoad ws l x.1 = x.2 := by
  unfold txLoad
  rw [loadP_nodup hn (List.mem_of_getElem? hi)]
  rfl
theorem Mem.copy {w : World} {s t : Nat} {l : List Put} {ws : List UInt64} {S : Nat → Prop} (h : Mem w s t l ws S) :
    Calls Try.prog 58 #[.pointer (some ⟨s, 0, none⟩)] w fun e w' =>
      ∃ p' q', e = .returned (.pointer (some ⟨p', 0, none⟩)) ∧ w.heap.size ≤ p' ∧ w.heap.size ≤ q' ∧ SegAt w' p' q' ws ∧ Keeps Nil w w' := by
  obtain ⟨q, m, tv, h1, h2, h3, h4, h5⟩ := h
  exact Copy_some h2
theorem Mem.diffOf {w : World} {s t p' q' : Nat} {l : List Put} {ws vs : List UInt64} {S : Nat → Prop} (h : Mem w s t l ws S) (h' : SegAt w p' q' vs) (hl : vs.length = ws.length) :
    Calls Try.prog 44 #[.pointer (some ⟨p', 0, none⟩), .pointer (some ⟨s, 0, none⟩)] w fun e w' => ∃ v, e = .returned v ∧ Own kU w' w.heap.size v (diffL vs ws) ∧ Keeps Nil w w' := by
  obtain ⟨q, m, tv, h1, h2, h3, h4, h5⟩ := h
  exact Diff_any h' h2 hl
theorem ne_u64 {a b : UInt64} (h : a ≠ b) : ((a.toNat : Int) == (b.toNat : Int)) = false := by
  rw [beq_eq_false_iff_ne]; intro e; exact h (UInt64.toNat_inj.1 (by omega))


section
variable {α : Type}
theorem wpList_append_look (K : Kind α) {w : World} {ops : Array Oper} {rest : List Oper} {o : Oper} {a : Act} {Q : Exit → Act → World → Prop} (hgd : o.guard = none) (s x : Operand)
    (ho : o.op = .call { callee := .builtin .append, args := #[s, x], argTypes := #[K.slice, K.slice] })
    {base : Nat} {v v2 : Value} {l l2 : List α} (hown : Own K w base v l) (hs : a.eval s = v) (hx : a.eval x = v2) (hv : Look K w v2 l2) (hn : (l.length + l2.length) * K.bytes ≤ 140737488355328) (hbase : base ≤ w.heap.size) (hb1 : 0 < K.bytes)
    (h : ∀ v' w', Own K w' base v' (l ++ l2) → Keeps (fun k => v.ownBlock = some k) w w' → wpList Try.prog ops Q rest (a.put o.dst v') w') :
    wpList Try.prog ops Q (o :: rest) a w := by
  by_cases hp : 0 < l2.length
  · exact wpList_append_all K hgd s x ho hown hs hx (hv.view hp) hp hn hbase hb1 (fun v' w' h1 h2 _ => h v' w' h1 h2)
  · obtain ⟨a2, c, rfl, _⟩ := hv.val
    have h0 : l2 = [] := List.eq_nil_of_length_eq_zero (by omega)
    subst h0
    exact wpList_append_zero K hgd s x ho hown hs a2 c hx (h v w (by simpa using hown) (Keeps.refl _ _))
end

theorem Mem.again {w : World} {s t : Nat} {l : List Put} {ws : List UInt64} {S : Nat → Prop} (h : Mem w s t l ws S) :
    Calls Try.prog 42 #[.pointer (some ⟨s, 0, none⟩)] w fun e w' => ∃ t' S', e = .returned (.pointer (some ⟨t', 0, none⟩)) ∧ Mem w' s t' [] ws S' ∧ Keeps Nil w w' ∧ ∀ k, S' k → S k ∨ w.heap.size ≤ k := by
  obtain ⟨q, m, tv, h1, h2, h3, h4, h5⟩ := h
  refine (Mem.new h2).mono ?_
  rintro e w' ⟨t', S', rfl, g1, g2, g3, _⟩
  refine ⟨t', S', rfl, g1, g2, fun k hk => ?_⟩
  rcases g3 k hk with rfl | rfl | e
  · exact .inl ((h5 _).2 (.inr (.inl rfl)))
  · exact .inl ((h5 _).2 (.inr (.inr rfl)))
  · exact .inr e
theorem Mem.diff2 {w : World} {s t s' t' : Nat} {l l' : List Put} {ws vs : List UInt64} {S S' : Nat → Prop} (h : Mem w s t l ws S) (h' : Mem w s' t' l' vs S') (hl : ws = vs) :
    Calls Try.prog 44 #[.pointer (some ⟨s, 0, none⟩), .pointer (some ⟨s', 0, none⟩)] w fun e w' => ∃ a c, e = .returned (.slice a 0 c) ∧ Keeps Nil w w' := by
  obtain ⟨q, m, tv, h1, h2, h3, h4, h5⟩ := h'
  refine (h.diff h2 (by rw [hl])).mono ?_
  rintro e w' ⟨v, rfl, ho, hK⟩
  rw [hl, diffL_self] at ho
  obtain ⟨a, c, rfl⟩ := Own.empty ho
  exact ⟨a, c, rfl, hK⟩

end Go.Proofs.Ytccllkgaakmdhaa
