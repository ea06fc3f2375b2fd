/- Glue, Row, Open, Open2: merged. -/
import Derived.Test.YtefpbljekfkefaaGreatM02
import Derived.Deep.RegionHeld3
import Derived.Test.YtefpbljekfkefaaGreatM01
import Derived.ProofKit
import Derived.Lib.SmallJoins
import Derived.Deep.Slices
import Derived.Deep.Fields
/- Plain laws of what is thought of, and small joints of the contracts. -/
namespace Go.Proofs.YtefpbljekfkefaaGreat
open Go.RowKit

theorem keeps_drew (w : World) : Keeps Nil w w.drew := (Keeps.refl Nil w).drew

/-- what is thought of behind stores, in turn -/
def thP (ws : List UInt64) (k : List Put) : List Put := k.foldl (fun acc x => txStore ws acc x.1 x.2) []
theorem thP_snoc (ws : List UInt64) (k : List Put) (x : Put) : thP ws (k ++ [x]) = txStore ws (thP ws k) x.1 x.2 := by simp [thP]
theorem thP_take {ws : List UInt64} {l : List Put} {k : Nat} {x : Put} (h : l[k]? = some x) : thP ws (l.take (k + 1)) = txStore ws (thP ws (l.take k)) x.1 x.2 := by rw [take_succ' h, thP_snoc]
theorem storeP_length (l : List Put) (off v : UInt64) : (storeP l off v).length ≤ l.length + 1 := by
  induction l with
  | nil => simp [storeP]
  | cons x l ih => simp only [storeP]; split <;> simp; omega
theorem txStore_length (ws : List UInt64) (l : List Put) (off v : UInt64) : (txStore ws l off v).length ≤ l.length + 1 := by
  unfold txStore; split
  · exact storeP_length l off v
  · omega
theorem foldl_store_length (ws : List UInt64) (k : List Put) : ∀ acc : List Put, (k.foldl (fun acc x => txStore ws acc x.1 x.2) acc).length ≤ acc.length + k.length := by
  induction k with
  | nil => intro acc; simp
  | cons x k ih =>
    intro acc
    have h1 := ih (txStore ws acc x.1 x.2)
    have h2 := txStore_length ws acc x.1 x.2
    simp only [List.foldl_cons, List.length_cons]
    omega
theorem thP_length (ws : List UInt64) (k : List Put) : (thP ws k).length ≤ k.length := by
  have := foldl_store_length ws k []
  simpa [thP] using this



/-- the offsets, and that each stands once -/
def keysP (l : List Put) : List UInt64 := l.map (·.1)

theorem nodup_sub {α : Type} [DecidableEq α] {d : List α} : ∀ {k : List α}, d.Nodup → (∀ x ∈ d, x ∈ k) → d.length ≤ k.length := by
  induction d with
  | nil => intro k _ _; simp
  | cons x d ih =>
    intro k hn hs
    have hx : x ∈ k := hs x (by simp)
    have h1 := List.nodup_cons.1 hn
    have h2 := ih (k := k.erase x) h1.2 (fun y hy => by
      have hne : y ≠ x := fun e => h1.1 (by rw [← e]; exact hy)
      exact (List.mem_erase_of_ne hne).2 (hs y (by simp [hy])))
    rw [List.length_erase_of_mem hx] at h2
    have := List.length_pos_of_mem hx
    simp only [List.length_cons]
    omega

theorem loadP_mem {l : List Put} {off v : UInt64} (h : loadP l off = some v) : (off, v) ∈ l := by
  induction l with
  | nil => simp [loadP] at h
  | cons x l ih =>
    unfold loadP at h
    split at h
    · rename_i e
      subst e
      simp at h
      subst h
      simp
    · simp [ih h]
theorem loadP_none {l : List Put} {off : UInt64} : loadP l off = none ↔ off ∉ keysP l := by
  induction l with
  | nil => simp [loadP, keysP]
  | cons x l ih =>
    unfold loadP
    split
    · rename_i e; simp [keysP, e]
    · rename_i e
      simp only [keysP, List.map_cons, List.mem_cons, not_or] at ih ⊢
      exact ⟨fun h => ⟨e, ih.1 h⟩, fun h => ih.2 h.2⟩
theorem loadP_nodup {l : List Put} (hn : (keysP l).Nodup) {x : Put} (hx : x ∈ l) : loadP l x.1 = some x.2 := by
  induction l with
  | nil => simp at hx
  | cons y l ih =>
    simp only [keysP, List.map_cons, List.nodup_cons] at hn
    unfold loadP
    rcases List.mem_cons.1 hx with rfl | hx
    · simp
    · split
      · rename_i e
        exact absurd (by rw [← e]; exact List.mem_map.2 ⟨x, hx, rfl⟩) hn.1
      · exact ih hn.2 hx

theorem told_nodup {l : List Put} (hn : (keysP l).Nodup) : told l = l := by
  unfold told
  conv => rhs; rw [← List.map_id l]
  refine List.map_congr_left fun x hx => ?_
  rw [loadP_nodup hn hx]
  rfl

theorem keysP_store {l : List Put} (off v : UInt64) : keysP (storeP l off v) = if off ∈ keysP l then keysP l else keysP l ++ [off] := by
  induction l with
  | nil => simp [storeP, keysP]
  | cons x l ih =>
    unfold storeP
    split
    · rename_i e; simp [keysP, e]
    · rename_i e
      simp only [keysP, List.map_cons, List.mem_cons] at ih ⊢
      rw [ih]
      by_cases h : off ∈ List.map (fun x => x.1) l
      · simp [h]
      · simp [h, e]
theorem storeP_nodup {l : List Put} (hn : (keysP l).Nodup) (off v : UInt64) : (keysP (storeP l off v)).Nodup := by
  rw [keysP_store]
  split
  · exact hn
  · rename_i h
    rw [List.nodup_append]
    refine ⟨hn, by simp, fun a ha b hb e => ?_⟩
    simp at hb
    subst hb; subst e
    exact h ha

/-- each stands once, and in the segment -/
def GoodP (ws : List UInt64) (l : List Put) : Prop := (keysP l).Nodup ∧ ∀ x ∈ l, inB ws x.1 = true
theorem GoodP.nil (ws : List UInt64) : GoodP ws [] := ⟨by simp [keysP], by simp⟩
theorem GoodP.store {ws : List UInt64} {l : List Put} (h : GoodP ws l) (off v : UInt64) : GoodP ws (txStore ws l off v) := by
  unfold txStore
  split
  · rename_i hin
    refine ⟨storeP_nodup h.1 off v, fun x hx => ?_⟩
    have : x.1 ∈ keysP (storeP l off v) := List.mem_map.2 ⟨x, hx, rfl⟩
    rw [keysP_store] at this
    have h2 : x.1 ∈ keysP l ∨ x.1 = off := by
      split at this
      · exact .inl this
      · simpa using this
    rcases h2 with h2 | h2
    · obtain ⟨y, hy, e⟩ := List.mem_map.1 h2
      rw [← e]; exact h.2 y hy
    · rw [h2]; exact hin
  · exact h
theorem GoodP.fold {ws : List UInt64} (k : List Put) : ∀ {acc : List Put}, GoodP ws acc → GoodP ws (k.foldl (fun acc x => txStore ws acc x.1 x.2) acc) := by
  induction k with
  | nil => intro acc h; exact h
  | cons x k ih => intro acc h; exact ih (h.store x.1 x.2)
theorem good_thP (ws : List UInt64) (k : List Put) : GoodP ws (thP ws k) := GoodP.fold k (GoodP.nil ws)
theorem told_thP (ws : List UInt64) (k : List Put) : told (thP ws k) = thP ws k := told_nodup (good_thP ws k).1

theorem inB_len {ws ws' : List UInt64} (h : ws'.length = ws.length) (off : UInt64) : inB ws' off = inB ws off := by unfold inB; rw [h]
theorem inB_iff {ws : List UInt64} {off : UInt64} : inB ws off = true ↔ off.toNat % 8 = 0 ∧ off.toNat < 8 * ws.length := by simp [inB]

/-- a word behind a store -/
theorem putW_get (ws : List UInt64) (off v : UInt64) (hin : inB ws off = true) (i : Nat) (hi : i < ws.length) :
    (putW ws off v)[i]? = if off.toNat = 8 * i then some v else ws[i]? := by
  have h := inB_iff.1 hin
  unfold putW
  rw [if_pos hin, List.getElem?_set]
  by_cases e : off.toNat = 8 * i
  · rw [if_pos e, if_pos (by omega), if_pos (by omega)]
  · rw [if_neg e, if_neg (by omega)]
theorem putW_out (ws : List UInt64) (off v : UInt64) (hin : inB ws off = false) : putW ws off v = ws := by simp [putW, hin]

/-- the words behind all that are thought of -/
theorem applyW_get {l : List Put} : ∀ {ws : List UInt64}, (keysP l).Nodup → (∀ x ∈ l, inB ws x.1 = true) → ∀ (i : Nat) (off : UInt64), i < ws.length → off.toNat = 8 * i → (applyW ws l)[i]? = (loadP l off).or ws[i]? := by
  induction l with
  | nil => intro ws _ _ i off hi ho; simp [applyW, loadP]
  | cons x l ih =>
    intro ws hn hb i off hi ho
    simp only [keysP, List.map_cons, List.nodup_cons] at hn
    have hx := hb x (by simp)
    have hlen := putW_length ws x.1 x.2
    have h1 : applyW ws (x :: l) = applyW (putW ws x.1 x.2) l := rfl
    rw [h1, ih hn.2 (fun y hy => by rw [inB_len hlen]; exact hb y (by simp [hy])) i off (by omega) ho, putW_get ws x.1 x.2 hx i hi]
    have hl : loadP (x :: l) off = if off = x.1 then some x.2 else loadP l off := rfl
    rw [hl]
    by_cases e : off = x.1
    · rw [if_pos e]
      have : loadP l off = none := loadP_none.2 (by rw [e]; exact hn.1)
      rw [this, if_pos (by rw [← e]; exact ho)]
      rfl
    · rw [if_neg e, if_neg (fun h => e (UInt64.toNat_inj.1 (by omega)))]

/-- the words' offset -/
theorem off_of (ws : List UInt64) (hs : ws.length ≤ 131072) (i : Nat) (hi : i < ws.length) : (UInt64.ofNat (8 * i)).toNat = 8 * i := by
  rw [UInt64.toNat_ofNat']; omega

theorem loadP_store {l : List Put} (off v o : UInt64) : loadP (storeP l off v) o = if o = off then some v else loadP l o := by
  induction l with
  | nil => simp [storeP, loadP]
  | cons x l ih =>
    unfold storeP
    split
    · rename_i e
      subst e
      unfold loadP
      split <;> rfl
    · rename_i e
      unfold loadP
      rw [ih]
      by_cases h : o = x.1
      · simp only [if_pos h]
        rw [if_neg (fun e2 => e (by rw [← e2, h]))]
      · simp only [if_neg h]

theorem applyW_store {ws : List UInt64} {l : List Put} (hs : ws.length ≤ 131072) (h : GoodP ws l) (off v : UInt64) : applyW ws (txStore ws l off v) = putW (applyW ws l) off v := by
  have hlen := applyW_length l ws
  by_cases hin : inB ws off = true
  · have h2 := h.store off v
    apply List.ext_getElem?
    intro i
    by_cases hi : i < ws.length
    · have ho := off_of ws hs i hi
      rw [applyW_get h2.1 h2.2 i _ hi ho, putW_get _ off v (by rw [inB_len hlen]; exact hin) i (by omega), applyW_get h.1 h.2 i _ hi ho]
      unfold txStore
      rw [if_pos hin, loadP_store]
      by_cases e : UInt64.ofNat (8 * i) = off
      · rw [if_pos e, if_pos (by rw [← e]; exact ho)]; rfl
      · rw [if_neg e, if_neg (fun h => e (UInt64.toNat_inj.1 (by omega)))]
    · rw [List.getElem?_eq_none (by rw [applyW_length]; omega), List.getElem?_eq_none (by rw [putW_length]; omega)]
  · have hf : inB ws off = false := by simpa using hin
    unfold txStore
    rw [if_neg hin, putW_out _ _ _ (by rw [inB_len hlen]; exact hf)]
theorem applyW_fold {ws : List UInt64} (hs : ws.length ≤ 131072) (k : List Put) : ∀ {acc : List Put}, GoodP ws acc → applyW ws (k.foldl (fun acc x => txStore ws acc x.1 x.2) acc) = applyW (applyW ws acc) k := by
  induction k with
  | nil => intro acc _; rfl
  | cons x k ih =>
    intro acc h
    rw [List.foldl_cons, ih (h.store x.1 x.2), applyW_store hs h]
    rfl
/-- thought of and applied it is as stored, one behind the other -/
theorem applyW_thP {ws : List UInt64} (hs : ws.length ≤ 131072) (k : List Put) : applyW ws (thP ws k) = applyW ws k := applyW_fold hs k (GoodP.nil ws)

theorem applyW_again {ws : List UInt64} {l : List Put} (hs : ws.length ≤ 131072) (h : GoodP ws l) : applyW (applyW ws l) l = applyW ws l := by
  have hlen := applyW_length l ws
  apply List.ext_getElem?
  intro i
  by_cases hi : i < ws.length
  · have ho := off_of ws hs i hi
    rw [applyW_get h.1 (fun x hx => by rw [inB_len hlen]; exact h.2 x hx) i _ (by omega) ho, applyW_get h.1 h.2 i _ hi ho]
    cases loadP l (UInt64.ofNat (8 * i)) <;> rfl
  · rw [List.getElem?_eq_none (by rw [applyW_length]; omega), List.getElem?_eq_none (by omega)]

theorem good_length {ws : List UInt64} {l : List Put} (h : GoodP ws l) : l.length ≤ ws.length := by
  have := nodup_sub (d := keysP l) (k := (List.range ws.length).map (fun i => UInt64.ofNat (8 * i))) h.1 (fun o ho => by
    obtain ⟨x, hx, rfl⟩ := List.mem_map.1 ho
    have hb := inB_iff.1 (h.2 x hx)
    refine List.mem_map.2 ⟨x.1.toNat / 8, List.mem_range.2 (by omega), ?_⟩
    apply UInt64.toNat_inj.1
    rw [UInt64.toNat_ofNat']
    have := x.1.toNat_lt
    omega)
  simpa [keysP] using this

/-- a Tx's two rows in a block, behind steps that turn nothing -/
theorem row2 {w : World} {m : Nat} {a b : Value} {T : TypeId} (h : w.heap[m]? = some (.cells #[a, b] T (0, 0))) : w.cell? ⟨m, 0, none⟩ = some a ∧ w.cell? ⟨m, 1, none⟩ = some b :=
  ⟨by simp [World.cell?, h], by simp [World.cell?, h]⟩


/-- a struct of two words in a block of its own, behind steps that turn nothing -/
theorem box2 {w w' : World} {k : Nat} {a b : Value} {T : TypeId} (h : w.heap[k]? = some (.cells #[a, b] T (0, 0))) (hK : Keeps Nil w w') :
    w'.heap[k]? = some (.cells #[a, b] T (0, 0)) ∧ w'.cell? ⟨k, 0, none⟩ = some a ∧ w'.cell? ⟨k, 1, none⟩ = some b := by
  have h' := hK.at h (fun e => e)
  exact ⟨h', by simp [World.cell?, h'], by simp [World.cell?, h']⟩


/-- the words' row and the document's, held against each other -/
theorem nums_same {S : Nat → Prop} {w1 w : World} {v v2 : Value} {base : Nat} {l l2 : List UInt64} (h : Own kU w1 base v l) (hK : Keeps Nil w1 w) (h2 : View kU S w v2 l2) (he : l = l2) :
    Calls Tryz.prog 49 #[v, v2] w fun e w' => e = .returned (.bool true) ∧ Keeps Nil w w' := by
  have := Nums_any ((h.keeps_nil hK).view (S := Nil) (fun _ _ e => e)) h2
  rw [decide_eq_true he] at this
  exact this
theorem diffL_self (ws : List UInt64) : diffL ws ws = [] := by
  simp [diffL, diffTo]
theorem Own.empty {α : Type} {K : Kind α} {w : World} {base : Nat} {v : Value} (h : Own K w base v []) : ∃ a cap, v = .slice a 0 cap := by
  obtain ⟨a, cap, e, _⟩ := (h.view (S := Nil) (fun _ _ e => e)).val
  exact ⟨a, cap, e⟩

theorem diff_sub {ws : List UInt64} {l : List Put} (hs : ws.length ≤ 131072) (h : GoodP ws l) {x : UInt64} (hx : x ∈ diffL ws (applyW ws l)) : x ∈ keysP l := by
  unfold diffL diffTo at hx
  obtain ⟨i, hi, rfl⟩ := List.mem_map.1 hx
  obtain ⟨hr, hne⟩ := List.mem_filter.1 hi
  have hi' : i < ws.length := List.mem_range.1 hr
  have hg := applyW_get h.1 h.2 i (offU i) hi' (off_ofNat (by omega))
  cases e : loadP l (offU i) with
  | none =>
    rw [hg, e] at hne
    simp at hne
  | some u => exact List.mem_map.2 ⟨_, loadP_mem e, rfl⟩
theorem diff_nodup {ws vs : List UInt64} (hs : ws.length ≤ 131072) : (diffL ws vs).Nodup := by
  unfold diffL diffTo List.Nodup
  rw [List.pairwise_map]
  have h1 : (List.range ws.length).Pairwise (fun a b => a < b) := List.pairwise_lt_range
  have h2 := h1.filter (fun i => ws[i]?.getD 0 != vs[i]?.getD 0)
  refine h2.imp_of_mem fun {a b} ha hb hlt e => ?_
  have h3 : a < ws.length := List.mem_range.1 (List.mem_filter.1 ha).1
  have h4 : b < ws.length := List.mem_range.1 (List.mem_filter.1 hb).1
  have := congrArg UInt64.toNat e
  rw [off_ofNat (by omega), off_ofNat (by omega)] at this
  omega
theorem diff_le {ws : List UInt64} {l : List Put} (hs : ws.length ≤ 131072) (h : GoodP ws l) : (diffL ws (applyW ws l)).length ≤ l.length := by
  have := nodup_sub (diff_nodup hs) (fun x hx => diff_sub hs h hx)
  simpa [keysP] using this
theorem keys_apart {l : List Put} (hn : (keysP l).Nodup) {i j : Nat} {x y : Put} (hi : l[i]? = some x) (hj : l[j]? = some y) (hne : j < i) : y.1 ≠ x.1 := by
  intro e
  have h1 := List.pairwise_iff_getElem.1 hn
  obtain ⟨a1, a2⟩ := List.getElem?_eq_some_iff.1 hi
  obtain ⟨b1, b2⟩ := List.getElem?_eq_some_iff.1 hj
  have := h1 j i (by simpa [keysP] using b1) (by simpa [keysP] using a1) hne
  simp only [keysP, List.getElem_map, a2, b2] at this
  exact this e
theorem once_load {ws : List UInt64} {l : List Put} (hn : (keysP l).Nodup) {i : Nat} {x : Put} (hi : l[i]? = some x) : txLoad ws l x.1 = x.2 := by
  unfold txLoad
  rw [loadP_nodup hn (List.mem_of_getElem? hi)]
  rfl
theorem ne_u64 {a b : UInt64} (h : a ≠ b) : ((a.toNat : Int) == (b.toNat : Int)) = false := by
  rw [beq_eq_false_iff_ne]; intro e; exact h (UInt64.toNat_inj.1 (by omega))


section
variable {α : Type}
theorem wpList_append_look (K : Kind α) {w : World} {ops : Array Oper} {rest : List Oper} {o : Oper} {a : Act} {Q : Exit → Act → World → Prop} (hgd : o.guard = none) (s x : Operand)
    (ho : o.op = .call { callee := .builtin .append, args := #[s, x], argTypes := #[K.slice, K.slice] })
    {base : Nat} {v v2 : Value} {l l2 : List α} (hown : Own K w base v l) (hs : a.eval s = v) (hx : a.eval x = v2) (hv : Look K w v2 l2) (hn : (l.length + l2.length) * K.bytes ≤ 140737488355328) (hbase : base ≤ w.heap.size) (hb1 : 0 < K.bytes)
    (h : ∀ v' w', Own K w' base v' (l ++ l2) → Keeps (fun k => v.ownBlock = some k) w w' → wpList Tryz.prog ops Q rest (a.put o.dst v') w') :
    wpList Tryz.prog ops Q (o :: rest) a w := by
  by_cases hp : 0 < l2.length
  · exact wpList_append_all K hgd s x ho hown hs hx (hv.view hp) hp hn hbase hb1 (fun v' w' h1 h2 _ => h v' w' h1 h2)
  · obtain ⟨a2, c, rfl, _⟩ := hv.val
    have h0 : l2 = [] := List.eq_nil_of_length_eq_zero (by omega)
    subst h0
    exact wpList_append_zero K hgd s x ho hown hs a2 c hx (h v w (by simpa using hown) (Keeps.refl _ _))
end

theorem Mem.again {w : World} {s t : Nat} {l : List Put} {ws : List UInt64} {S : Nat → Prop} (h : Mem w s t l ws S) :
    Calls Tryz.prog 130 #[.pointer (some ⟨s, 0, none⟩)] w fun e w' => ∃ t' S', e = .returned (.pointer (some ⟨t', 0, none⟩)) ∧ Mem w' s t' [] ws S' ∧ Keeps Nil w w' ∧ ∀ k, S' k → S k ∨ w.heap.size ≤ k := by
  obtain ⟨q, m, tv, h1, h2, h3, h4, h5⟩ := h
  refine (Mem.new h2).mono ?_
  rintro e w' ⟨t', S', rfl, g1, g2, g3, _⟩
  refine ⟨t', S', rfl, g1, g2, fun k hk => ?_⟩
  rcases g3 k hk with rfl | rfl | e
  · exact .inl ((h5 _).2 (.inr (.inl rfl)))
  · exact .inl ((h5 _).2 (.inr (.inr rfl)))
  · exact .inr e
end Go.Proofs.YtefpbljekfkefaaGreat

/- What is the same in every row: the arguments opened, and read again behind a call that turned nothing. -/
namespace Go.Proofs.YtefpbljekfkefaaGreat
open Go.ChangeShapes Go.WideShapes Go.ChangeAt Go.RowKit Go.Deep

theorem prog_own : ownKnob Tryz.prog.godebug = none := by kernel_rfl
theorem prog_laid : laidOutB Tryz.prog = true := by kernel_rfl

section
variable {H : Type} {enc : TypeId × Value → H} {P : Program} {W W' : World} {sp : Nat → Bool}
theorem trodAll_stays (hl : laidOutB P = true) : ∀ {ts : List TypeId} {vs : List Value} {ds : List (DataW H)} {ps : List MemPlace}, (ts.all fun t => P.readableRec t && decide (t < P.types.size)) = true →
    DataW.TrodAll enc P W 0 (fun _ => true) true ts vs ds ps → (∀ p ∈ ps, W.sameAt W' p) → (∀ p ∈ ps, sp p.block = true) → DataW.TrodAll enc P W' 0 sp true ts vs ds ps
  | [], [], [], _, _, h, _, _ => h
  | t :: ts, _ :: _, _ :: _, _, hr, ⟨p, q, h1, h2, e⟩, hs, hp => by
    simp only [List.all_cons, Bool.and_eq_true, decide_eq_true_eq] at hr
    exact ⟨p, q, WideElems.Trod_stays hl hr.1.1 hr.1.2 h1 (fun x hx => hs x (by rw [e]; exact List.mem_append_left _ hx)) (fun x hx => hp x (by rw [e]; exact List.mem_append_left _ hx)),
      trodAll_stays hl hr.2 h2 (fun x hx => hs x (by rw [e]; exact List.mem_append_right _ hx)) (fun x hx => hp x (by rw [e]; exact List.mem_append_right _ hx)), e⟩

/-- the row's last step: true, and nothing that was there has turned -/
theorem row_post {f : Func} {s : ChangeSpec} {apart fresh handsOn again : Bool} {args : Array Value} {ds gs : List (DataW H)} {before : List MemPlace} {t : TypeId}
    (hl : laidOutB P = true) (hW : DataW.Whole enc P f.params.toList s.vars apart W args.toList ds gs before) (hv : s.vars = []) (hread : (f.params.toList.all fun t => P.readableRec t && decide (t < P.types.size)) = true)
    (hres : f.resultTypes = #[t]) (ht : P.underlying t = some .bool) (hfn : s.fn H (ds ++ gs) = { results := [.lit (.bool true)], args := ds }) (hK : Keeps Nil W W') :
    s.post enc P f apart fresh handsOn again W args (.bool true) W' := by
  have hb := hK.below
  have hlt : ∀ p ∈ before, p.block < W.heap.size := fun p hp => hW.lt p hp
  have hfr : ∀ p ∈ before, W.sameAt W' p := fun p hp => hb.same (hlt p hp)
  have hW0 := hW
  obtain ⟨p, q, hA, hV, hbe, hz, hn⟩ := hW0
  have hV0 := hV
  rw [hv] at hV0
  obtain ⟨hg, hq⟩ := trodVars_none hV0
  have hpb : before = p := by rw [hbe, hq]; simp
  have hargs : ∀ sp : Nat → Bool, (∀ p ∈ before, sp p.block = true) → DataW.TrodAll enc P W' 0 sp true f.params.toList args.toList ds before := fun sp hsp =>
    trodAll_stays hl hread (by rw [hpb]; exact hA) hfr hsp
  have hvars : ∀ sp : Nat → Bool, DataW.TrodVars enc P W' sp s.vars (s.fn H (ds ++ gs)).vars [] := fun sp => by
    rw [hv, hfn]; exact rfl
  have hold : ∀ p ∈ before, (fun b => decide (b < W.heap.size)) p.block = true := fun p hp => by simpa using hlt p hp
  have hresT : ∀ (b : Nat) (sp : Nat → Bool) (hd : Bool), DataW.TrodAll enc P W' b sp hd f.resultTypes.toList ((Value.bool true).resultList f.resultTypes.size) (s.fn H (ds ++ gs)).results [] := fun b sp hd => by
    rw [hfn, hres]
    exact trodAll_mk1 (shut_bool ht true)
  have hargs' : ∀ sp : Nat → Bool, (∀ p ∈ before, sp p.block = true) → DataW.TrodAll enc P W' 0 sp true f.params.toList args.toList (s.fn H (ds ++ gs)).args before := fun sp hsp => by
    rw [hfn]; exact hargs sp hsp
  refine ⟨ds, gs, before, [], before, [], hW, hresT _ _ _, hargs' _ hold, hvars _, World.keptBut_mono (fun p hp => ⟨hp, ?_⟩) (hb.frame (· ∈ before)), fun _ => ?_⟩
  · exact Or.inr (Or.inl hp)
  · refine ⟨ok_one hres rfl (okWide_bool_mk ht true), _, _, ([] ++ before) ++ [], ⟨[] ++ before, [], trodAll_append (hargs' _ (fun _ _ => rfl)) (hresT _ _ _), hvars _, rfl, ?_, ?_⟩, ?_⟩
    · intro b off hp
      have hin : MemPlace.cell b off ∈ before := by simpa using hp
      rw [hb.frozen (hlt _ hin)]
      exact hz b off hin
    · intro ha
      have := hn ha
      simpa using this
    · intro p hp _
      simpa using hp
end
end Go.Proofs.YtefpbljekfkefaaGreat

/- Arguments opened: words, Puts, and slices of them. -/
namespace Go.Proofs.YtefpbljekfkefaaGreat
open Go.ChangeShapes Go.WideShapes Go.ChangeAt Go.RowKit Go.Deep Go.Joins

theorem u64_some {n : Int} (h : (Lit.int .u64 n).wf = true) : ∃ x : UInt64, n = (x.toNat : Int) := by
  have h' : IntKind.u64.min ≤ n ∧ n ≤ IntKind.u64.max := by simpa [Lit.wf] using h
  have e1 : IntKind.u64.min = 0 := by rfl
  have e2 : IntKind.u64.max = 18446744073709551615 := by rfl
  rw [e1, e2] at h'
  refine ⟨UInt64.ofNat n.toNat, ?_⟩
  rw [UInt64.toNat_ofNat']
  omega

section
variable {H : Type} {enc : TypeId × Value → H} {W : World} {spare : Nat → Bool} {held : Bool} {base : Nat}
theorem open_look {α : Type} {K : Kind α} {P : Program} {t e : TypeId} {v : Value} {d : DataW H} {p : List MemPlace} (ht : P.underlying t = some (.slice e)) (hc : P.cellsOf e = K.size)
    (hdec : ∀ (fuel : Nat) (cs : List Value) (x : DataW H × List MemPlace), DataW.trod enc P W base spare held fuel e cs = some x → ∃ a : α, cs = K.enc a)
    (h : DataW.Trod enc P W base spare held t v d p) (hv : v.cells.toList = [v]) : ∃ l, Look K W v l := by
  obtain ⟨fuel, hf⟩ := h
  rw [hv] at hf
  rcases open_slice ht hf with ⟨h0, _⟩ | ⟨a, len, cap, m, n, D, Pl, hcs, hb, hl, hm, hmm, hx, hi⟩
  · refine ⟨[], ?_⟩
    simp only [List.cons.injEq, and_true] at h0
    rw [h0]; exact Look.nil
  · simp only [List.cons.injEq, and_true] at hcs
    rw [hcs]
    by_cases h0 : len = 0
    · subst h0
      exact ⟨[], .inr ⟨⟨_, _, rfl⟩, rfl⟩⟩
    have hlm : len ≤ m := by rw [hmm]; split <;> omega
    have hex : ∀ i : Fin len, ∃ x : α, W.cells? base (a.add (i.1 * K.size)) K.size = some (K.enc x) := fun i => by
      obtain ⟨cs', h1, h2⟩ := hi i.1 (by omega)
      obtain ⟨x, rfl⟩ := hdec n cs' _ h2
      rw [hc] at h1
      exact ⟨x, h1⟩
    obtain ⟨f, hfs⟩ : ∃ f : Fin len → α, ∀ i : Fin len, W.cells? base (a.add (i.1 * K.size)) K.size = some (K.enc (f i)) := ⟨fun i => (hex i).choose, fun i => (hex i).choose_spec⟩
    clear hex
    have hcell : ∀ (i : Fin len) (j : Nat), j < K.size → W.cell? (a.add (i.1 * K.size + j)) = (K.enc (f i))[j]? := fun i j hj => by
      rw [← Go.Deep.add_add]
      exact (World.cells?_some (hfs i)).2.2 j hj
    obtain ⟨b, off, spot⟩ := a
    obtain ⟨i0, hi0⟩ : ∃ i0 : Fin len, i0.1 = 0 := ⟨⟨0, by omega⟩, rfl⟩
    have h1 := hcell i0 0 K.pos
    rw [hi0] at h1
    simp only [Nat.zero_mul, Nat.add_zero] at h1
    have hlp : 0 < (K.enc (f i0)).length := by rw [K.len]; exact K.pos
    obtain ⟨u, hu⟩ : ∃ u, (K.enc (f i0))[0]? = some u := ⟨_, List.getElem?_eq_getElem hlp⟩
    rw [hu] at h1
    have hspot : spot = none := by simpa [Addr.add] using World.cell?_spot h1
    subst hspot
    have hbl : b < W.heap.size := by
      rcases Nat.lt_or_ge b W.heap.size with h | h
      · exact h
      · simp [World.cell?, Addr.add, h] at h1
    refine ⟨List.ofFn f, .inl (.inr ⟨b, off, cap, ?_, ?_, hm, hbl, fun e => e, ?_⟩)⟩
    · simp
    · simpa using hl
    · intro i j hj hi'
      have hi2 : i < len := by simpa using hi'
      have := hcell ⟨i, hi2⟩ j hj
      rw [add_plain] at this
      rw [this]
      simp [hi2]

set_option maxRecDepth 100000 in
theorem dec_u64 (fuel : Nat) (cs : List Value) (x : DataW H × List MemPlace) (h : DataW.trod enc Tryz.prog W base spare held fuel 25 cs = some x) : ∃ a : UInt64, cs = kU.enc a := by
  obtain ⟨n, rfl, _, hw⟩ := DataW.trod_int Tryz.underlying25 h
  obtain ⟨y, rfl⟩ := u64_some hw
  exact ⟨y, rfl⟩
set_option maxRecDepth 100000 in
theorem dec_put (fuel : Nat) (cs : List Value) (x : DataW H × List MemPlace) (h : DataW.trod enc Tryz.prog W base spare held fuel 108 cs = some x) : ∃ a : Put, cs = kP.enc a := by
  have hC : Tryz.prog.cellsOf 108 = 2 := by kernel_rfl
  have hu : Tryz.prog.cellsOf 25 = 1 := by kernel_rfl
  obtain ⟨y0, y1, n, _, hl, h0, h1⟩ := trod_struct2 Tryz.underlying108 h
  rw [hC] at hl
  match cs, hl with
  | [c0, c1], _ =>
    obtain ⟨n0, e0, _, w0⟩ := DataW.trod_int Tryz.underlying25 h0
    obtain ⟨n1, e1, _, w1⟩ := DataW.trod_int Tryz.underlying25 h1
    obtain ⟨z0, rfl⟩ := u64_some w0
    obtain ⟨z1, rfl⟩ := u64_some w1
    have q0 : c0 = .int .u64 (z0.toNat : Int) := by simpa [hu] using e0
    have q1 : c1 = .int .u64 (z1.toNat : Int) := by simpa [hu] using e1
    exact ⟨(z0, z1), by rw [q0, q1]⟩
end
end Go.Proofs.YtefpbljekfkefaaGreat

/- Arguments that are opened: arrays and structs by value, small whole numbers. -/
namespace Go.Proofs.YtefpbljekfkefaaGreat
open Go.ChangeShapes Go.WideShapes Go.ChangeAt Go.RowKit Go.Deep Go.Joins

theorem u8_some {n : Int} (h : (Lit.int .u8 n).wf = true) : ∃ x : UInt8, n = (x.toNat : Int) := by
  have h' : IntKind.u8.min ≤ n ∧ n ≤ IntKind.u8.max := by simpa [Lit.wf] using h
  have e1 : IntKind.u8.min = 0 := by rfl
  have e2 : IntKind.u8.max = 255 := by rfl
  rw [e1, e2] at h'
  refine ⟨UInt8.ofNat n.toNat, ?_⟩
  rw [UInt8.toNat_ofNat']
  omega
theorem u16_some {n : Int} (h : (Lit.int .u16 n).wf = true) : ∃ x : UInt16, n = (x.toNat : Int) := by
  have h' : IntKind.u16.min ≤ n ∧ n ≤ IntKind.u16.max := by simpa [Lit.wf] using h
  have e1 : IntKind.u16.min = 0 := by rfl
  have e2 : IntKind.u16.max = 65535 := by rfl
  rw [e1, e2] at h'
  refine ⟨UInt16.ofNat n.toNat, ?_⟩
  rw [UInt16.toNat_ofNat']
  omega

section
variable {H : Type} {enc : TypeId × Value → H} {P : Program} {W : World} {spare : Nat → Bool} {held : Bool} {base : Nat}
/-- a value of several cells, by its cells' reading -/
theorem open_enc {α : Type} {t : TypeId} {v : Value} {d : DataW H} {p : List MemPlace} {f : α → List Value} (hv : ∃ cs, v = .agg cs)
    (hdec : ∀ fuel cs x, DataW.trod enc P W base spare held fuel t cs = some x → ∃ a, cs = f a) (h : DataW.Trod enc P W base spare held t v d p) : ∃ a, v = .agg (f a).toArray := by
  obtain ⟨cs, rfl⟩ := hv
  obtain ⟨fuel, hf⟩ := h
  obtain ⟨a, ha⟩ := hdec fuel _ _ hf
  have ha' : cs.toList = f a := ha
  exact ⟨a, by rw [← ha']⟩
theorem okWide_arr {r : Reach} {b0 n : Nat} {t e : TypeId} {v : Value} (hu : P.underlying t = some (.array n e)) (h : Value.okWide P W r b0 t v) : ∃ cs, v = .agg cs := by
  unfold Value.okWide at h
  simp only [hu] at h
  obtain ⟨cs, h, _⟩ := h
  exact ⟨cs, h⟩
end

section
variable {H : Type} {enc : TypeId × Value → H} {W : World} {spare : Nat → Bool} {held : Bool} {base : Nat}
set_option maxRecDepth 100000 in
theorem dec_u64x2 (fuel : Nat) (cs : List Value) (x : DataW H × List MemPlace) (h : DataW.trod enc Tryz.prog W base spare held fuel 95 cs = some x) : ∃ a : UInt64 × UInt64, cs = [.int .u64 (a.1.toNat : Int), .int .u64 (a.2.toNat : Int)] := by
  have hC : Tryz.prog.cellsOf 95 = 2 := by kernel_rfl
  have hu : Tryz.prog.cellsOf 25 = 1 := by kernel_rfl
  obtain ⟨xs, m, _, _, hl, hxl, hi⟩ := DataW.trod_array Tryz.underlying95 h
  rw [hC] at hl
  match cs, hl, xs, hxl with
  | [c0, c1], _, [y0, y1], _ =>
    have h0 := hi 0 (by omega)
    have h1 := hi 1 (by omega)
    rw [hu] at h0 h1
    obtain ⟨n0, e0, _, w0⟩ := DataW.trod_int Tryz.underlying25 (show DataW.trod enc Tryz.prog W base spare held m 25 [c0] = some y0 from h0)
    obtain ⟨n1, e1, _, w1⟩ := DataW.trod_int Tryz.underlying25 (show DataW.trod enc Tryz.prog W base spare held m 25 [c1] = some y1 from h1)
    obtain ⟨z0, rfl⟩ := u64_some w0
    obtain ⟨z1, rfl⟩ := u64_some w1
    exact ⟨(z0, z1), by simp_all⟩
end
end Go.Proofs.YtefpbljekfkefaaGreat
