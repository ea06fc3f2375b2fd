/- TreeP: written short. -/
import Derived.Test.YtefpbljekfkefaaGreatS01
set_option maxRecDepth 100000
set_option maxHeartbeats 8000000
namespace Go.Proofs.YtefpbljekfkefaaGreat
namespace PT
abbrev St := UInt64 → UInt64
def upd (f : St) (off v : UInt64) : St := fun o => if o = off then v else f o
def stF (n : Nat) (f : St) (off v : UInt64) : St := if off.toNat % 8 = 0 ∧ off.toNat < n then upd f off v else f
theorem upd_same (f : St) (off v : UInt64) : upd f off v off = v := if_pos rfl
theorem upd_ne (f : St) {off o : UInt64} (v : UInt64) (h : o ≠ off) : upd f off v o = f o := if_neg h
theorem stF_in {n : Nat} {off : UInt64} (f : St) (v : UInt64) (h1 : off.toNat % 8 = 0) (h2 : off.toNat < n) : stF n f off v = upd f off v := if_pos ⟨h1, h2⟩
inductive Tr where
 | nil : Tr
 | node : Tr → UInt64 → Tr → Tr
namespace Tr
def list : Tr → List UInt64
 | nil => []
 | node l x r => l.list ++ x :: r.list
def root : Tr → UInt64
 | nil => 0
 | node _ x _ => x
def Heap (m : UInt64 → UInt64) : Tr → Prop
 | nil => True
 | node l x r => (∀ y, y ∈ l.list ∨ y ∈ r.list → m y < m x) ∧ Heap m l ∧ Heap m r
def Rep (f : St) : UInt64 → Tr → Prop
 | a, nil => a = 0
 | a, node l x r => a = x ∧ x ≠ 0 ∧ Rep f (f (x + 8)) l ∧ Rep f (f (x + 16)) r
def split (p : UInt64 → Bool) : Tr → Tr × Tr
 | nil => (nil, nil)
 | node l x r => if p x then (node l x (split p r).1, (split p r).2) else ((split p l).1, node (split p l).2 x r)
def join (m : UInt64 → UInt64) : Tr → Tr → Tr
 | nil, b => b
 | node l x r, nil => node l x r
 | node l x r, node l' y r' => if m x > m y then node l x (join m r (node l' y r')) else node (join m (node l x r) l') y r'
def insert (m : UInt64 → UInt64) (lt : UInt64 → UInt64 → Bool) (x : UInt64) : Tr → Tr
  | nil => node nil x nil
  | node l y r => if m x > m y then node (split (fun z => lt z x) (node l y r)).1 x (split (fun z => lt z x) (node l y r)).2
    else if lt x y then node (insert m lt x l) y r else node l y (insert m lt x r)
def remove (m : UInt64 → UInt64) (lt : UInt64 → UInt64 → Bool) (x : UInt64) : Tr → Tr
 | nil => nil
 | node l y r => if y = x then join m l r else if lt x y then node (remove m lt x l) y r else node l y (remove m lt x r)
theorem root_rep {f : St} {a : UInt64} : ∀ {t : Tr}, Rep f a t → a = t.root
 | nil, h => h
 | node _ _ _, h => h.1
theorem rep_zero {f : St} {t : Tr} (h : Rep f 0 t) : t = nil := by
 cases t with
 | nil => rfl
 | node l x r => exact absurd h.1.symm h.2.1
theorem rep_pos {f : St} {a : UInt64} {t : Tr} (h : Rep f a t) (ha : a ≠ 0) : ∃ l r, t = node l a r := by
 cases t with
 | nil => exact absurd h ha
 | node l x r => obtain ⟨rfl, _⟩ := h; exact ⟨l, r, rfl⟩
theorem rep_frame {f g : St} : ∀ {t : Tr} {a : UInt64}, Rep f a t → (∀ x ∈ t.list, g (x + 8) = f (x + 8) ∧ g (x + 16) = f (x + 16)) → Rep g a t
 | nil, _, h, _ => h
 | node l x r, a, ⟨h1, h2, h3, h4⟩, hg => by
   obtain ⟨e1, e2⟩ := hg x (by simp [list])
   refine ⟨h1, h2, ?_, ?_⟩
   · rw [e1]; exact rep_frame h3 (fun y hy => hg y (by simp [list, hy]))
   · rw [e2]; exact rep_frame h4 (fun y hy => hg y (by simp [list, hy]))
theorem split_list (p : UInt64 → Bool) : ∀ {t : Tr}, t.list.Pairwise (fun a b => p b = true → p a = true) → (split p t).1.list = t.list.filter p ∧ (split p t).2.list = t.list.filter (fun x => !p x)
 | nil, _ => by simp [split, list]
 | node l x r, h => by
   simp only [list] at h
   obtain ⟨h1, h2, h3⟩ := List.pairwise_append.1 h
   obtain ⟨h4, h5⟩ := List.pairwise_cons.1 h2
   unfold split
   by_cases hp : p x = true
   ·rw [if_pos hp]
    obtain ⟨e1, e2⟩ := split_list p h5
    have hl : ∀ y ∈ l.list, p y = true := fun y hy => h3 y hy x (by simp) hp
    simp only [list, e1, e2, List.filter_append, List.filter_cons, hp]
    rw [List.filter_eq_self.2 hl, (List.filter_eq_nil_iff (l := l.list) (p := fun x => !p x)).2 (fun y hy => by simp [hl y hy])]
    simp
   ·rw [if_neg hp]
    obtain ⟨e1, e2⟩ := split_list p h1
    have hp' : p x = false := by simpa using hp
    have hr : ∀ y ∈ r.list, p y = false := fun y hy => by
        cases e : p y with
        | false => rfl
        | true => exact absurd (h4 y hy e) hp
    simp only [list, e1, e2, List.filter_append, List.filter_cons, hp']
    rw [(List.filter_eq_nil_iff (l := r.list) (p := p)).2 (fun y hy => by simp [hr y hy]), (List.filter_eq_self (l := r.list) (p := fun x => !p x)).2 (fun y hy => by simp [hr y hy])]
    simp
theorem join_list (m : UInt64 → UInt64) : ∀ (a b : Tr), (join m a b).list = a.list ++ b.list
 | nil, b => by unfold join; simp [list]
 | node l x r, nil => by unfold join; simp [list]
 | node l x r, node l' y r' => by
   unfold join
   by_cases h : m x > m y
   · rw [if_pos h]; simp [list, join_list m r (node l' y r')]
   · rw [if_neg h]; simp [list, join_list m (node l x r) l']
theorem mem_split {p : UInt64 → Bool} : ∀ {t : Tr} {y : UInt64}, (y ∈ (split p t).1.list ∨ y ∈ (split p t).2.list) ↔ y ∈ t.list
  | nil, y => by simp [split, list]
  | node l x r, y => by
    unfold split
    have i1 := @mem_split p l y
    have i2 := @mem_split p r y
    by_cases hp : p x = true
    · rw [if_pos hp]
      simp only [list, List.mem_append, List.mem_cons, ← i2]
      constructor
      · rintro ((h | h | h) | h)
        · exact .inl h
        · exact .inr (.inl h)
        · exact .inr (.inr (.inl h))
        · exact .inr (.inr (.inr h))
      · rintro (h | h | h | h)
        · exact .inl (.inl h)
        · exact .inl (.inr (.inl h))
        · exact .inl (.inr (.inr h))
        · exact .inr h
    · rw [if_neg hp]
      simp only [list, List.mem_append, List.mem_cons, ← i1]
      constructor
      · rintro (h | h | h | h)
        · exact .inl (.inl h)
        · exact .inl (.inr h)
        · exact .inr (.inl h)
        · exact .inr (.inr h)
      · rintro ((h | h) | h | h)
        · exact .inl h
        · exact .inr (.inl h)
        · exact .inr (.inr (.inl h))
        · exact .inr (.inr (.inr h))
theorem mem_join {m : UInt64 → UInt64} {a b : Tr} {y : UInt64} : y ∈ (join m a b).list ↔ y ∈ a.list ∨ y ∈ b.list := by rw [join_list]; simp
theorem Heap.split {m : UInt64 → UInt64} {p : UInt64 → Bool} : ∀ {t : Tr}, Heap m t → Heap m (split p t).1 ∧ Heap m (split p t).2
 | nil, _ => by simp [Tr.split, Heap]
 | node l x r, ⟨h1, h2, h3⟩ => by
   unfold Tr.split
   by_cases hp : p x = true
   ·rw [if_pos hp]
    obtain ⟨e1, e2⟩ := Heap.split (p := p) h3
    refine ⟨⟨fun y hy => h1 y ?_, h2, e1⟩, e2⟩
    exact hy.imp id (fun h => mem_split.1 (.inl h))
   ·rw [if_neg hp]
    obtain ⟨e1, e2⟩ := Heap.split (p := p) h2
    refine ⟨e1, fun y hy => h1 y ?_, e2, h3⟩
    exact hy.imp (fun h => mem_split.1 (.inr h)) id
theorem Heap.join {m : UInt64 → UInt64} (hm : ∀ a b, m a = m b → a = b) : ∀ {a b : Tr}, Heap m a → Heap m b → (∀ x ∈ a.list, x ∉ b.list) → Heap m (join m a b)
  | nil, b, _, hb, _ => by unfold Tr.join; exact hb
  | node l x r, nil, ha, _, _ => by unfold Tr.join; exact ha
  | node l x r, node l' y r', ha, hb, hd => by
    obtain ⟨a1, a2, a3⟩ := ha
    obtain ⟨b1, b2, b3⟩ := hb
    unfold Tr.join
    by_cases h : m x > m y
    · rw [if_pos h]
      refine ⟨fun z hz => ?_, a2, Heap.join hm a3 ⟨b1, b2, b3⟩ (fun z hz => hd z (by simp [list, hz]))⟩
      rcases hz with hz | hz
      · exact a1 z (.inl hz)
      · rcases mem_join.1 hz with hz | hz
        · exact a1 z (.inr hz)
        · simp only [list, List.mem_append, List.mem_cons] at hz
          rcases hz with hz | rfl | hz
          · exact UInt64.lt_trans (b1 z (.inl hz)) h
          · exact h
          · exact UInt64.lt_trans (b1 z (.inr hz)) h
    · rw [if_neg h]
      have hne : m x ≠ m y := fun e => hd x (by simp [list]) (by rw [hm _ _ e]; simp [list])
      have hlt : m x < m y := by
        rw [UInt64.lt_iff_toNat_lt] at *
        have h1 : (m x).toNat ≠ (m y).toNat := fun e => hne (UInt64.toNat_inj.1 e)
        have h2 : ¬ (m y).toNat < (m x).toNat := h
        omega
      refine ⟨fun z hz => ?_, Heap.join hm ⟨a1, a2, a3⟩ b2 (fun z hz hz2 => hd z hz (by simp [list, hz2])), b3⟩
      rcases hz with hz | hz
      · rcases mem_join.1 hz with hz | hz
        · simp only [list, List.mem_append, List.mem_cons] at hz
          rcases hz with hz | rfl | hz
          · exact UInt64.lt_trans (a1 z (.inl hz)) hlt
          · exact hlt
          · exact UInt64.lt_trans (a1 z (.inr hz)) hlt
        · exact b1 z (.inl hz)
      · exact b1 z (.inr hz)
theorem Heap.unique {m : UInt64 → UInt64} : ∀ {t u : Tr}, Heap m t → Heap m u → t.list = u.list → t.list.Nodup → t = u
  | nil, nil, _, _, _, _ => rfl
  | nil, node l x r, _, _, h, _ => by simp [list] at h
  | node l x r, nil, _, _, h, _ => by simp [list] at h
  | node l x r, node l' y r', ⟨a1, a2, a3⟩, ⟨b1, b2, b3⟩, h, hn => by
    simp only [list] at h hn
    have hxy : x = y := by
      apply Classical.byContradiction
      intro hne
      have hx : x ∈ l'.list ++ y :: r'.list := by rw [← h]; simp
      have hy : y ∈ l.list ++ x :: r.list := by rw [h]; simp
      simp only [List.mem_append, List.mem_cons] at hx hy
      have e1 : m x < m y := b1 x (by rcases hx with hx | hx | hx; exact .inl hx; exact absurd hx hne; exact .inr hx)
      have e2 : m y < m x := a1 y (by rcases hy with hy | hy | hy; exact .inl hy; exact absurd hy.symm hne; exact .inr hy)
      rw [UInt64.lt_iff_toNat_lt] at e1 e2
      omega
    subst hxy
    have hn' := hn
    rw [h] at hn'
    have n1 : x ∉ l.list := fun hx => by
      have := (List.nodup_append.1 hn).2.2 x hx x (by simp)
      exact this rfl
    have n2 : x ∉ l'.list := fun hx => by
      have := (List.nodup_append.1 hn').2.2 x hx x (by simp)
      exact this rfl
    have e : l.list = l'.list ∧ r.list = r'.list := by
      clear a1 a2 a3 b1 b2 b3 hn hn'
      revert h n1 n2
      generalize l.list = A
      generalize l'.list = B
      intro h n1 n2
      induction A generalizing B with
      | nil =>
        cases B with
        | nil => simpa using h
        | cons b B => simp at h; exact absurd h.1 (fun e => n2 (by simp [e]))
      | cons a A ih =>
        cases B with
        | nil => simp at h; exact absurd h.1.symm (fun e => n1 (by simp [e]))
        | cons b B =>
          simp only [List.cons_append, List.cons.injEq] at h
          obtain ⟨i1, i2⟩ := ih B h.2 (fun e => n1 (by simp [e])) (fun e => n2 (by simp [e]))
          exact ⟨by rw [h.1, i1], i2⟩
    have d1 := (List.nodup_append.1 hn).1
    have d2 := (List.nodup_cons.1 (List.nodup_append.1 hn).2.1).2
    rw [Heap.unique a2 b2 e.1 d1, Heap.unique a3 b3 e.2 d2]
theorem exists_max (m : UInt64 → UInt64) : ∀ (l : List UInt64), l ≠ [] → ∃ A x B, l = A ++ x :: B ∧ (∀ y ∈ A, m y ≤ m x) ∧ ∀ y ∈ B, m y ≤ m x
  | [], h => absurd rfl h
  | [x], _ => ⟨[], x, [], rfl, by simp, by simp⟩
  | x :: y :: l, _ => by
    obtain ⟨A, z, B, e, h1, h2⟩ := exists_max m (y :: l) (by simp)
    by_cases h : m x ≤ m z
    · exact ⟨x :: A, z, B, by rw [e]; rfl, fun w hw => by rcases List.mem_cons.1 hw with rfl | hw; exact h; exact h1 w hw, h2⟩
    · have hz : m z ≤ m x := by rw [UInt64.le_iff_toNat_le] at *; omega
      refine ⟨[], x, y :: l, rfl, by simp, fun w hw => ?_⟩
      rw [e, List.mem_append, List.mem_cons] at hw
      rcases hw with hw | rfl | hw
      · exact UInt64.le_trans (h1 w hw) hz
      · exact hz
      · exact UInt64.le_trans (h2 w hw) hz
theorem exists_tree (m : UInt64 → UInt64) (hm : ∀ a b, m a = m b → a = b) : ∀ (n : Nat) (l : List UInt64), l.length ≤ n → l.Nodup → ∃ t : Tr, Heap m t ∧ t.list = l
  | 0, l, hl, _ => ⟨nil, trivial, (List.eq_nil_of_length_eq_zero (Nat.le_zero.1 hl)).symm⟩
  | n + 1, l, hl, hn => by
    by_cases he : l = []
    · exact ⟨nil, trivial, by rw [he]; rfl⟩
    · obtain ⟨A, x, B, rfl, h1, h2⟩ := exists_max m l he
      simp only [List.length_append, List.length_cons] at hl
      obtain ⟨d1, d2, d3⟩ := List.nodup_append.1 hn
      obtain ⟨d4, d5⟩ := List.nodup_cons.1 d2
      obtain ⟨t, a1, a2⟩ := exists_tree m hm n A (by omega) d1
      obtain ⟨u, b1, b2⟩ := exists_tree m hm n B (by omega) d5
      have lt_of : ∀ y, m y ≤ m x → y ≠ x → m y < m x := fun y h hne => by
        rw [UInt64.le_iff_toNat_le] at h
        rw [UInt64.lt_iff_toNat_lt]
        have : (m y).toNat ≠ (m x).toNat := fun e => hne (hm _ _ (UInt64.toNat_inj.1 e))
        omega
      refine ⟨node t x u, ⟨fun y hy => ?_, a1, b1⟩, by simp [list, a2, b2]⟩
      rw [a2, b2] at hy
      rcases hy with hy | hy
      · exact lt_of y (h1 y hy) (fun e => d3 y hy x (by simp) e)
      · exact lt_of y (h2 y hy) (fun e => d4 (by rw [← e]; exact hy))
end Tr
section
variable {m : UInt64 → UInt64} {lt : UInt64 → UInt64 → Bool}
structure Ord (lt : UInt64 → UInt64 → Bool) : Prop where
 irr : ∀ a, lt a a = false
 trans : ∀ a b c, lt a b = true → lt b c = true → lt a c = true
 tot : ∀ a b, lt a b = false → lt b a = false → a = b
theorem Ord.asymm (ho : Ord lt) {a b : UInt64} (h : lt a b = true) : lt b a = false := by
 cases e : lt b a with
 | false => rfl
 | true => have := ho.trans _ _ _ h e; rw [ho.irr] at this; cases this
def Sorted (lt : UInt64 → UInt64 → Bool) (l : List UInt64) : Prop := l.Pairwise (fun a b => lt a b = true)
theorem Sorted.nodup (ho : Ord lt) {l : List UInt64} (h : Sorted lt l) : l.Nodup := List.Pairwise.imp (fun h e => by subst e; rw [ho.irr] at h; cases h) h
theorem Sorted.below (ho : Ord lt) {l : List UInt64} (h : Sorted lt l) (x : UInt64) : l.Pairwise (fun a b => lt b x = true → lt a x = true) := List.Pairwise.imp (fun {_a _b} h e => ho.trans _ _ _ h e) h
theorem Sorted.unique (ho : Ord lt) : ∀ {l k : List UInt64}, Sorted lt l → Sorted lt k → (∀ x, x ∈ l ↔ x ∈ k) → l = k
  | [], [], _, _, _ => rfl
  | [], y :: k, _, _, h => by have := (h y).2 (by simp); simp at this
  | x :: l, [], _, _, h => by have := (h x).1 (by simp); simp at this
  | x :: l, y :: k, hl, hk, h => by
    obtain ⟨a1, a2⟩ := List.pairwise_cons.1 hl
    obtain ⟨b1, b2⟩ := List.pairwise_cons.1 hk
    have hxy : x = y := by
      apply Classical.byContradiction
      intro hne
      have e1 : y ∈ l := by
        have := (h y).2 (by simp)
        rcases List.mem_cons.1 this with e | e
        · exact absurd e.symm hne
        · exact e
      have e2 : x ∈ k := by
        have := (h x).1 (by simp)
        rcases List.mem_cons.1 this with e | e
        · exact absurd e hne
        · exact e
      have := ho.asymm (a1 y e1)
      rw [b1 x e2] at this
      cases this
    subst hxy
    have n1 := (List.nodup_cons.1 (Sorted.nodup ho hl)).1
    have n2 := (List.nodup_cons.1 (Sorted.nodup ho hk)).1
    rw [Sorted.unique ho a2 b2 (fun z => ?_)]
    constructor
    · intro hz
      rcases List.mem_cons.1 ((h z).1 (by simp [hz])) with e | e
      · subst e; exact absurd hz n1
      · exact e
    · intro hz
      rcases List.mem_cons.1 ((h z).2 (by simp [hz])) with e | e
      · subst e; exact absurd hz n2
      · exact e
theorem Sorted.filter {l : List UInt64} (h : Sorted lt l) (p : UInt64 → Bool) : Sorted lt (l.filter p) := List.Pairwise.filter p h
theorem Sorted.put (ho : Ord lt) {l : List UInt64} (h : Sorted lt l) {x : UInt64} (hx : x ∉ l) : Sorted lt (l.filter (fun z => lt z x) ++ x :: l.filter (fun z => !lt z x)) := by
 refine List.pairwise_append.2 ⟨h.filter _, List.pairwise_cons.2 ⟨fun z hz => ?_, h.filter _⟩, fun a ha b hb => ?_⟩
 ·obtain ⟨h1, h2⟩ := List.mem_filter.1 hz
  have h2' : lt z x = false := by simpa using h2
  cases e : lt x z with
  | true => rfl
  | false => exact absurd (by rw [ho.tot _ _ h2' e] at h1; exact h1) hx
 ·obtain ⟨h1, h2⟩ := List.mem_filter.1 ha
  rcases List.mem_cons.1 hb with rfl | hb
  ·exact h2
  ·obtain ⟨h3, h4⟩ := List.mem_filter.1 hb
   have h4' : lt b x = false := by simpa using h4
   cases e : lt x b with
   | true => exact ho.trans _ _ _ h2 e
   | false => exact absurd (by rw [ho.tot _ _ h4' e] at h3; exact h3) hx
namespace Tr
theorem insert_list (ho : Ord lt) {x : UInt64} : ∀ {t : Tr}, Sorted lt t.list → x ∉ t.list → (insert m lt x t).list = t.list.filter (fun z => lt z x) ++ x :: t.list.filter (fun z => !lt z x)
  | nil, _, _ => by simp [insert, list]
  | node l y r, h, hx => by
    unfold insert
    by_cases hm : m x > m y
    · rw [if_pos hm]
      obtain ⟨e1, e2⟩ := split_list (fun z => lt z x) (h.below ho x)
      simp only [list] at e1 e2 ⊢
      rw [e1, e2]
    · rw [if_neg hm]
      simp only [list] at h hx
      obtain ⟨h1, h2, h3⟩ := List.pairwise_append.1 h
      obtain ⟨h4, h5⟩ := List.pairwise_cons.1 h2
      simp only [List.mem_append, List.mem_cons, not_or] at hx
      obtain ⟨x1, x2, x3⟩ := hx
      cases hxy : lt x y with
      | true =>
        rw [if_pos rfl]
        have hyx := ho.asymm hxy
        have hr : ∀ z ∈ r.list, lt z x = false := fun z hz => ho.asymm (ho.trans _ _ _ hxy (h4 z hz))
        simp only [list, insert_list ho h1 x1, List.filter_append, List.filter_cons, hyx]
        rw [(List.filter_eq_nil_iff (l := r.list) (p := fun z => lt z x)).2 (fun z hz => by simp [hr z hz]), (List.filter_eq_self (l := r.list) (p := fun z => !lt z x)).2 (fun z hz => by simp [hr z hz])]
        simp
      | false =>
        rw [if_neg (by simp)]
        have hyx : lt y x = true := by
          cases e : lt y x with
          | true => rfl
          | false => exact absurd (ho.tot _ _ hxy e) x2
        have hl : ∀ z ∈ l.list, lt z x = true := fun z hz => ho.trans _ _ _ (h3 z hz y (by simp)) hyx
        simp only [list, insert_list ho h5 x3, List.filter_append, List.filter_cons, hyx]
        rw [(List.filter_eq_self (l := l.list) (p := fun z => lt z x)).2 hl, (List.filter_eq_nil_iff (l := l.list) (p := fun z => !lt z x)).2 (fun z hz => by simp [hl z hz])]
        simp
theorem mem_insert (ho : Ord lt) {x y : UInt64} {t : Tr} (h : Sorted lt t.list) (hx : x ∉ t.list) : y ∈ (insert m lt x t).list ↔ y = x ∨ y ∈ t.list := by
 rw [insert_list ho h hx, List.mem_append, List.mem_cons, List.mem_filter, List.mem_filter]
 cases lt y x <;> simp [or_comm]
theorem mem_insert_sub {x y : UInt64} : ∀ {t : Tr}, y ∈ (insert m lt x t).list → y = x ∨ y ∈ t.list
  | nil, h => by simp [insert, list] at h; exact .inl h
  | node l z r, h => by
    unfold insert at h
    by_cases hg : m x > m z
    · rw [if_pos hg] at h
      simp only [list, List.mem_append, List.mem_cons] at h
      rcases h with h | h | h
      · exact .inr (mem_split.1 (.inl h))
      · exact .inl h
      · exact .inr (mem_split.1 (.inr h))
    · rw [if_neg hg] at h
      by_cases hl : lt x z = true
      · rw [if_pos hl] at h
        simp only [list, List.mem_append, List.mem_cons] at h ⊢
        rcases h with h | h | h
        · exact (mem_insert_sub h).imp id .inl
        · exact .inr (.inr (.inl h))
        · exact .inr (.inr (.inr h))
      · rw [if_neg hl] at h
        simp only [list, List.mem_append, List.mem_cons] at h ⊢
        rcases h with h | h | h
        · exact .inr (.inl h)
        · exact .inr (.inr (.inl h))
        · exact (mem_insert_sub h).imp id (fun e => .inr (.inr e))
theorem Heap.insert (hm : ∀ a b, m a = m b → a = b) (ho : Ord lt) {x : UInt64} : ∀ {t : Tr}, Heap m t → Sorted lt t.list → x ∉ t.list → Heap m (Tr.insert m lt x t)
  | nil, _, _, _ => by simp [Tr.insert, Heap, list]
  | node l y r, ⟨a1, a2, a3⟩, h, hx => by
    unfold Tr.insert
    by_cases hg : m x > m y
    · rw [if_pos hg]
      obtain ⟨e1, e2⟩ := Heap.split (p := fun z => lt z x) (show Heap m (node l y r) from ⟨a1, a2, a3⟩)
      refine ⟨fun z hz => ?_, e1, e2⟩
      have hz' : z ∈ (node l y r).list := mem_split.1 hz
      simp only [list, List.mem_append, List.mem_cons] at hz'
      rcases hz' with hz | rfl | hz
      · exact UInt64.lt_trans (a1 z (.inl hz)) hg
      · exact hg
      · exact UInt64.lt_trans (a1 z (.inr hz)) hg
    · rw [if_neg hg]
      simp only [list] at h hx
      obtain ⟨h1, h2, h3⟩ := List.pairwise_append.1 h
      obtain ⟨h4, h5⟩ := List.pairwise_cons.1 h2
      simp only [List.mem_append, List.mem_cons, not_or] at hx
      obtain ⟨x1, x2, x3⟩ := hx
      have hlt : m x < m y := by
        rw [UInt64.lt_iff_toNat_lt]
        have h1 : (m x).toNat ≠ (m y).toNat := fun e => x2 (hm _ _ (UInt64.toNat_inj.1 e))
        have h2 : ¬ (m y).toNat < (m x).toNat := fun e => hg (UInt64.lt_iff_toNat_lt.2 e)
        omega
      cases hxy : lt x y with
      | true =>
        rw [if_pos rfl]
        refine ⟨fun z hz => ?_, Heap.insert hm ho a2 h1 x1, a3⟩
        rcases hz with hz | hz
        · rcases (mem_insert ho h1 x1).1 hz with rfl | hz
          · exact hlt
          · exact a1 z (.inl hz)
        · exact a1 z (.inr hz)
      | false =>
        rw [if_neg (by simp)]
        refine ⟨fun z hz => ?_, a2, Heap.insert hm ho a3 h5 x3⟩
        rcases hz with hz | hz
        · exact a1 z (.inl hz)
        · rcases (mem_insert ho h5 x3).1 hz with rfl | hz
          · exact hlt
          · exact a1 z (.inr hz)
theorem remove_list (ho : Ord lt) {x : UInt64} : ∀ {t : Tr}, Sorted lt t.list → (remove m lt x t).list = t.list.filter (fun z => z != x)
  | nil, _ => by simp [remove, list]
  | node l y r, h => by
    unfold remove
    simp only [list] at h
    obtain ⟨h1, h2, h3⟩ := List.pairwise_append.1 h
    obtain ⟨h4, h5⟩ := List.pairwise_cons.1 h2
    have ne_of : ∀ {a b}, lt a b = true → a ≠ b := fun {a b} h e => by subst e; rw [ho.irr] at h; cases h
    by_cases hyx : y = x
    · rw [if_pos hyx]
      subst hyx
      simp only [join_list, list, List.filter_append, List.filter_cons]
      rw [(List.filter_eq_self (l := l.list) (p := fun z => z != y)).2 (fun z hz => by simpa using ne_of (h3 z hz y (by simp))), (List.filter_eq_self (l := r.list) (p := fun z => z != y)).2 (fun z hz => by simpa using (ne_of (h4 z hz)).symm)]
      simp
    · rw [if_neg hyx]
      cases hxy : lt x y with
      | true =>
        rw [if_pos rfl]
        simp only [list, remove_list ho h1, List.filter_append, List.filter_cons]
        rw [(List.filter_eq_self (l := r.list) (p := fun z => z != x)).2 (fun z hz => by simpa using (ne_of (ho.trans _ _ _ hxy (h4 z hz))).symm)]
        simp [hyx]
      | false =>
        rw [if_neg (by simp)]
        have hlt : lt y x = true := by
          cases e : lt y x with
          | true => rfl
          | false => exact absurd (ho.tot _ _ hxy e).symm hyx
        simp only [list, remove_list ho h5, List.filter_append, List.filter_cons]
        rw [(List.filter_eq_self (l := l.list) (p := fun z => z != x)).2 (fun z hz => by simpa using ne_of (ho.trans _ _ _ (h3 z hz y (by simp)) hlt))]
        simp [hyx]
theorem mem_remove (ho : Ord lt) {x y : UInt64} {t : Tr} (h : Sorted lt t.list) : y ∈ (remove m lt x t).list ↔ y ∈ t.list ∧ y ≠ x := by
  rw [remove_list ho h, List.mem_filter]; simp
theorem Heap.remove (hm : ∀ a b, m a = m b → a = b) (ho : Ord lt) {x : UInt64} : ∀ {t : Tr}, Heap m t → Sorted lt t.list → Heap m (Tr.remove m lt x t)
  | nil, _, _ => by simp [Tr.remove, Heap]
  | node l y r, ⟨a1, a2, a3⟩, h => by
    unfold Tr.remove
    have hd := h.nodup ho
    simp only [list] at h hd
    obtain ⟨h1, h2, h3⟩ := List.pairwise_append.1 h
    obtain ⟨h4, h5⟩ := List.pairwise_cons.1 h2
    by_cases hyx : y = x
    · rw [if_pos hyx]
      exact Heap.join hm a2 a3 (fun z hz hz2 => (List.nodup_append.1 hd).2.2 z hz z (by simp [hz2]) rfl)
    · rw [if_neg hyx]
      cases hxy : lt x y with
      | true =>
        rw [if_pos rfl]
        refine ⟨fun z hz => a1 z (hz.imp (fun hz => ((mem_remove ho h1).1 hz).1) id), Heap.remove hm ho a2 h1, a3⟩
      | false =>
        rw [if_neg (by simp)]
        refine ⟨fun z hz => a1 z (hz.imp id (fun hz => ((mem_remove ho h5).1 hz).1)), a2, Heap.remove hm ho a3 h5⟩
end Tr
end
def ltK (a b : UInt64 × UInt64) : Bool := decide (a.1.toNat < b.1.toNat) || (a.1 == b.1 && decide (a.2.toNat < b.2.toNat))
theorem ltK_iff {a b : UInt64 × UInt64} : ltK a b = true ↔ a.1.toNat < b.1.toNat ∨ (a.1.toNat = b.1.toNat ∧ a.2.toNat < b.2.toNat) := by
  simp [ltK, UInt64.toNat_inj]
section
variable (sz : UInt64 → UInt64) (mix : UInt64 → UInt64) (n : Nat)
def keyF (f : St) (x : UInt64) : UInt64 × UInt64 := (sz (f x), x)
def ltF (f : St) (a b : UInt64) : Bool := ltK (keyF sz f a) (keyF sz f b)
theorem ltF_ord (f : St) : Ord (ltF sz f) where
 irr a := by
  cases h : ltF sz f a a with
  | false => rfl
  | true => have := ltK_iff.1 h; omega
 trans a b c h k := by
  have h1 := ltK_iff.1 h
  have h2 := ltK_iff.1 k
  exact ltK_iff.2 (by simp only [keyF] at *; omega)
 tot a b h k := by
  have h1 := mt ltK_iff.2 (show ¬ ltK (keyF sz f a) (keyF sz f b) = true by unfold ltF at h; rw [h]; decide)
  have h2 := mt ltK_iff.2 (show ¬ ltK (keyF sz f b) (keyF sz f a) = true by unfold ltF at k; rw [k]; decide)
  simp only [keyF] at h1 h2
  exact UInt64.toNat_inj.1 (by omega)
inductive SplR : St → UInt64 → UInt64 × UInt64 → St → UInt64 → UInt64 → Prop
 | nil (f k) : SplR f 0 k f 0 0
 | right {f at_ k f' a b} : at_ ≠ 0 → ltK (keyF sz f at_) k = true → SplR f (f (at_ + 16)) k f' a b → SplR f at_ k (stF n f' (at_ + 16) a) at_ b
 | left {f at_ k f' a b} : at_ ≠ 0 → ltK (keyF sz f at_) k = false → SplR f (f (at_ + 8)) k f' a b → SplR f at_ k (stF n f' (at_ + 8) b) a at_
inductive JoinR : St → UInt64 → UInt64 → St → UInt64 → Prop
 | nil (f b) : JoinR f 0 b f b
 | one {f a} : a ≠ 0 → JoinR f a 0 f a
 | left {f a b f' r} : a ≠ 0 → b ≠ 0 → mix a > mix b → JoinR f (f (a + 16)) b f' r → JoinR f a b (stF n f' (a + 16) r) a
 | right {f a b f' r} : a ≠ 0 → b ≠ 0 → ¬ mix a > mix b → JoinR f a (f (b + 8)) f' r → JoinR f a b (stF n f' (b + 8) r) b
def sideF (f : St) (at_ : UInt64) (k : UInt64 × UInt64) : UInt64 := if ltK k (keyF sz f at_) then at_ + 8 else at_ + 16
inductive InsR : St → UInt64 → UInt64 → St → UInt64 → Prop
 | top {f at_ off f' a b} : (at_ = 0 ∨ mix off > mix at_) → SplR sz n f at_ (keyF sz f off) f' a b → InsR f at_ off (stF n (stF n f' (off + 8) a) (off + 16) b) off
 | down {f at_ off f' r} : at_ ≠ 0 → ¬ mix off > mix at_ → InsR f (f (sideF sz f at_ (keyF sz f off))) off f' r → InsR f at_ off (stF n f' (sideF sz f at_ (keyF sz f off)) r) at_
inductive RemR : St → UInt64 → UInt64 → St → UInt64 → Bool → Prop
 | nil (f off) : RemR f 0 off f 0 false
 | hit {f at_ f' r} : at_ ≠ 0 → JoinR mix n f (f (at_ + 8)) (f (at_ + 16)) f' r → RemR f at_ at_ f' r true
 | down {f at_ off f' r ok} : at_ ≠ 0 → at_ ≠ off → RemR f (f (sideF sz f at_ (keyF sz f off))) off f' r ok → RemR f at_ off (stF n f' (sideF sz f at_ (keyF sz f off)) r) at_ ok
inductive AftR : St → UInt64 × UInt64 → UInt64 → UInt64 → UInt64 → Nat → Prop
 | nil (f k best) : AftR f k 0 best best 0
 | step {f k at_ best r d} : at_ ≠ 0 → AftR f k (f (sideF sz f at_ k)) (if ltK k (keyF sz f at_) then at_ else best) r d → AftR f k at_ best r (d + 1)
end
structure Spot (n : Nat) (X : List UInt64) : Prop where
 al : ∀ x ∈ X, x.toNat % 16 = 0
 pos : ∀ x ∈ X, 0 < x.toNat
 inn : ∀ x ∈ X, x.toNat + 48 ≤ n
 apart : ∀ x ∈ X, ∀ y ∈ X, x.toNat + 16 ≠ y.toNat
 small : n ≤ 1048576
def Out (X : List UInt64) (f g : St) : Prop := ∀ o, (∀ x ∈ X, o ≠ x + 8 ∧ o ≠ x + 16) → g o = f o
theorem Out.refl (X : List UInt64) (f : St) : Out X f f := fun _ _ => rfl
theorem Out.trans {X : List UInt64} {f g h : St} (a : Out X f g) (b : Out X g h) : Out X f h := fun o ho => (b o ho).trans (a o ho)
theorem Out.mono {X Y : List UInt64} {f g : St} (a : Out X f g) (h : ∀ x ∈ X, x ∈ Y) : Out Y f g := fun o ho => a o (fun x hx => ho x (h x hx))
section
variable {n : Nat} {X : List UInt64} (hX : Spot n X)
include hX
theorem Spot.n8 {x : UInt64} (hx : x ∈ X) : (x + 8).toNat = x.toNat + 8 := by
 have h1 := hX.inn x hx; have h2 := hX.small
 rw [UInt64.toNat_add]; simp; omega
theorem Spot.n16 {x : UInt64} (hx : x ∈ X) : (x + 16).toNat = x.toNat + 16 := by
 have h1 := hX.inn x hx; have h2 := hX.small
 rw [UInt64.toNat_add]; simp; omega
theorem Spot.e8 {x y : UInt64} (hx : x ∈ X) (hy : y ∈ X) (h : x + 8 = y + 8) : x = y := by
  have a := hX.n8 hx; have b := hX.n8 hy; rw [h] at a; exact UInt64.toNat_inj.1 (by omega)
theorem Spot.e16 {x y : UInt64} (hx : x ∈ X) (hy : y ∈ X) (h : x + 16 = y + 16) : x = y := by
  have a := hX.n16 hx; have b := hX.n16 hy; rw [h] at a; exact UInt64.toNat_inj.1 (by omega)
theorem Spot.n816 {x y : UInt64} (hx : x ∈ X) (hy : y ∈ X) : x + 8 ≠ y + 16 := fun h => by
 have a := hX.n8 hx; have b := hX.n16 hy; rw [h] at a
 have := hX.al x hx; have := hX.al y hy; omega
theorem Spot.self8 {x y : UInt64} (hx : x ∈ X) (hy : y ∈ X) : y ≠ x + 8 := fun h => by
 have a := hX.n8 hx; rw [← h] at a
 have := hX.al x hx; have := hX.al y hy; omega
theorem Spot.self16 {x y : UInt64} (hx : x ∈ X) (hy : y ∈ X) : y ≠ x + 16 := fun h => by
 have a := hX.n16 hx; rw [← h] at a
 exact hX.apart x hx y hy a.symm
theorem Spot.st8 {x : UInt64} (hx : x ∈ X) (f : St) (v : UInt64) : stF n f (x + 8) v = upd f (x + 8) v :=
  stF_in f v (by rw [hX.n8 hx]; have := hX.al x hx; omega) (by rw [hX.n8 hx]; have := hX.inn x hx; omega)
theorem Spot.st16 {x : UInt64} (hx : x ∈ X) (f : St) (v : UInt64) : stF n f (x + 16) v = upd f (x + 16) v :=
  stF_in f v (by rw [hX.n16 hx]; have := hX.al x hx; omega) (by rw [hX.n16 hx]; have := hX.inn x hx; omega)
theorem Spot.nz {x : UInt64} (hx : x ∈ X) : x ≠ 0 := fun e => by have := hX.pos x hx; rw [e] at this; simp at this
theorem Spot.out8 {Y : List UInt64} {x : UInt64} (hx : x ∈ X) (h : x ∈ Y) (f : St) (v : UInt64) : Out Y f (stF n f (x + 8) v) := fun o ho => by
  rw [hX.st8 hx]; exact upd_ne f v (ho x h).1
theorem Spot.out16 {Y : List UInt64} {x : UInt64} (hx : x ∈ X) (h : x ∈ Y) (f : St) (v : UInt64) : Out Y f (stF n f (x + 16) v) := fun o ho => by
  rw [hX.st16 hx]; exact upd_ne f v (ho x h).2
theorem Spot.frame {Y : List UInt64} {f g : St} {a : UInt64} {t : Tr} (h : t.Rep f a) (ho : Out Y f g) (hY : ∀ y ∈ Y, y ∈ X) (ht : ∀ y ∈ t.list, y ∈ X) (hd : ∀ y ∈ t.list, y ∉ Y) : t.Rep g a :=
 Tr.rep_frame h (fun x hx => ⟨ho _ (fun y hy => ⟨fun e => hd x hx (by rw [hX.e8 (ht x hx) (hY y hy) e]; exact hy), hX.n816 (ht x hx) (hY y hy)⟩),
  ho _ (fun y hy => ⟨fun e => hX.n816 (hY y hy) (ht x hx) e.symm, fun e => hd x hx (by rw [hX.e16 (ht x hx) (hY y hy) e]; exact hy)⟩)⟩)
theorem Spot.tag {Y : List UInt64} {f g : St} (ho : Out Y f g) (hY : ∀ y ∈ Y, y ∈ X) {x : UInt64} (hx : x ∈ X) : g x = f x :=
  ho x (fun y hy => ⟨hX.self8 (hY y hy) hx, hX.self16 (hY y hy) hx⟩)
theorem Spot.key (sz : UInt64 → UInt64) {Y : List UInt64} {f g : St} (ho : Out Y f g) (hY : ∀ y ∈ Y, y ∈ X) {x : UInt64} (hx : x ∈ X) : keyF sz g x = keyF sz f x := by
  unfold keyF; rw [hX.tag ho hY hx]
theorem Spot.left8 {Y : List UInt64} {f g : St} (ho : Out Y f g) (hY : ∀ y ∈ Y, y ∈ X) {x : UInt64} (hx : x ∈ X) (hn : x ∉ Y) : g (x + 8) = f (x + 8) :=
  ho _ (fun y hy => ⟨fun e => hn (by rw [hX.e8 hx (hY y hy) e]; exact hy), hX.n816 hx (hY y hy)⟩)
theorem Spot.left16 {Y : List UInt64} {f g : St} (ho : Out Y f g) (hY : ∀ y ∈ Y, y ∈ X) {x : UInt64} (hx : x ∈ X) (hn : x ∉ Y) : g (x + 16) = f (x + 16) :=
  ho _ (fun y hy => ⟨fun e => hX.n816 (hY y hy) hx e.symm, fun e => hn (by rw [hX.e16 hx (hY y hy) e]; exact hy)⟩)
theorem Spot.node16 {g : St} {x v : UInt64} {l r : Tr} (hx : x ∈ X) (hl : l.Rep g (g (x + 8))) (hr : r.Rep g v) (tl : ∀ y ∈ l.list, y ∈ X) (tr : ∀ y ∈ r.list, y ∈ X) (nl : x ∉ l.list) (nr : x ∉ r.list) :
  (Tr.node l x r).Rep (stF n g (x + 16) v) x := by
 have ho : Out [x] g (stF n g (x + 16) v) := hX.out16 hx (by simp) g v
 have hs : ∀ y ∈ [x], y ∈ X := fun y hy => by rw [List.mem_singleton.1 hy]; exact hx
 refine ⟨rfl, hX.nz hx, ?_, ?_⟩
 ·rw [hX.st16 hx, upd_ne g v (hX.n816 hx hx), ← hX.st16 hx]
  exact hX.frame hl ho hs tl (fun y hy e => nl (by rw [List.mem_singleton.1 e] at hy; exact hy))
 ·have e : stF n g (x + 16) v (x + 16) = v := by rw [hX.st16 hx]; exact upd_same g _ v
  rw [e]
  exact hX.frame hr ho hs tr (fun y hy e => nr (by rw [List.mem_singleton.1 e] at hy; exact hy))
theorem Spot.node8 {g : St} {x v : UInt64} {l r : Tr} (hx : x ∈ X) (hl : l.Rep g v) (hr : r.Rep g (g (x + 16))) (tl : ∀ y ∈ l.list, y ∈ X) (tr : ∀ y ∈ r.list, y ∈ X) (nl : x ∉ l.list) (nr : x ∉ r.list) :
  (Tr.node l x r).Rep (stF n g (x + 8) v) x := by
 have ho : Out [x] g (stF n g (x + 8) v) := hX.out8 hx (by simp) g v
 have hs : ∀ y ∈ [x], y ∈ X := fun y hy => by rw [List.mem_singleton.1 hy]; exact hx
 refine ⟨rfl, hX.nz hx, ?_, ?_⟩
 ·have e : stF n g (x + 8) v (x + 8) = v := by rw [hX.st8 hx]; exact upd_same g _ v
  rw [e]
  exact hX.frame hl ho hs tl (fun y hy e => nl (by rw [List.mem_singleton.1 e] at hy; exact hy))
 ·rw [hX.st8 hx, upd_ne g v (fun e => hX.n816 hx hx e.symm), ← hX.st8 hx]
  exact hX.frame hr ho hs tr (fun y hy e => nr (by rw [List.mem_singleton.1 e] at hy; exact hy))
end
section
variable {sz mix : UInt64 → UInt64} {n : Nat} {X : List UInt64}
theorem split_rep (hX : Spot n X) (k : UInt64 × UInt64) : ∀ {t : Tr} {f : St} {a : UInt64}, t.Rep f a → (∀ x ∈ t.list, x ∈ X) → t.list.Nodup →
    ∃ f' u v, SplR sz n f a k f' u v ∧ (Tr.split (fun x => ltK (keyF sz f x) k) t).1.Rep f' u ∧ (Tr.split (fun x => ltK (keyF sz f x) k) t).2.Rep f' v ∧ Out t.list f f'
  | .nil, f, a, h, _, _ => ⟨f, 0, 0, by rw [show a = 0 from h]; exact .nil _ _, rfl, rfl, Out.refl _ _⟩
  | .node l x r, f, a, h, ht, hn => by
    obtain ⟨rfl, h2, h3, h4⟩ := h
    have hx : a ∈ X := ht a (by simp [Tr.list])
    have tl : ∀ y ∈ l.list, y ∈ X := fun y hy => ht y (by simp [Tr.list, hy])
    have tr : ∀ y ∈ r.list, y ∈ X := fun y hy => ht y (by simp [Tr.list, hy])
    simp only [Tr.list] at hn
    obtain ⟨d1, d2, d3⟩ := List.nodup_append.1 hn
    obtain ⟨d4, d5⟩ := List.nodup_cons.1 d2
    have nl : a ∉ l.list := fun e => d3 a e a (by simp) rfl
    cases hp : ltK (keyF sz f a) k with
    | true =>
      obtain ⟨f1, u, v, e1, e2, e3, e4⟩ := split_rep hX k h4 tr d5
      have el : l.Rep f1 (f1 (a + 8)) := by
        rw [hX.left8 e4 tr hx d4]
        exact hX.frame h3 e4 tr tl (fun y hy hy2 => d3 y hy y (by simp [hy2]) rfl)
      have tu : ∀ y ∈ (Tr.split (fun x => ltK (keyF sz f x) k) r).1.list, y ∈ r.list := fun y hy => Tr.mem_split.1 (.inl hy)
      have tv : ∀ y ∈ (Tr.split (fun x => ltK (keyF sz f x) k) r).2.list, y ∈ r.list := fun y hy => Tr.mem_split.1 (.inr hy)
      refine ⟨stF n f1 (a + 16) u, a, v, .right h2 hp e1, ?_, ?_, ?_⟩
      · unfold Tr.split; rw [if_pos hp]
        exact hX.node16 hx el e2 tl (fun y hy => tr y (tu y hy)) nl (fun e => d4 (tu a e))
      · unfold Tr.split; rw [if_pos hp]
        exact hX.frame e3 (hX.out16 hx (Y := [a]) (by simp) f1 u) (fun y hy => by rw [List.mem_singleton.1 hy]; exact hx) (fun y hy => tr y (tv y hy)) (fun y hy e => d4 (by rw [List.mem_singleton.1 e] at hy; exact tv a hy))
      · exact (e4.mono (fun y hy => by simp [Tr.list, hy])).trans (hX.out16 hx (by simp [Tr.list]) f1 u)
    | false =>
      obtain ⟨f1, u, v, e1, e2, e3, e4⟩ := split_rep hX k h3 tl d1
      have er : r.Rep f1 (f1 (a + 16)) := by
        rw [hX.left16 e4 tl hx nl]
        exact hX.frame h4 e4 tl tr (fun y hy hy2 => d3 y hy2 y (by simp [hy]) rfl)
      have tu : ∀ y ∈ (Tr.split (fun x => ltK (keyF sz f x) k) l).1.list, y ∈ l.list := fun y hy => Tr.mem_split.1 (.inl hy)
      have tv : ∀ y ∈ (Tr.split (fun x => ltK (keyF sz f x) k) l).2.list, y ∈ l.list := fun y hy => Tr.mem_split.1 (.inr hy)
      refine ⟨stF n f1 (a + 8) v, u, a, .left h2 hp e1, ?_, ?_, ?_⟩
      · unfold Tr.split; rw [if_neg (by rw [hp]; decide)]
        exact hX.frame e2 (hX.out8 hx (Y := [a]) (by simp) f1 v) (fun y hy => by rw [List.mem_singleton.1 hy]; exact hx) (fun y hy => tl y (tu y hy)) (fun y hy e => nl (by rw [List.mem_singleton.1 e] at hy; exact tu a hy))
      · unfold Tr.split; rw [if_neg (by rw [hp]; decide)]
        exact hX.node8 hx e3 er (fun y hy => tl y (tv y hy)) tr (fun e => nl (tv a e)) d4
      · exact (e4.mono (fun y hy => by simp [Tr.list, hy])).trans (hX.out8 hx (by simp [Tr.list]) f1 v)
theorem join_rep' (hX : Spot n X) : ∀ (d : Nat) {t u : Tr} {f : St} {a b : UInt64}, t.list.length + u.list.length ≤ d → t.Rep f a → u.Rep f b → (∀ x ∈ t.list, x ∈ X) → (∀ x ∈ u.list, x ∈ X) → (t.list ++ u.list).Nodup →
    ∃ f' r, JoinR mix n f a b f' r ∧ (Tr.join mix t u).Rep f' r ∧ Out (t.list ++ u.list) f f'
  | _, .nil, u, f, a, b, _, h, k, _, _, _ => ⟨f, b, by rw [show a = 0 from h]; exact .nil _ _, by unfold Tr.join; exact k, Out.refl _ _⟩
  | _, .node l x r, .nil, f, a, b, _, h, k, _, _, _ => ⟨f, a, by rw [show b = 0 from k]; exact .one (by rw [h.1]; exact h.2.1), by unfold Tr.join; exact h, Out.refl _ _⟩
  | 0, .node l x r, .node l' y r', f, a, b, hd, h, k, ht, hu, hn => by simp [Tr.list] at hd
  | d + 1, .node l x r, .node l' y r', f, a, b, hd, h, k, ht, hu, hn => by
    have hA := h
    have kA := k
    obtain ⟨rfl, h2, h3, h4⟩ := h
    obtain ⟨rfl, k2, k3, k4⟩ := k
    have hx : a ∈ X := ht a (by simp [Tr.list])
    have hy : b ∈ X := hu b (by simp [Tr.list])
    have tl : ∀ y ∈ l.list, y ∈ X := fun y hy => ht y (by simp [Tr.list, hy])
    have tr : ∀ y ∈ r.list, y ∈ X := fun y hy => ht y (by simp [Tr.list, hy])
    have ul : ∀ y ∈ l'.list, y ∈ X := fun y hy => hu y (by simp [Tr.list, hy])
    have ur : ∀ y ∈ r'.list, y ∈ X := fun y hy => hu y (by simp [Tr.list, hy])
    have hn2 := hn
    obtain ⟨n1, n2, n3⟩ := List.nodup_append.1 hn
    simp only [Tr.list] at n1 n2
    obtain ⟨d1, d2, d3⟩ := List.nodup_append.1 n1
    obtain ⟨d4, d5⟩ := List.nodup_cons.1 d2
    obtain ⟨c1, c2, c3⟩ := List.nodup_append.1 n2
    obtain ⟨c4, c5⟩ := List.nodup_cons.1 c2
    have nl : a ∉ l.list := fun e => d3 a e a (by simp) rfl
    have nl' : b ∉ l'.list := fun e => c3 b e b (by simp) rfl
    have ap : ∀ z, z ∈ (Tr.node l a r).list → z ∈ (Tr.node l' b r').list → False := fun z hz hz2 => n3 z hz z hz2 rfl
    unfold Tr.join
    by_cases hm : mix a > mix b
    · rw [if_pos hm]
      obtain ⟨f1, q, e1, e2, e3⟩ := join_rep' hX d (by simp [Tr.list] at hd ⊢; omega) h4 kA tr hu (by
        refine List.nodup_append.2 ⟨d5, n2, fun z hz z2 hz2 e => ?_⟩
        subst e
        exact ap z (by simp [Tr.list, hz]) hz2)
      have hin : ∀ z ∈ r.list ++ (Tr.node l' b r').list, z ∈ X := fun z hz => by
        rcases List.mem_append.1 hz with hz | hz
        · exact tr z hz
        · exact hu z hz
      have hna : a ∉ r.list ++ (Tr.node l' b r').list := fun e => by
        rcases List.mem_append.1 e with e | e
        · exact d4 e
        · exact ap a (by simp [Tr.list]) e
      have el : l.Rep f1 (f1 (a + 8)) := by
        rw [hX.left8 e3 hin hx hna]
        exact hX.frame h3 e3 hin tl (fun z hz hz2 => by
          rcases List.mem_append.1 hz2 with e | e
          · exact d3 z hz z (by simp [e]) rfl
          · exact ap z (by simp [Tr.list, hz]) e)
      refine ⟨stF n f1 (a + 16) q, a, .left h2 k2 hm e1, hX.node16 hx el e2 tl (fun z hz => hin z (by rw [← Tr.join_list]; exact hz)) nl (fun e => hna (by rw [← Tr.join_list]; exact e)), ?_⟩
      exact (e3.mono (fun z hz => by
        rcases List.mem_append.1 hz with e | e
        · exact List.mem_append.2 (.inl (by simp [Tr.list, e]))
        · exact List.mem_append.2 (.inr e))).trans (hX.out16 hx (by simp [Tr.list]) f1 q)
    · rw [if_neg hm]
      obtain ⟨f1, q, e1, e2, e3⟩ := join_rep' hX d (by simp [Tr.list] at hd ⊢; omega) hA k3 ht ul (by
        refine List.nodup_append.2 ⟨n1, c1, fun z hz z2 hz2 e => ?_⟩
        subst e
        exact ap z hz (by simp [Tr.list, hz2]))
      have hin : ∀ z ∈ (Tr.node l a r).list ++ l'.list, z ∈ X := fun z hz => by
        rcases List.mem_append.1 hz with hz | hz
        · exact ht z hz
        · exact ul z hz
      have hna : b ∉ (Tr.node l a r).list ++ l'.list := fun e => by
        rcases List.mem_append.1 e with e | e
        · exact ap b e (by simp [Tr.list])
        · exact nl' e
      have er : r'.Rep f1 (f1 (b + 16)) := by
        rw [hX.left16 e3 hin hy hna]
        exact hX.frame k4 e3 hin ur (fun z hz hz2 => by
          rcases List.mem_append.1 hz2 with e | e
          · exact ap z e (by simp [Tr.list, hz])
          · exact c3 z e z (by simp [hz]) rfl)
      refine ⟨stF n f1 (b + 8) q, b, .right h2 k2 hm e1, hX.node8 hy e2 er (fun z hz => hin z (by rw [← Tr.join_list]; exact hz)) ur (fun e => hna (by rw [← Tr.join_list]; exact e)) c4, ?_⟩
      exact (e3.mono (fun z hz => by
        rcases List.mem_append.1 hz with e | e
        · exact List.mem_append.2 (.inl e)
        · exact List.mem_append.2 (.inr (by simp [Tr.list, e])))).trans (hX.out8 hy (by simp [Tr.list]) f1 q)
theorem join_rep (hX : Spot n X) {t u : Tr} {f : St} {a b : UInt64} (h : t.Rep f a) (k : u.Rep f b) (ht : ∀ x ∈ t.list, x ∈ X) (hu : ∀ x ∈ u.list, x ∈ X) (hn : (t.list ++ u.list).Nodup) :
 ∃ f' r, JoinR mix n f a b f' r ∧ (Tr.join mix t u).Rep f' r ∧ Out (t.list ++ u.list) f f' := join_rep' hX _ (Nat.le_refl _) h k ht hu hn
theorem insert_rep (hX : Spot n X) {off : UInt64} (ho : off ∈ X) : ∀ {t : Tr} {f : St} {a : UInt64}, t.Rep f a → (∀ x ∈ t.list, x ∈ X) → t.list.Nodup → off ∉ t.list →
    ∃ f' r, InsR sz mix n f a off f' r ∧ (Tr.insert mix (ltF sz f) off t).Rep f' r ∧ Out (off :: t.list) f f'
  | .nil, f, a, h, _, _, _ => by
    have ha : a = 0 := h
    subst ha
    refine ⟨_, off, .top (.inl rfl) (.nil _ _), ?_, ?_⟩
    · have e1 : stF n (stF n f (off + 8) 0) (off + 16) 0 (off + 8) = 0 := by rw [hX.st16 ho, upd_ne _ _ (hX.n816 ho ho), hX.st8 ho, upd_same]
      have e2 : stF n (stF n f (off + 8) 0) (off + 16) 0 (off + 16) = 0 := by rw [hX.st16 ho, upd_same]
      exact ⟨rfl, hX.nz ho, e1, e2⟩
    · exact (hX.out8 ho (by simp) f 0).trans (hX.out16 ho (by simp) _ 0)
  | .node l y r, f, a, h, ht, hn, hnin => by
    have hA := h
    obtain ⟨rfl, h2, h3, h4⟩ := h
    have hx : a ∈ X := ht a (by simp [Tr.list])
    have tl : ∀ y ∈ l.list, y ∈ X := fun y hy => ht y (by simp [Tr.list, hy])
    have tr : ∀ y ∈ r.list, y ∈ X := fun y hy => ht y (by simp [Tr.list, hy])
    have hn2 := hn
    simp only [Tr.list] at hn2
    obtain ⟨d1, d2, d3⟩ := List.nodup_append.1 hn2
    obtain ⟨d4, d5⟩ := List.nodup_cons.1 d2
    have nl : a ∉ l.list := fun e => d3 a e a (by simp) rfl
    have hnin2 := hnin
    simp only [Tr.list, List.mem_append, List.mem_cons, not_or] at hnin2
    obtain ⟨x1, x2, x3⟩ := hnin2
    unfold Tr.insert
    by_cases hm : mix off > mix a
    · rw [if_pos hm]
      obtain ⟨f1, u, v, e1, e2, e3, e4⟩ := split_rep (sz := sz) hX (keyF sz f off) hA ht hn
      refine ⟨_, off, .top (.inr hm) e1, ?_, ?_⟩
      · have tu : ∀ y ∈ (Tr.split (fun x => ltK (keyF sz f x) (keyF sz f off)) (.node l a r)).1.list, y ∈ (Tr.node l a r).list := fun y hy => Tr.mem_split.1 (.inl hy)
        have tv : ∀ y ∈ (Tr.split (fun x => ltK (keyF sz f x) (keyF sz f off)) (.node l a r)).2.list, y ∈ (Tr.node l a r).list := fun y hy => Tr.mem_split.1 (.inr hy)
        have o1 : Out [off] f1 (stF n f1 (off + 8) u) := hX.out8 ho (by simp) f1 u
        have hs : ∀ y ∈ [off], y ∈ X := fun y hy => by rw [List.mem_singleton.1 hy]; exact ho
        have g2 := hX.frame e2 o1 hs (fun y hy => ht y (tu y hy)) (fun y hy e => hnin (by rw [List.mem_singleton.1 e] at hy; exact tu off hy))
        have g3 := hX.frame e3 o1 hs (fun y hy => ht y (tv y hy)) (fun y hy e => hnin (by rw [List.mem_singleton.1 e] at hy; exact tv off hy))
        have e8 : stF n f1 (off + 8) u (off + 8) = u := by rw [hX.st8 ho, upd_same]
        exact hX.node16 ho (by rw [e8]; exact g2) g3 (fun y hy => ht y (tu y hy)) (fun y hy => ht y (tv y hy)) (fun e => hnin (tu off e)) (fun e => hnin (tv off e))
      · exact ((e4.mono (fun y hy => by simp [hy])).trans (hX.out8 ho (by simp) f1 u)).trans (hX.out16 ho (by simp) _ v)
    · rw [if_neg hm]
      have hside : ∀ b, ltF sz f off a = b → sideF sz f a (keyF sz f off) = if b then a + 8 else a + 16 := fun b hb => by unfold sideF; unfold ltF at hb; rw [hb]
      cases hlt : ltF sz f off a with
      | true =>
        have hs := hside _ hlt
        rw [if_pos rfl] at hs ⊢
        obtain ⟨f1, q, e1, e2, e3⟩ := insert_rep hX ho h3 tl d1 x1
        have hin : ∀ z ∈ off :: l.list, z ∈ X := fun z hz => by
          rcases List.mem_cons.1 hz with rfl | hz
          · exact ho
          · exact tl z hz
        have hna : a ∉ off :: l.list := fun e => by
          rcases List.mem_cons.1 e with e | e
          · exact x2 e.symm
          · exact nl e
        have er : r.Rep f1 (f1 (a + 16)) := by
          rw [hX.left16 e3 hin hx hna]
          exact hX.frame h4 e3 hin tr (fun z hz hz2 => by
            rcases List.mem_cons.1 hz2 with e | e
            · exact x3 (by rw [← e]; exact hz)
            · exact d3 z e z (by simp [hz]) rfl)
        refine ⟨stF n f1 (sideF sz f a (keyF sz f off)) q, a, .down h2 hm (by rw [hs]; exact e1), ?_, ?_⟩
        · rw [hs]
          have hmem : ∀ y ∈ (Tr.insert mix (ltF sz f) off l).list, y = off ∨ y ∈ l.list := fun y hy => Tr.mem_insert_sub hy
          exact hX.node8 hx e2 er (fun y hy => (hmem y hy).elim (fun e => by rw [e]; exact ho) (tl y)) tr (fun e => (hmem a e).elim (fun e => x2 e.symm) nl) d4
        · rw [hs]
          exact (e3.mono (fun z hz => by rcases List.mem_cons.1 hz with rfl | e <;> simp [Tr.list, *])).trans (hX.out8 hx (by simp [Tr.list]) f1 q)
      | false =>
        have hs := hside _ hlt
        rw [if_neg (by decide)] at hs ⊢
        obtain ⟨f1, q, e1, e2, e3⟩ := insert_rep hX ho h4 tr d5 x3
        have hin : ∀ z ∈ off :: r.list, z ∈ X := fun z hz => by
          rcases List.mem_cons.1 hz with rfl | hz
          · exact ho
          · exact tr z hz
        have hna : a ∉ off :: r.list := fun e => by
          rcases List.mem_cons.1 e with e | e
          · exact x2 e.symm
          · exact d4 e
        have el : l.Rep f1 (f1 (a + 8)) := by
          rw [hX.left8 e3 hin hx hna]
          exact hX.frame h3 e3 hin tl (fun z hz hz2 => by
            rcases List.mem_cons.1 hz2 with e | e
            · exact x1 (by rw [← e]; exact hz)
            · exact d3 z hz z (by simp [e]) rfl)
        refine ⟨stF n f1 (sideF sz f a (keyF sz f off)) q, a, .down h2 hm (by rw [hs]; exact e1), ?_, ?_⟩
        · rw [hs]
          have hmem : ∀ y ∈ (Tr.insert mix (ltF sz f) off r).list, y = off ∨ y ∈ r.list := fun y hy => Tr.mem_insert_sub hy
          exact hX.node16 hx el e2 tl (fun y hy => (hmem y hy).elim (fun e => by rw [e]; exact ho) (tr y)) nl (fun e => (hmem a e).elim (fun e => x2 e.symm) d4)
        · rw [hs]
          exact (e3.mono (fun z hz => by rcases List.mem_cons.1 hz with rfl | e <;> simp [Tr.list, *])).trans (hX.out16 hx (by simp [Tr.list]) f1 q)
theorem remove_rep (hX : Spot n X) {off : UInt64} : ∀ {t : Tr} {f : St} {a : UInt64}, t.Rep f a → (∀ x ∈ t.list, x ∈ X) → Sorted (ltF sz f) t.list →
    ∃ f' r, RemR sz mix n f a off f' r (decide (off ∈ t.list)) ∧ (Tr.remove mix (ltF sz f) off t).Rep f' r ∧ Out t.list f f'
  | .nil, f, a, h, _, _ => by
    have ha : a = 0 := h
    subst ha
    exact ⟨f, 0, by simpa [Tr.list] using RemR.nil (sz := sz) (mix := mix) (n := n) f off, rfl, Out.refl _ _⟩
  | .node l y r, f, a, h, ht, hsrt => by
    have hA := h
    obtain ⟨rfl, h2, h3, h4⟩ := h
    have hx : a ∈ X := ht a (by simp [Tr.list])
    have tl : ∀ y ∈ l.list, y ∈ X := fun y hy => ht y (by simp [Tr.list, hy])
    have tr : ∀ y ∈ r.list, y ∈ X := fun y hy => ht y (by simp [Tr.list, hy])
    have hord := ltF_ord sz f
    have hn2 := hsrt.nodup hord
    have hsrt2 := hsrt
    simp only [Tr.list] at hn2 hsrt2
    obtain ⟨s1, s2, s3⟩ := List.pairwise_append.1 hsrt2
    obtain ⟨s4, s5⟩ := List.pairwise_cons.1 s2
    obtain ⟨d1, d2, d3⟩ := List.nodup_append.1 hn2
    obtain ⟨d4, d5⟩ := List.nodup_cons.1 d2
    have nl : a ∉ l.list := fun e => d3 a e a (by simp) rfl
    unfold Tr.remove
    by_cases hao : a = off
    · subst hao
      rw [if_pos rfl]
      obtain ⟨f1, q, e1, e2, e3⟩ := join_rep (mix := mix) hX h3 h4 tl tr (List.nodup_append.2 ⟨d1, d5, fun z hz z2 hz2 e => d3 z hz z2 (by simp [hz2]) e⟩)
      refine ⟨f1, q, by rw [decide_eq_true (by simp [Tr.list])]; exact .hit h2 e1, e2, e3.mono (fun z hz => ?_)⟩
      rcases List.mem_append.1 hz with e | e <;> simp [Tr.list, e]
    · rw [if_neg hao]
      have hside : ∀ b, ltF sz f off a = b → sideF sz f a (keyF sz f off) = if b then a + 8 else a + 16 := fun b hb => by unfold sideF; unfold ltF at hb; rw [hb]
      cases hlt : ltF sz f off a with
      | true =>
        have hs := hside _ hlt
        rw [if_pos rfl] at hs ⊢
        obtain ⟨f1, q, e1, e2, e3⟩ := remove_rep hX h3 tl s1
        have hmem : decide (off ∈ l.list) = decide (off ∈ (Tr.node l a r).list) := by
          have hr : off ∉ r.list := fun e => by have := hord.trans _ _ _ hlt (s4 off e); rw [hord.irr] at this; cases this
          simp only [Tr.list, List.mem_append, List.mem_cons]
          congr 1
          exact propext ⟨fun e => .inl e, fun e => by rcases e with e | e | e; exact e; exact absurd e.symm hao; exact absurd e hr⟩
        rw [hmem] at e1
        have er : r.Rep f1 (f1 (a + 16)) := by
          rw [hX.left16 e3 tl hx nl]
          exact hX.frame h4 e3 tl tr (fun z hz hz2 => d3 z hz2 z (by simp [hz]) rfl)
        refine ⟨stF n f1 (sideF sz f a (keyF sz f off)) q, a, .down h2 hao (by rw [hs]; exact e1), ?_, ?_⟩
        · rw [hs]
          have hm : ∀ y ∈ (Tr.remove mix (ltF sz f) off l).list, y ∈ l.list := fun y hy => ((Tr.mem_remove hord s1).1 hy).1
          exact hX.node8 hx e2 er (fun y hy => tl y (hm y hy)) tr (fun e => nl (hm a e)) d4
        · rw [hs]
          exact (e3.mono (fun z hz => by simp [Tr.list, hz])).trans (hX.out8 hx (by simp [Tr.list]) f1 q)
      | false =>
        have hs := hside _ hlt
        rw [if_neg (by decide)] at hs ⊢
        obtain ⟨f1, q, e1, e2, e3⟩ := remove_rep hX h4 tr s5
        have hlt2 : ltF sz f a off = true := by
          cases e : ltF sz f a off with
          | true => rfl
          | false => exact absurd (hord.tot _ _ hlt e).symm hao
        have hmem : decide (off ∈ r.list) = decide (off ∈ (Tr.node l a r).list) := by
          have hr : off ∉ l.list := fun e => by have := hord.trans _ _ _ (s3 off e a (by simp)) hlt2; rw [hord.irr] at this; cases this
          simp only [Tr.list, List.mem_append, List.mem_cons]
          congr 1
          exact propext ⟨fun e => .inr (.inr e), fun e => by rcases e with e | e | e; exact absurd e hr; exact absurd e.symm hao; exact e⟩
        rw [hmem] at e1
        have el : l.Rep f1 (f1 (a + 8)) := by
          rw [hX.left8 e3 tr hx d4]
          exact hX.frame h3 e3 tr tl (fun z hz hz2 => d3 z hz z (by simp [hz2]) rfl)
        refine ⟨stF n f1 (sideF sz f a (keyF sz f off)) q, a, .down h2 hao (by rw [hs]; exact e1), ?_, ?_⟩
        · rw [hs]
          have hm : ∀ y ∈ (Tr.remove mix (ltF sz f) off r).list, y ∈ r.list := fun y hy => ((Tr.mem_remove hord s5).1 hy).1
          exact hX.node16 hx el e2 tl (fun y hy => tr y (hm y hy)) nl (fun e => d4 (hm a e))
        · rw [hs]
          exact (e3.mono (fun z hz => by simp [Tr.list, hz])).trans (hX.out16 hx (by simp [Tr.list]) f1 q)
end
end PT
end Go.Proofs.YtefpbljekfkefaaGreat
