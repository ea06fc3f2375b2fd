/- RangeO, DrawnA, DrawnB, DrawnC, DrawnD: merged. -/
import Derived.Test.YtefpbljekfkefaaGreatM21
import Derived.Calls
/- A range over an iterator that itself ranges over iterators; slices.Collect over such a one. -/
namespace Go.Proofs.YtefpbljekfkefaaGreat
open Go.RowKit Go.Shelf

attribute [local go_sem] Oper.semAt_some

/-! ### what a consumer of words owns: its box, and the row in it; all else stands -/
def OwnN (n0 : Nat) (W : World) (k : Nat) : Prop := k = n0 ∨ ∃ n c T f, W.heap[n0]? = some (.cells #[.slice (some ⟨k, 0, none⟩) n c] T f)
theorem OwnN.iff {n0 : Nat} {A B : World} (e : B.heap[n0]? = A.heap[n0]?) (k : Nat) : OwnN n0 B k ↔ OwnN n0 A k := by unfold OwnN; rw [e]
structure KeptAll (n0 : Nat) (A B : World) : Prop where
  size : A.heap.size ≤ B.heap.size
  kept : ∀ k o, A.heap[k]? = some o → ¬ OwnN n0 A k → B.heap[k]? = some o
  old : ∀ k, OwnN n0 B k → k < A.heap.size → OwnN n0 A k
  lt : (∀ k, OwnN n0 A k → k < A.heap.size) → ∀ k, OwnN n0 B k → k < B.heap.size
section
variable {n0 : Nat} {A B C : World}
theorem KeptAll.refl (n0 : Nat) (A : World) : KeptAll n0 A A := ⟨Nat.le_refl _, fun _ _ h _ => h, fun _ h _ => h, fun h => h⟩
theorem KeptAll.trans (h : KeptAll n0 A B) (k : KeptAll n0 B C) : KeptAll n0 A C :=
  ⟨Nat.le_trans h.size k.size, fun i o hi hn => k.kept i o (h.kept i o hi hn) (fun e => hn (h.old i e (getElem?_lt hi))),
    fun i e hi => h.old i (k.old i e (Nat.lt_of_lt_of_le hi h.size)) hi, fun hA => k.lt (h.lt hA)⟩
theorem KeptAll.grown {row : Option Nat} (h : KeptAll n0 A B) (hn : n0 < A.heap.size) (hg : B.grownBy C row) (hr : ∀ r, row = some r → A.heap.size ≤ r) : KeptAll n0 A C := by
  have e : C.heap[n0]? = B.heap[n0]? := hg.block n0 (Nat.lt_of_lt_of_le hn h.size) (fun e => by have := hr n0 e.symm; omega)
  refine ⟨Nat.le_trans h.size hg.size, fun k o hk hno => ?_, fun k hk hl => h.old k ((OwnN.iff e k).1 hk) hl, fun hA k hk => Nat.lt_of_lt_of_le (h.lt hA k ((OwnN.iff e k).1 hk)) hg.size⟩
  have hb := h.kept k o hk hno
  rw [hg.block k (getElem?_lt hb) (fun e => by have := hr k e.symm; have := getElem?_lt hk; omega)]
  exact hb
theorem KeptAll.nil (h : Keeps Nil A B) (hn : n0 < A.heap.size) : KeptAll n0 A B := by
  have e : B.heap[n0]? = A.heap[n0]? := h.block n0 hn (fun e => e)
  exact ⟨h.size, fun k o hk _ => h.at hk (fun e => e), fun k hk _ => (OwnN.iff e k).1 hk, fun hA k hk => Nat.lt_of_lt_of_le (hA k ((OwnN.iff e k).1 hk)) h.size⟩
theorem KeptAll.on (h : KeptAll n0 A B) {R : Nat → Prop} (hR : ∀ k, R k → k < A.heap.size ∧ ¬ OwnN n0 A k) : KeptOn R A B := fun k hk => by
  obtain ⟨h1, h2⟩ := hR k hk
  rw [Array.getElem?_eq_getElem h1]
  exact h.kept k _ (Array.getElem?_eq_getElem h1) h2
/-- a loop's record that is busy for a while -/
theorem KeptAll.busy {l : Nat} {r r' : Obj} (hl : A.heap[l]? = some r) (hne : n0 ≠ l) (h : KeptAll n0 (A.putObj l r') B) : KeptAll n0 A (B.putObj l r) := by
  have hlt := getElem?_lt hl
  have e1 : (A.putObj l r').heap[n0]? = A.heap[n0]? := World.putObj_heap_other hne
  have e2 : (B.putObj l r).heap[n0]? = B.heap[n0]? := World.putObj_heap_other hne
  have hsz : A.heap.size ≤ B.heap.size := by have := h.size; rwa [World.putObj_size] at this
  refine ⟨by rw [World.putObj_size]; exact hsz, fun k o hk hno => ?_, fun k hk hl => (OwnN.iff e1 k).1 (h.old k ((OwnN.iff e2 k).1 hk) (by rw [World.putObj_size]; exact hl)), fun hA k hk => ?_⟩
  · by_cases ek : k = l
    · subst ek
      rw [hl] at hk; cases hk
      exact World.putObj_heap_same (Nat.lt_of_lt_of_le hlt hsz)
    · rw [World.putObj_heap_other ek]
      exact h.kept k o ((World.putObj_heap_other ek).trans hk) (fun e => hno ((OwnN.iff e1 k).1 e))
  · rw [World.putObj_size]
    exact h.lt (fun k hk => by rw [World.putObj_size]; exact hA k ((OwnN.iff e1 k).1 hk)) k ((OwnN.iff e2 k).1 hk)
end

/-! ### the contract of such an iterator, and the range over it -/
def SeqAll (P : Program) (n0 gf : Nat) (lb : Array Value) (xs : List UInt64) (w : World) : Prop :=
  ∀ (l : Nat) (J : List UInt64 → World → Prop) (W : World), Keeps Nil w W → OwnFrom W.heap.size J →
    (∀ pre x W1, J pre W1 → pre.length < xs.length → YieldAt Fence.wide 0 P l (encU1 x) W1 fun e W' => e = .returned (.bool true) ∧ J (pre ++ [x]) W' ∧ KeptAll n0 W1 W') →
    J [] W → Calls P gf (#[.func (.yield l) #[] #[]] ++ lb) W fun e W' => (∃ v, e = .returned v) ∧ J xs W'
theorem RoundIn.wide {n m : Nat} {P : Program} {l f : Nat} {tmps : Array Value} {assign body : Code} {w : World} {R : Ending → World → Prop} (h : RoundIn Fence.wide n P l f tmps assign body w R) : RoundIn Fence.wide m P l f tmps assign body w R :=
  ⟨h.1, fun c cs _ => h.2 c cs (room_wide _)⟩
theorem RoundIn.inside {n m : Nat} {P : Program} {l l' f : Nat} {tmps : Array Value} {assign body : Code} {w : World} {R : Ending → World → Prop} (h : RoundIn Fence.wide n P l f tmps assign body w R) : RoundIn (Fence.wide.inRound l') m P l f tmps assign body w R :=
  RoundIn.wide h

/-- such a loop's record -/
def recO (fn : FuncId) (tmps : Array Value) (ps : Array Tmp) (assign body : Code) (D : Nat) (st : LoopState) : Loop := { state := st, pending := none, fn := fn, tmps := tmps, params := ps, assign := assign, body := body, defers := D }

set_option maxHeartbeats 1000000 in
theorem wpIn_rangeAll {P : Program} {g : Operand} {ps : Array Tmp} {assign body : Code} {Q : Exit → Act → World → Prop} {a : Act} {w : World} {n0 gf : Nat} {lb : Array Value} {xs : List UInt64}
    (hg : a.eval g = .func (.func gf) #[] lb) (eg : ∀ args w, (callFunc gf args).run P w = .ok (.enter gf args) w) (hseq : SeqAll P n0 gf lb xs w) (hn0 : n0 < w.heap.size) (hown : ∀ k, OwnN n0 w k → k < w.heap.size) (hps : ps.size = 1)
    (I : List UInt64 → World → Prop) (hI : OwnFrom w.heap.size I) (h0 : I [] w) (a₁ : UInt64 → Act)
    (hassign : ∀ (l : Nat) (x : UInt64) (W : World) (K : Act → World → Prop), K (a₁ x) W →
      assign.wpIn (Fence.wide.inRound l) 0 P (Exit.then K (fun _ _ _ => False)) { tmps := (ps.zip (encU1 x)).foldl (fun t (p, v) => t.setIfInBounds p v) a.tmps, defers := [] } W)
    (hbody : ∀ (l : Nat) (pre : List UInt64) (x : UInt64) (W : World), I pre W → pre.length < xs.length → w.heap.size ≤ W.heap.size → (∀ k, OwnN n0 W k → k < W.heap.size) →
      body.wpIn (Fence.wide.inRound l) 0 P (fun e _ W' => e = .normal ∧ KeptAll n0 W W' ∧ I (pre ++ [x]) W') (a₁ x) W)
    (hdone : ∀ (D : Nat) (W : World), w.heap.size ≤ D → I xs W → W.heap[D]? = some (.deferred (some [])) → ¬ OwnN n0 W D → Q .normal { a with defers := { target := .collected D, args := #[] } :: a.defers } W) :
    (Code.rangeFunc g ps assign body).wpIn Fence.wide 0 P Q a w := by
  refine wpIn_rangeFunc fun fn _ => ?_
  obtain ⟨rec0, hrec⟩ : ∃ r : LoopState → Loop, r = recO fn a.tmps ps assign body w.heap.size := ⟨_, rfl⟩
  obtain ⟨W1, hW1⟩ : ∃ W, W = (w.alloc (.deferred (some []))).alloc (.loop (rec0 .ready)) := ⟨_, rfl⟩
  have kD : W1.heap[w.heap.size]? = some (.deferred (some [])) := by rw [hW1]; exact heap_old _ _ (heap_new w _)
  have kL : W1.heap[w.heap.size + 1]? = some (.loop (rec0 .ready)) := by
    have := heap_new (w.alloc (.deferred (some []))) (.loop (rec0 .ready))
    rw [hW1]
    rwa [World.size_alloc] at this
  have k1 : Keeps Nil w W1 := by rw [hW1]; exact ((Keeps.refl Nil w).alloc _).alloc _
  have hsz1 : W1.heap.size = w.heap.size + 2 := by rw [hW1]; simp
  have e0 : W1.heap[n0]? = w.heap[n0]? := k1.block n0 hn0 (fun e => e)
  have hold : ∀ k, OwnN n0 W1 k → k < w.heap.size := fun k hk => hown k ((OwnN.iff e0 k).1 hk)
  have hJI : OwnFrom W1.heap.size (fun pre W => I pre W ∧ KeptAll n0 W1 W) := fun pre A B row hs hgr hr =>
    ⟨hI pre A B row hs.1 hgr (fun r e => ⟨by have := (hr r e).1; omega, (hr r e).2⟩), hs.2.grown (by omega) hgr (fun r e => (hr r e).1)⟩
  have hI1 : I [] W1 := by rw [hW1]; exact hI.alloc _ (hI.alloc _ h0)
  have hcalls : Calls P gf (#[.func (.yield (w.heap.size + 1)) #[] #[]] ++ lb) W1 fun e W' => (∃ v, e = .returned v) ∧ I xs W' ∧ KeptAll n0 W1 W' := by
    refine hseq (w.heap.size + 1) (fun pre W => I pre W ∧ KeptAll n0 W1 W) W1 k1 hJI ?_ ⟨hI1, KeptAll.refl _ _⟩
    rintro pre x W ⟨hi, hka⟩ hlen
    have hL := hka.kept _ _ kL (fun e => by have := hold _ e; omega)
    have hLt := getElem?_lt hL
    have hy := run_yield (P := P) (args := encU1 x) hL (by rw [hrec]; exact hps.symm)
    rw [hrec] at hy
    have hbr := run_beginRound (P := P) hL (by rw [hrec]; rfl)
    have hbe : ({ rec0 .ready with state := .busy } : Loop) = rec0 .busy := by rw [hrec]; rfl
    rw [hbe] at hbr
    refine ⟨fn, _, assign, body, hy, roundIn_of_wpIn trivial (hassign (w.heap.size + 1) x W _ ⟨_, hbr, ?_⟩)⟩
    clear hy hbr hbe
    have hb := hI.putObj (.loop (rec0 .busy)) hi (by omega) hL rfl
    have hsz : W.heap.size = (W.putObj (w.heap.size + 1) (.loop (rec0 .busy))).heap.size := World.putObj_size.symm
    have hsz0 := hka.size
    have hne : n0 ≠ w.heap.size + 1 := by omega
    have e2 : (W.putObj (w.heap.size + 1) (.loop (rec0 .busy))).heap[n0]? = W.heap[n0]? := World.putObj_heap_other hne
    have hownW : ∀ k, OwnN n0 W k → k < W.heap.size := hka.lt (fun k hk => by have := hold k hk; omega)
    refine wpIn_mono (hbody _ pre x _ hb hlen (by omega) (fun k hk => by rw [← hsz]; exact hownW k ((OwnN.iff e2 k).1 hk))) ?_
    rintro e a3 W3 ⟨rfl, hk3, hi3⟩
    have hbu : (W.putObj (w.heap.size + 1) (.loop (rec0 .busy))).heap[w.heap.size + 1]? = some (.loop (rec0 .busy)) := World.putObj_heap_same hLt
    have hnL : ¬ OwnN n0 W (w.heap.size + 1) := fun e => by have := hold _ (hka.old _ e (by omega)); omega
    have hL3 := hk3.kept _ _ hbu (fun e => hnL ((OwnN.iff e2 _).1 e))
    have hgo : KeptAll n0 W (W3.putObj (w.heap.size + 1) (.loop (rec0 .ready))) := KeptAll.busy hL hne hk3
    have her := run_endRound (P := P) none hL3
    have hee : ({ rec0 .busy with state := if (none : Option Code).isNone then .ready else .done, pending := none } : Loop) = rec0 .ready := by rw [hrec]; rfl
    rw [hee] at her
    exact ⟨_, _, her, rfl, ⟨hI.putObj _ hi3 (by omega) hL3 rfl, hka.trans hgo⟩, hgo⟩
  have hen := run_enterLoop_outer (P := P) (w := w) fn a.tmps ps assign body
  have hcr : (recO fn a.tmps ps assign body w.heap.size .ready) = rec0 .ready := by rw [hrec]
  unfold recO at hcr
  rw [hcr, ← hW1] at hen
  have hre : (resolve a.eval (rangeCall g (w.heap.size + 1)) 0).run P W1 = .ok { target := .fn (.func gf) lb, args := #[.func (.yield (w.heap.size + 1)) #[] #[]] } W1 := by simp only [resolve, hg]; simp [go_sem]
  have hin : (invoke (.fn (.func gf) lb) #[.func (.yield (w.heap.size + 1)) #[] #[]]).run P W1 = .ok (.enter gf (#[.func (.yield (w.heap.size + 1)) #[] #[]] ++ lb)) W1 := by simp [invoke, go_sem, eg]
  refine ⟨_, _, _, _, _, _, _, _, hen, hre, fun _ _ => trivial, hin, fun h => by simp [Fence.wide] at h, callsIn_wide.2 (hcalls.mono ?_)⟩
  rintro e W2 ⟨⟨v, rfl⟩, hi, hka⟩
  have hL := hka.kept _ _ kL (fun e => by have := hold _ e; omega)
  have hD := hka.kept _ _ kD (fun e => by have := hold _ e; omega)
  have hel := run_endLoop (P := P) hL (by rw [hrec]; simp [recO])
  rw [show (rec0 .ready).pending = none by rw [hrec]; rfl] at hel
  exact ⟨none, _, hel, hdone _ _ (Nat.le_refl _) (hI.putObj _ hi (by omega) hL rfl) ((World.putObj_heap_other (by omega)).trans hD)
    (fun e => by have := hold _ (hka.old _ ((OwnN.iff (World.putObj_heap_other (by omega)) _).1 e) (by omega)); omega)⟩

/-- what a round that collects leaves -/
theorem all_close {K : Kind UInt64} {w W w3 : World} {n0 base g m cap : Nat} {T : TypeId} {v : Value} {pre : List UInt64} {x : UInt64} (h3 : Keeps Nil w W) (h1 : W.heap[n0]? = some (.cells #[v] T (0, 0))) (h2 : Own K W base v pre)
    (hown3 : Own K w3 base (.slice (some ⟨g, 0, none⟩) m cap) (pre ++ [x])) (hK : Keeps (fun k => v.ownBlock = some k) W w3) (h5 : w3.heap[n0]? = some (.cells #[v] T (0, 0))) (hg : v.ownBlock = some g ∨ W.heap.size ≤ g)
    (hn : w.heap.size ≤ n0 ∧ n0 < base) (hbase : base ≤ W.heap.size) :
    KeptAll n0 W (w3.setCell ⟨n0, 0, none⟩ (.slice (some ⟨g, 0, none⟩) m cap)) ∧
      (∃ v', (w3.setCell ⟨n0, 0, none⟩ (.slice (some ⟨g, 0, none⟩) m cap)).heap[n0]? = some (.cells #[v'] T (0, 0)) ∧ Own K (w3.setCell ⟨n0, 0, none⟩ (.slice (some ⟨g, 0, none⟩) m cap)) base v' (pre ++ [x])) ∧ Keeps Nil w (w3.setCell ⟨n0, 0, none⟩ (.slice (some ⟨g, 0, none⟩) m cap)) ∧ base ≤ (w3.setCell ⟨n0, 0, none⟩ (.slice (some ⟨g, 0, none⟩) m cap)).heap.size := by
  have hset := keeps_setCell w3 ⟨n0, 0, none⟩ (.slice (some ⟨g, 0, none⟩) m cap)
  have hall : Keeps (fun k => v.ownBlock = some k ∨ k = n0) W (w3.setCell ⟨n0, 0, none⟩ (.slice (some ⟨g, 0, none⟩) m cap)) :=
    (hK.mono (fun _ _ e => .inl e)).trans hset (fun _ _ e => .inr e)
  have hB' : (w3.setCell ⟨n0, 0, none⟩ (.slice (some ⟨g, 0, none⟩) m cap)).heap[n0]? = some (.cells #[.slice (some ⟨g, 0, none⟩) m cap] T (0, 0)) := by simpa using heap_setCell_same h5 0 (.slice (some ⟨g, 0, none⟩) m cap)
  have hgB : base ≤ g ∧ g < w3.heap.size := hown3.block (k := g) rfl
  have hOw : ∀ k, v.ownBlock = some k → OwnN n0 W k := fun k e => by
    rcases h2.2 with ⟨rfl, _⟩ | ⟨g', cap', cur, rfl, _⟩
    · cases e
    · simp only [Value.ownBlock, Option.some.injEq] at e; subst e
      exact .inr ⟨_, _, _, _, h1⟩
  refine ⟨⟨hall.size, fun k o hk hno => hall.at hk (fun e => hno (e.elim (hOw k) (fun e => .inl e))), fun k hk hlt => ?_, fun hA k hk => ?_⟩, ⟨_, hB', hown3.keeps' hset (fun g' hg' e => ?_)⟩, h3.trans hall (fun i hi e => ?_), Nat.le_trans hbase hall.size⟩
  · rcases hk with hk | ⟨m', c', T', f', hk⟩
    · exact .inl hk
    · rw [hB'] at hk
      simp only [Option.some.injEq, Obj.cells.injEq, Array.mk.injEq, List.cons.injEq, Value.slice.injEq, Addr.mk.injEq] at hk
      obtain ⟨⟨⟨⟨e, _⟩, _⟩, _⟩, _⟩ := hk
      rw [← e]
      rcases hg with hg | hg
      · exact hOw _ hg
      · omega
  · rcases hk with hk | ⟨m', c', T', f', hk⟩
    · rw [hk]; exact Nat.lt_of_lt_of_le (getElem?_lt h1) hall.size
    · rw [hB'] at hk
      simp only [Option.some.injEq, Obj.cells.injEq, Array.mk.injEq, List.cons.injEq, Value.slice.injEq, Addr.mk.injEq] at hk
      obtain ⟨⟨⟨⟨e, _⟩, _⟩, _⟩, _⟩ := hk
      rw [← e]
      exact Nat.lt_of_lt_of_le hgB.2 hset.size
  · have := (hown3.block hg').1
    have e' : g' = n0 := e
    omega
  · rcases e with e | e
    · have := (h2.block e).1; omega
    · omega

set_option maxRecDepth 100000 in
set_option maxHeartbeats 2000000 in
theorem AppendAll_any {w : World} {gf : Nat} {lb : Array Value} {xs : List UInt64}
    (eg : ∀ args w, (callFunc gf args).run Tryz.prog w = .ok (.enter gf args) w) (hNl : xs.length < 4294967296)
    (hseq : ∀ w' n0, Keeps Nil w w' → w.heap.size ≤ n0 → n0 < w'.heap.size → (∀ k, OwnN n0 w' k → w.heap.size ≤ k ∧ k < w'.heap.size) → SeqAll Tryz.prog n0 gf lb xs w') :
    Calls Tryz.prog 162 #[.slice none 0 0, .func (.func gf) #[] lb] w fun e w' => ∃ v, e = .returned v ∧ Own kU w' w.heap.size v xs ∧ Keeps Nil w w' := by
  refine (callsIn_wide (n := 0)).1 ?_
  refine callsIn_of_wp_marks Tryz.func162 rfl trivial ?_ rfl
  simp only [Tryz.ntmps162, List.size_toArray, List.length_cons, List.length_nil, Nat.reduceAdd, Nat.reduceSub, Array.replicate_succ, Array.replicate_zero, List.push_toArray, List.append_toArray, List.nil_append, List.cons_append]
  have HSQ := Lib.hid hseq
  clear hseq
  gi_wp2
  obtain ⟨w0, hw0⟩ : ∃ w0, w0 = w.alloc (.cells #[.slice none 0 0] 27) := ⟨_, rfl⟩
  have hk0 : Keeps Nil w w0 := by rw [hw0]; exact (Keeps.refl Nil w).alloc _
  have hbx : w0.heap[w.heap.size]? = some (.cells #[.slice none 0 0] 27 (0, 0)) := by rw [hw0]; exact heap_new w _
  have hsz : w0.heap.size = w.heap.size + 1 := by rw [hw0]; simp
  have hown0 : ∀ k, OwnN w.heap.size w0 k → w.heap.size ≤ k ∧ k < w0.heap.size := fun k hk => by
    rcases hk with rfl | ⟨n, c, T, f, hk⟩
    · omega
    · rw [hbx] at hk; cases hk
  rw [← hw0]
  have HSZ := Lib.hid hsz
  clear hw0
  refine wpIn_rangeAll (gf := gf) (lb := lb) rfl eg (HSQ.out w0 w.heap.size hk0 (Nat.le_refl _) (by omega) hown0) (by omega) (fun k hk => (hown0 k hk).2) rfl
    (fun pre W => (∃ v, W.heap[w.heap.size]? = some (.cells #[v] 27 (0, 0)) ∧ Own kU W w0.heap.size v pre) ∧ Keeps Nil w W ∧ w0.heap.size ≤ W.heap.size)
    (fun s W W' row hs hg hr => by
      obtain ⟨⟨v, h1, h2⟩, h3⟩ := hs
      exact ⟨⟨v, cells_grown h1 hg (fun r e => (hr r e).2), h2.grown hg (fun r e => (hr r e).2)⟩, h3.1.record hg (fun r e => (hr r e).1) (by omega), Nat.le_trans h3.2 hg.size⟩)
    ⟨⟨_, hbx, Own.nil _ _ _⟩, hk0, Nat.le_refl _⟩
    (fun x => { tmps := #[.slice none 0 0, .func (.func gf) #[] lb, .pointer (some ⟨w.heap.size, 0, none⟩), undef, .slice none 0 0, .int .u64 ↑x.toNat, .func (.func gf) #[] lb, .int .u64 ↑x.toNat, undef, undef, undef, undef, undef], defers := [] }) ?assign ?body ?done
  case assign =>
    intro L x W K hK
    gi_wp2
    exact hK
  case body =>
    clear hsz
    rintro L pre x W ⟨⟨v, h1, h2⟩, h3⟩ hpl _ _
    have hc := cell_of_one h1
    have hf := free_of_one h1
    have hbase := h3.2
    have hplen : pre.length < 4294967296 := by omega
    have hwx := getElem?_lt h1
    have H1 := Lib.hid h1
    have H3 := Lib.hid h3
    clear h1 h3
    rcases store_wfU v pre h2 with rfl | ⟨g0, cap0, rfl⟩
    all_goals
      gi_wp2_with (gi_at_builtin; refine wpListIn_append_one kU rfl _ _ rfl h2 rfl x _ rfl rfl hplen hbase ?_; rintro _ w3 hown3 hK3 ⟨g, cap, rfl, hg⟩; obtain ⟨d1, d2, D⟩ := puts_facts H1.out hown3 h2 hK3)
      obtain ⟨d3, _⟩ := D.out
      have hcl := all_close (H3.out.1) H1.out h2 hown3 hK3 d3 hg ⟨Nat.le_refl _, by rw [HSZ.out]; exact Nat.lt_succ_self _⟩ hbase
      obtain ⟨q1, q2, q3, q4⟩ := hcl
      exact ⟨q1, q2, q3, by simpa using q4⟩
  case done =>
    rintro D W hD ⟨⟨v, h1, h2⟩, h3⟩ hK _
    have hc := cell_of_one h1
    rcases store_wfU v _ h2 with rfl | ⟨g0, cap0, rfl⟩
    all_goals
      gi_wp2
      refine ⟨by simp, .inl ⟨_, _, rfl, run_takeDeferred hK, ?_⟩⟩
      exact ⟨_, results_tmp rfl _ _ _, _, rfl, (h2.grown (grown_put _ _ _) (fun r e => by cases e; exact ⟨_, hK, rfl⟩)).base (by omega), h3.1.record (grown_put _ _ _) (fun r e => by cases e; exact hD) (by omega)⟩
set_option maxRecDepth 100000 in
set_option maxHeartbeats 2000000 in
theorem CollectAll_any {w : World} {gf : Nat} {lb : Array Value} {xs : List UInt64}
    (eg : ∀ args w, (callFunc gf args).run Tryz.prog w = .ok (.enter gf args) w) (hNl : xs.length < 4294967296)
    (hseq : ∀ w' n0, Keeps Nil w w' → w.heap.size ≤ n0 → n0 < w'.heap.size → (∀ k, OwnN n0 w' k → w.heap.size ≤ k ∧ k < w'.heap.size) → SeqAll Tryz.prog n0 gf lb xs w') :
    Calls Tryz.prog 107 #[.func (.func gf) #[] lb] w fun e w' => ∃ v, e = .returned v ∧ Own kU w' w.heap.size v xs ∧ Keeps Nil w w' := by
  have hc := Lib.hid (AppendAll_any eg hNl hseq)
  clear hseq eg hNl
  go_enter Tryz.func107, Tryz.ntmps107
  go_wp2_with fail
  refine hc.out.mono ?_
  rintro _ W1 ⟨v, rfl, ho, kn⟩
  have HO := Lib.hid (And.intro ho kn)
  clear ho kn
  go_wp2_with fail
  go_ret
  exact ⟨_, rfl, HO.out.1, HO.out.2⟩
end Go.Proofs.YtefpbljekfkefaaGreat

/- What a machine has drawn off its tape never becomes less: operations. -/
namespace Go.Proofs.YtefpbljekfkefaaGreat
open Go

theorem ask_drawn {α : Type} (a : Ask α) : ∀ w : World, w.drawn ≤ (w.ask a).2.drawn := by
  induction a with
  | done a => intro w; exact Nat.le_refl _
  | ask what range k ih =>
    intro w
    simp only [World.ask]
    split
    · exact ih _ _
    · exact Nat.le_trans (Nat.le_succ _) (ih _ { w with drawn := w.drawn + 1 })
theorem sys_drawn (w : World) (c : Sys) : w.drawn ≤ (w.sys c).2.drawn := by
  have h := ask_drawn (Kernel.perform c w.os) w
  unfold World.sys
  split
  · exact Nat.le_refl _
  · next r os w' e => rw [e] at h; exact h
def resW {α : Type} : Result α → World
  | .ok _ w => w
  | .halt _ w => w
theorem viewStore_drawn {p : Program} {w w' : World} {at_ : Addr} {u : TypeId} {k : Addr} {v : Value} {b : Bool} {l : List Addr} (h : w.viewStore p at_ u k v b = .ok (w', l)) : w'.drawn = w.drawn := by
  unfold World.viewStore at h
  simp only [bind, Except.bind, pure, Except.pure] at h
  repeat (first | (cases h; rfl) | (split at h) | (cases h))
theorem farStore_drawn {p : Program} {w w' : World} {a : Addr} {v : Value} {b : Bool} {l : List Addr} (h : w.farStore p a v b = .ok (w', l)) : w'.drawn = w.drawn := by
  unfold World.farStore at h
  split at h
  · split at h
    · next r e => cases h; exact viewStore_drawn e
    · cases h
  · cases h
theorem freeze_drawn (w : World) (a : Addr) (n : Nat) : (w.freeze a n).drawn = w.drawn := by unfold World.freeze; split <;> rfl
theorem run_drawn {α : Type} (p : Program) (s : Sem α) : ∀ w : World, w.drawn ≤ (resW (s.run p w)).drawn := by
  induction s with
  | pure a => intro w; exact Nat.le_refl _
  | load m a k ih =>
    intro w
    simp only [Sem.run]
    split
    · exact ih _ w
    · split
      · exact ih _ w
      · exact Nat.le_refl _
  | store m a v k ih =>
    intro w
    cases v
    all_goals
      simp only [Sem.run]
      try exact Nat.le_refl _
    all_goals
      split
      · split
        · exact Nat.le_refl _
        · exact ih (w.setCell a _)
      · split
        · next e => rw [← farStore_drawn e]; exact ih _
        · exact Nat.le_refl _
  | new o k ih => intro w; simp only [Sem.run]; exact ih _ { w with heap := w.heap.push o }
  | shape r k ih => intro w; simp only [Sem.run]; exact ih _ w
  | freeze a n k ih => intro w; simp only [Sem.run]; rw [← freeze_drawn w a n]; exact ih _
  | frozen a k ih => intro w; simp only [Sem.run]; exact ih _ w
  | getObj r k ih =>
    intro w
    simp only [Sem.run]
    split
    · exact Nat.le_refl _
    · exact ih _ w
    · exact Nat.le_refl _
  | setObj r o k ih =>
    intro w
    simp only [Sem.run]
    split
    · exact Nat.le_refl _
    · exact ih { w with heap := w.heap.setIfInBounds r o }
    · exact Nat.le_refl _
  | choose q k ih =>
    intro w
    simp only [Sem.run]
    split
    · exact ih _ w
    · exact Nat.le_trans (Nat.le_succ _) (ih _ { w with drawn := w.drawn + 1 })
  | sys c k ih => intro w; simp only [Sem.run]; exact Nat.le_trans (sys_drawn w c) (ih _ _)
  | program k ih => intro w; simp only [Sem.run]; exact ih _ w
  | mark m k ih => intro w; simp only [Sem.run]; exact ih w
  | halt h => intro w; exact Nat.le_refl _
theorem runT_drawn {α : Type} (p : Program) (s : Sem α) : ∀ (w : World) (es : Array Event), w.drawn ≤ (resW (s.runT p w es).1).drawn := by
  induction s with
  | pure a => intro w es; exact Nat.le_refl _
  | load m a k ih =>
    intro w es
    simp only [Sem.runT]
    split
    · exact ih _ w _
    · split
      · exact ih _ w _
      · exact Nat.le_refl _
  | store m a v k ih =>
    intro w es
    cases v
    all_goals
      simp only [Sem.runT]
      try exact Nat.le_refl _
    all_goals
      split
      · split
        · exact Nat.le_refl _
        · exact ih (w.setCell a _) _
      · split
        · next e => rw [← farStore_drawn e]; exact ih _ _
        · exact Nat.le_refl _
  | new o k ih => intro w es; simp only [Sem.runT]; exact ih _ { w with heap := w.heap.push o } _
  | shape r k ih => intro w es; simp only [Sem.runT]; exact ih _ w _
  | freeze a n k ih => intro w es; simp only [Sem.runT]; rw [← freeze_drawn w a n]; exact ih _ _
  | frozen a k ih => intro w es; simp only [Sem.runT]; exact ih _ w _
  | getObj r k ih =>
    intro w es
    simp only [Sem.runT]
    split
    · exact Nat.le_refl _
    · exact ih _ w _
    · exact Nat.le_refl _
  | setObj r o k ih =>
    intro w es
    simp only [Sem.runT]
    split
    · exact Nat.le_refl _
    · exact ih { w with heap := w.heap.setIfInBounds r o } _
    · exact Nat.le_refl _
  | choose q k ih =>
    intro w es
    simp only [Sem.runT]
    split
    · exact ih _ w _
    · exact Nat.le_trans (Nat.le_succ _) (ih _ { w with drawn := w.drawn + 1 } _)
  | sys c k ih => intro w es; simp only [Sem.runT]; exact Nat.le_trans (sys_drawn w c) (ih _ _ _)
  | program k ih => intro w es; simp only [Sem.runT]; exact ih _ w _
  | mark m k ih => intro w es; simp only [Sem.runT]; exact ih w _
  | halt h => intro w es; exact Nat.le_refl _
end Go.Proofs.YtefpbljekfkefaaGreat

/- What a machine has drawn off its tape never becomes less: a goroutine's step. -/
namespace Go.Proofs.YtefpbljekfkefaaGreat
open Go

def stepW : GStep → World
  | .go _ w _ => w
  | .comm _ _ _ _ w _ => w
  | .spawn _ _ w _ => w
  | .count _ w _ => w
  | .timer _ _ w _ => w
  | .alone _ _ w _ => w
  | .newcoro _ _ _ w _ => w
  | .coroswitch _ _ _ w _ => w
  | .collect _ w _ => w
  | .watch _ w _ => w
  | .ended _ w _ => w
theorem stepW_after (es : Array Event) (s : GStep) : stepW (GStep.after es s) = stepW s := by cases s <;> rfl
theorem dieOf_w (fr : Frame) (a : List ByteArray) (m : String) (b : Bool) (w : World) : stepW (dieOf fr a m b w) = w := rfl
theorem endThrow_w (fr : Frame) (m : String) (w : World) : stepW (endThrow fr m w) = w := rfl
theorem endPrinting_w (p : Program) (fr : Frame) (v : Value) (w : World) : stepW (endPrinting p fr v w) = w := by
  unfold endPrinting
  dsimp only
  split <;> rfl
theorem run_ok {α : Type} {p : Program} {s : Sem α} {w w' : World} {a : α} (h : s.run p w = .ok a w') : w.drawn ≤ w'.drawn := by have := run_drawn p s w; rw [h] at this; exact this
theorem run_halt {α : Type} {p : Program} {s : Sem α} {w w' : World} {a : Halt} (h : s.run p w = .halt a w') : w.drawn ≤ w'.drawn := by have := run_drawn p s w; rw [h] at this; exact this
theorem runT_ok {α : Type} {p : Program} {s : Sem α} {w w' : World} {a : α} {es es' : Array Event} (h : s.runT p w es = (.ok a w', es')) : w.drawn ≤ w'.drawn := by have := runT_drawn p s w es; rw [h] at this; exact this
theorem runT_halt {α : Type} {p : Program} {s : Sem α} {w w' : World} {a : Halt} {es es' : Array Event} (h : s.runT p w es = (.halt a w', es')) : w.drawn ≤ w'.drawn := by have := runT_drawn p s w es; rw [h] at this; exact this
theorem sys_at {w w' : World} {c : Sys} {r : SysRet} (h : w.sys c = (r, w')) : w.drawn ≤ w'.drawn := by have := sys_drawn w c; rw [h] at this; exact this
theorem ite_w {c : Prop} [Decidable c] {s t : GStep} {n : Nat} (hs : n ≤ (stepW s).drawn) (ht : n ≤ (stepW t).drawn) : n ≤ (stepW (if c then s else t)).drawn := by split <;> assumption
theorem after_w {es : Array Event} {s : GStep} {n : Nat} (h : n ≤ (stepW s).drawn) : n ≤ (stepW (GStep.after es s)).drawn := by rw [stepW_after]; exact h
theorem endWith_drawn (w : World) (fd : Nat) (t : ByteArray) (o : Outcome) : w.drawn ≤ (stepW (endWith w fd t o)).drawn := by
  unfold endWith
  dsimp only
  split
  · refine ite_w ?_ ?_ <;> exact sys_at (by assumption)
  · exact sys_at (by assumption)
  · exact sys_at (by assumption)
theorem endFatal_drawn (p : Program) (fr : Frame) (cs : List Frame) (d : Option Dying) (m : String) (w : World) : w.drawn ≤ (stepW (endFatal p fr cs d m w)).drawn := by
  unfold endFatal
  dsimp only
  split
  · exact run_ok (by assumption)
  · exact run_halt (by assumption)
  · exact run_halt (by assumption)
theorem doReturn_w (p : Program) (main : Bool) (fr : Frame) (cs : List Frame) (d : Option Dying) (v : Value) (w : World) : stepW (doReturn p main fr cs d v w) = w := by
  unfold doReturn
  repeat' split
  all_goals rfl
theorem callDeferred_drawn (p : Program) (fr : Frame) (cs : List Frame) (dy : Option Dying) (d : Deferred) (w : World) : w.drawn ≤ (stepW (callDeferred p fr cs dy d w)).drawn := by
  unfold callDeferred
  refine ite_w (Nat.le_refl _) ?_
  have h := runT_drawn p (invoke d.target d.args) w #[]
  generalize (invoke d.target d.args).runT p w #[] = x at h ⊢
  rcases x with ⟨r, es⟩
  dsimp only at h ⊢
  refine after_w ?_
  split
  all_goals first | exact h | (split <;> exact h) | exact Nat.le_trans h (endFatal_drawn _ _ _ _ _ _)
theorem unwind_drawn (p : Program) (main : Bool) (fr : Frame) (cs : List Frame) (dy : Option Dying) (w : World) : w.drawn ≤ (stepW (unwind p main fr cs dy w)).drawn := by
  unfold unwind
  split
  · next b _ ds _ =>
    have h := runT_drawn p (Instr.takeDeferred b) w #[]
    generalize (Instr.takeDeferred b).runT p w #[] = x at h ⊢
    rcases x with ⟨r, es⟩
    dsimp only at h ⊢
    refine after_w ?_
    split <;> exact h
  · exact callDeferred_drawn _ _ _ _ _ _
  · split
    · exact Nat.le_refl _
    · refine ite_w (Nat.le_refl _) ?_
      split
      · exact Nat.le_refl _
      · split
        · refine ite_w (Nat.le_refl _) ?_
          split
          · exact run_ok (by assumption)
          · exact run_halt (by assumption)
          · exact run_halt (by assumption)
        · split
          · rw [endPrinting_w]; exact Nat.le_refl _
          · exact Nat.le_refl _
    · split
      · rw [doReturn_w]; exact Nat.le_refl _
      · next fn _ =>
        have h := runT_drawn p (results fn fr.tmps) w #[]
        generalize (results fn fr.tmps).runT p w #[] = x at h ⊢
        rcases x with ⟨r, es⟩
        dsimp only at h ⊢
        refine after_w ?_
        split
        · rw [doReturn_w]; exact h
        · exact h
        · exact h
theorem early_drawn (p : Program) (fr : Frame) (cs : List Frame) (dy : Option Dying) (g : Nat) (w : World) : w.drawn ≤ (stepW (early p fr cs dy g w)).drawn := by
  unfold early
  dsimp only
  repeat' split
  all_goals first | exact Nat.le_refl _ | exact run_halt (by assumption) | exact run_ok (by assumption) | (rename_i e; have h9 := run_ok e; exact h9) | (rename_i e _; have h9 := run_ok e; exact h9) | (rename_i e _ _; have h9 := run_ok e; exact h9) | (rename_i e _ _ _; have h9 := run_ok e; exact h9) | (rename_i e _ _ _ _; have h9 := run_ok e; exact h9) | (rename_i e _ _ _ _ _; have h9 := run_ok e; exact h9)
theorem writeOn_drawn (p : Program) (fr : Frame) (d : Dying) (f : Fatal) (w : World) : w.drawn ≤ (stepW (writeOn p fr d f w)).drawn := by
  unfold writeOn
  dsimp only
  split
  · exact Nat.le_refl _
  · split
    all_goals first | exact runT_ok (by assumption) | exact runT_halt (by assumption)
theorem die_drawn (p : Program) (fr : Frame) (d : Dying) (w : World) : w.drawn ≤ (stepW (die p fr d w)).drawn := by
  unfold die
  dsimp only
  split
  · exact writeOn_drawn _ _ _ _ _
  · split
    · refine ite_w (Nat.le_refl _) (endWith_drawn _ _ _ _)
    · next v mark rest _ =>
      split
      · exact Nat.le_refl _
      · split
        · exact run_ok (by assumption)
        · exact run_halt (by assumption)
      · next t recv name _ =>
        have h := runT_drawn p (invoke (.fn (.method name) #[]) #[.iface t recv]) w #[]
        generalize (invoke (.fn (.method name) #[]) #[.iface t recv]).runT p w #[] = x at h ⊢
        rcases x with ⟨r, es⟩
        dsimp only at h ⊢
        refine after_w ?_
        split
        all_goals first | exact h | (rw [endPrinting_w]; exact h) | exact Nat.le_refl _
      · exact Nat.le_refl _
theorem apply_drawn (p : Program) (_main : Bool) (listen : Bool) (fr : Frame) (cs : List Frame) (dy : Option Dying) (s : Sem Next) (w : World) : w.drawn ≤ (stepW (stepG.apply p listen fr cs dy s w)).drawn := by
  unfold stepG.apply
  dsimp only
  have h : w.drawn ≤ (resW (if listen = true then s.runT p w #[] else (s.run p w, #[])).1).drawn := by
    split
    · exact runT_drawn p s w #[]
    · exact run_drawn p s w
  generalize (if listen = true then s.runT p w #[] else (s.run p w, #[])) = x at h ⊢
  rcases x with ⟨r, es⟩
  dsimp only at h ⊢
  refine after_w ?_
  split
  all_goals first | exact h | exact Nat.le_trans h (endFatal_drawn _ _ _ _ _ _) | exact Nat.le_trans h (early_drawn _ _ _ _ _ _) | (split <;> exact h) | (refine ite_w ?_ ?_ <;> exact h) | skip
end Go.Proofs.YtefpbljekfkefaaGreat

/- What a machine has drawn off its tape never becomes less: a machine's step. -/
namespace Go.Proofs.YtefpbljekfkefaaGreat
open Go

theorem runT1_ok {α : Type} {p : Program} {s : Sem α} {w w' : World} {a : α} {es : Array Event} (h : (s.runT p w es).1 = .ok a w') : w.drawn ≤ w'.drawn := by have := runT_drawn p s w es; rw [h] at this; exact this
theorem runT1_halt {α : Type} {p : Program} {s : Sem α} {w w' : World} {a : Halt} {es : Array Event} (h : (s.runT p w es).1 = .halt a w') : w.drawn ≤ w'.drawn := by have := runT_drawn p s w es; rw [h] at this; exact this
theorem elim_w {α : Type} {o : Option α} {s : GStep} {f : α → GStep} {n : Nat} (hs : n ≤ (stepW s).drawn) (hf : ∀ a, n ≤ (stepW (f a)).drawn) : n ≤ (stepW (o.elim s f)).drawn := by
  cases o
  · exact hs
  · exact hf _
theorem oper_drawn (p : Program) (listen : Bool) (fr : Frame) (cs : List Frame) (dy : Option Dying) (w : World) : w.drawn ≤ (stepW (stepG.oper p listen fr cs dy w)).drawn := by
  unfold stepG.oper
  split
  · exact Nat.le_refl _
  · split <;> exact apply_drawn _ true _ _ _ _ _ _
theorem exec_drawn (p : Program) (main : Bool) (listen : Bool) (fr : Frame) (cs : List Frame) (dy : Option Dying) (w : World) : w.drawn ≤ (stepW (stepG.exec p main listen fr cs dy w)).drawn := by
  unfold stepG.exec
  dsimp only
  split
  all_goals first | exact Nat.le_refl _ | exact apply_drawn _ true _ _ _ _ _ _ | exact oper_drawn _ _ _ _ _ _ | skip
  all_goals try refine elim_w ?_ (fun _ => ?_)
  all_goals first | exact Nat.le_refl _ | exact apply_drawn _ true _ _ _ _ _ _ | skip
  all_goals try refine ite_w ?_ ?_
  all_goals first | exact Nat.le_refl _ | exact apply_drawn _ true _ _ _ _ _ _ | exact oper_drawn _ _ _ _ _ _ | skip
  all_goals try refine after_w ?_
  all_goals try split
  all_goals first | exact Nat.le_refl _ | exact oper_drawn _ _ _ _ _ _ | exact run_ok (by assumption) | exact run_halt (by assumption) | exact runT1_ok (by assumption) | exact runT1_halt (by assumption) | exact Nat.le_trans (runT1_ok (by assumption)) (apply_drawn _ true _ _ _ _ _ _) | skip
  all_goals try refine ite_w ?_ ?_
  all_goals try exact Nat.le_refl _
  all_goals try refine after_w ?_
  all_goals try split
  all_goals first | exact Nat.le_refl _ | (rw [doReturn_w]; exact runT1_ok (by assumption)) | exact run_ok (by assumption) | exact run_halt (by assumption) | exact runT1_ok (by assumption) | exact runT1_halt (by assumption) | skip
theorem stepG_drawn (p : Program) (main : Bool) (g : Goroutine) (w : World) (listen : Bool) : w.drawn ≤ (stepW (stepG p main g w listen)).drawn := by
  unfold stepG
  dsimp only
  split
  · exact die_drawn _ _ _ _
  · exact exec_drawn _ _ _ _ _ _ _
  · exact unwind_drawn _ _ _ _ _ _
end Go.Proofs.YtefpbljekfkefaaGreat

/- What a machine has drawn off its tape never becomes less: a machine's move; calls. -/
namespace Go.Proofs.YtefpbljekfkefaaGreat
open Go

def stepdW : Stepped → World
  | .next m => m.world
  | .ended _ w => w
theorem waitingAt_drawn {rest : Rest} {cases : Array CommCase} {w w' : World} (h : waitingAt rest cases w = some w') : w'.drawn = w.drawn := by
  unfold waitingAt at h
  split at h
  · split at h
    · cases h; rfl
    · cases h
  · cases h; rfl
theorem communicate_drawn (p : Program) (rest : Rest) (gs : Array Goroutine) (i : Nat) (g : Goroutine) (cases : Array CommCase) (b : Bool) (shape : CommShape) (w : World) :
    w.drawn ≤ (stepdW (communicate p rest gs i g cases b shape w).1).drawn := by
  unfold communicate
  dsimp only
  split
  · exact Nat.le_refl _
  · split
    · split
      · split
        · next e => show _ ≤ World.drawn _; rw [← waitingAt_drawn e]; exact Nat.le_refl _
        · exact Nat.le_refl _
      · exact Nat.le_refl _
    · split
      · exact run_halt (by assumption)
      · next k c way w1 e =>
        have h1 := run_ok e
        clear e
        split
        · split
          · next e2 => exact Nat.le_trans h1 (run_halt e2)
          · exact h1
        · exact h1
        · exact h1
        · split
          · exact h1
          · split
            · next e2 => have h2 := run_ok e2; exact Nat.le_trans h1 h2
            · next e2 => exact Nat.le_trans h1 (run_halt e2)
        · exact h1
        · exact h1
        · exact h1
theorem look_drawn (p : Program) (gs : Array Goroutine) (rest : Rest) (w : World) : w.drawn ≤ (stepdW (look p gs rest w)).drawn := by
  unfold look
  dsimp only
  split
  · split
    · exact Nat.le_refl _
    · split
      · exact Nat.le_refl _
      · split
        · next e => have h := run_ok e; exact h
        · exact run_halt (by assumption)
        · exact run_halt (by assumption)
  · exact Nat.le_refl _
theorem serve_drawn (p : Program) (m : Machine) (k : Nat) : m.world.drawn ≤ (stepdW (serve p m k)).drawn := by
  unfold serve
  split
  · exact Nat.le_refl _
  · exact Nat.le_refl _
  · dsimp only
    split
    · exact Nat.le_refl _
    · exact Nat.le_refl _
theorem drain_w (w : World) (c : Nat) : (drain w c).2.drawn = w.drawn := by unfold drain; split <;> rfl
theorem retime_w (m : Machine) (k : Nat) (t : Timer) (a b : Nat) : (retime m k t a b).2.world.drawn = m.world.drawn := by
  unfold retime
  dsimp only
  split
  · exact drain_w _ _
  · rfl
theorem timerOp_drawn {m m' : Machine} {op : TimerOp} {v : Value} (h : timerOp m op = .ok (v, m')) : m.world.drawn ≤ m'.world.drawn := by
  unfold timerOp at h
  split at h
  · split at h
    · cases h; exact Nat.le_refl _
    · split at h
      · split at h
        · cases h
        · cases h; exact Nat.le_refl _
      · cases h
  · unfold timerOp.named at h
    split at h
    · simp only [Except.ok.injEq] at h
      have := congrArg (fun x => x.2.world.drawn) h
      simp only [retime_w] at this
      omega
    · cases h
  · split at h
    · next m1 e =>
      have h1 : m1.world.drawn = m.world.drawn := by
        unfold timerOp.opened at e
        split at e
        · split at e
          · cases e; rfl
          · cases e
        · cases e; rfl
      unfold timerOp.named at h
      split at h
      · simp only [Except.ok.injEq] at h
        have := congrArg (fun x => x.2.world.drawn) h
        simp only [retime_w] at this
        omega
      · cases h
    · cases h
  · cases h; exact Nat.le_refl _
theorem runTM_drawn (p : Program) (m : Machine) (i : Nat) (l : Bool) : m.world.drawn ≤ (stepdW (Go.runT p m i l).1).drawn := by
  unfold Go.runT
  dsimp only
  generalize m.gs.swapAt! i { (default : Goroutine) with status := .finished } = x
  rcases x with ⟨g, gs⟩
  dsimp only
  have h := stepG_drawn p (i == 0) g m.world l
  generalize stepG p (i == 0) g m.world l = s at h ⊢
  cases s
  all_goals dsimp only [stepW] at h ⊢
  · exact h
  · exact Nat.le_trans h (communicate_drawn _ _ _ _ _ _ _ _ _)
  · exact h
  · split <;> exact h
  · split
    · next e => exact Nat.le_trans h (timerOp_drawn e)
    · exact h
    · exact h
    · exact h
  · exact h
  · exact h
  · split <;> exact h
  · exact Nat.le_trans h (look_drawn _ _ _ _)
  · exact h
  · exact h
/-- where there is a next machine, it has drawn at least so much -/
def Up (n : Nat) : Stepped → Prop
  | .next m => n ≤ m.world.drawn
  | .ended _ _ => True
theorem Up.of {n : Nat} {s : Stepped} (h : n ≤ (stepdW s).drawn) : Up n s := by
  cases s
  · exact h
  · trivial
def UpM (n : Nat) : Move → Prop
  | .goroutine m _ => n ≤ m.world.drawn
  | .machine s _ => Up n s
theorem askOn_up (p : Program) (m : Machine) : UpM m.world.drawn (askOn p m) := by
  have pick : ∀ (n : Nat) (m : Machine) (rs : List Nat), n ≤ m.world.drawn → UpM n (match (choose (.sched rs.length)).run p m.world with
      | .halt _ w => .machine (.ended (.stuck "sched" "") w)
      | .ok k world =>
        if rs.length ≤ 1 then .goroutine { m with world } (rs.getD k 0) else
        match (choose (.extern "sched.slice" 65536)).run p world with
        | .halt _ w => .machine (.ended (.stuck "sched.slice" "") w)
        | .ok n world => .goroutine { m with world, rest := { m.rest with slice := if n = 0 then none else some (rs.getD k 0, n) } } (rs.getD k 0)) := fun n m rs hn => by
    split
    · trivial
    · next e =>
      have h := Nat.le_trans hn (run_ok e)
      split
      · exact h
      · split
        · trivial
        · next e2 => have h2 := run_ok e2; exact Nat.le_trans h h2
  unfold askOn
  dsimp only
  split
  · trivial
  · next k0 w0 e =>
    have h := run_ok e
    split
    · exact Up.of (Nat.le_trans h (serve_drawn p { m with world := w0 } _))
    · split
      · split
        · exact h
        · split
          · exact h
          · split <;> trivial
      · split
        · exact pick _ { m with world := w0 } _ h
        · split
          · trivial
          · next e2 => have h2 := run_ok e2; exact pick _ { m with world := _ } _ (Nat.le_trans h h2)
          · next e2 => have h2 := run_ok e2; exact Nat.le_trans h h2
          · next e2 => have h2 := run_ok e2; exact pick _ (Machine.advanceTo { m with world := _ } _) _ (Nat.le_trans h h2)
theorem ask_up (p : Program) (m : Machine) : UpM m.world.drawn (ask p m) := by
  unfold ask
  split
  · split
    · trivial
    · next w0 e =>
      have h := run_ok e
      have h2 := look_drawn p m.gs m.rest w0
      split
      · next m1 e2 =>
        rw [e2] at h2
        have h3 := askOn_up p m1
        have h4 : m.world.drawn ≤ m1.world.drawn := Nat.le_trans h h2
        revert h3
        generalize askOn p m1 = x
        intro h3
        cases x with
        | goroutine m2 i => exact Nat.le_trans h4 h3
        | machine s ops => cases s with
          | next m2 => exact Nat.le_trans h4 h3
          | ended o w => trivial
      · next e2 => exact Up.of (Nat.le_trans h h2)
    · next w0 _ e =>
      have h := run_ok e
      have h3 := askOn_up p { m with world := w0 }
      revert h3
      generalize askOn p { m with world := w0 } = x
      intro h3
      cases x with
      | goroutine m2 i => exact Nat.le_trans h h3
      | machine s ops => cases s with
        | next m2 => exact Nat.le_trans h h3
        | ended o w => trivial
  · exact askOn_up p m
theorem move_up (p : Program) (m : Machine) : UpM m.world.drawn (move p m) := by
  unfold move
  split
  · split
    · exact Nat.le_refl _
    · trivial
  · split
    · split
      · exact Nat.le_refl _
      · exact ask_up p { m with rest := { m.rest with slice := none } }
    · exact ask_up p m
theorem step_up {p : Program} {m m' : Machine} (h : step p m = .next m') : m.world.drawn ≤ m'.world.drawn := by
  have h1 := move_up p m
  unfold step stepT at h
  revert h h1
  generalize move p m = x
  intro h h1
  cases x with
  | goroutine m1 i =>
    have h2 := runTM_drawn p m1 i true
    dsimp only at h
    rw [h] at h2
    exact Nat.le_trans h1 h2
  | machine s ops =>
    dsimp only at h
    subst h
    exact h1
end Go.Proofs.YtefpbljekfkefaaGreat
