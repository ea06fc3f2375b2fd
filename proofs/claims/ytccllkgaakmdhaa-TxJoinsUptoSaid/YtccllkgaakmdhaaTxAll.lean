/- tx: the iterator over what is thought of; Puts, Apply. -/
import Derived.Test.YtccllkgaakmdhaaTxStore
import Derived.Maps.OwnIn
namespace Go.Proofs.Ytccllkgaakmdhaa
open Go.RowKit Go.Shelf

attribute [local go_sem] Oper.semAt_some

/-- what the iterator tells -/
def told (l : List Put) : List Put := l.map (fun x => (x.1, (loadP l x.1).getD 0))
theorem told_length (l : List Put) : (told l).length = l.length := by simp [told]
theorem told_get {l : List Put} {k : Nat} {x : Put} (h : l[k]? = some x) : (told l)[k]? = some (x.1, (loadP l x.1).getD 0) := by simp [told, h]
theorem take_succ' {α : Type} {l : List α} {k : Nat} {x : α} (h : l[k]? = some x) : l.take (k + 1) = l.take k ++ [x] := by
  rw [List.take_add_one, h]; rfl

/-- the blocks that the iterator reads -/
def allR (Bt t m : Nat) (tv : Value) : Nat → Prop := fun k => k = Bt ∨ txS t m tv k

theorem Own.on {α : Type} {K : Kind α} {R : Nat → Prop} {w w' : World} {base : Nat} {v : Value} {l : List α} (h : Own K w base v l) (k : KeptOn R w w') (hR : ∀ g, v.ownBlock = some g → R g) : Own K w' base v l := by
  obtain ⟨h1, h2⟩ := h
  refine ⟨h1, ?_⟩
  rcases h2 with h2 | ⟨g, cap, cur, rfl, hg, hh, r⟩
  · exact .inl h2
  · exact .inr ⟨g, cap, cur, rfl, hg, (k g (hR g rfl)).trans hh, r⟩
theorem TxAt.on {R : Nat → Prop} {w w' : World} {t m p : Nat} {tv : Value} {l : List Put} (h : TxAt w t m tv p l) (k : KeptOn R w w') (hR : ∀ g, txS t m tv g → R g) : TxAt w' t m tv p l := by
  obtain ⟨h1, h2, h3, h4⟩ := h
  exact ⟨(k t (hR t (.inl rfl))).trans h1, h2.on k (hR m (.inr (.inl rfl))), h3.on k (fun g hg => hR g (.inr (.inr hg))), h4⟩

theorem wpListIn_lookup_u64 {F : Fence} {n : Nat} {w : World} {ops : Array Oper} {rest : List Oper} {o : Oper} {a : Act} {Q : Exit → Act → World → Prop} (hg : o.guard = none) (mo x : Operand) (ok : Bool) (hop : o.op = Op.lookup 125 mo x ok)
    {m : Nat} {l : List Put} (hm : a.eval mo = .map (some m)) (h : MapAt w m l) (off : UInt64) (hx : a.eval x = .int .u64 ↑off.toNat)
    (hK : wpListIn F n Try.prog ops Q rest (a.put o.dst (if ok then .tuple #[.int .u64 ↑((loadP l off).getD 0).toNat, .bool (loadP l off).isSome] else .int .u64 ↑((loadP l off).getD 0).toNat)) w) :
    wpListIn F n Try.prog ops Q (o :: rest) a w := by
  refine wpListIn_plain hg fun K' hK' => ?_
  have hrun := run_lookup_u64 h off ok
  unfold Oper.wpIn
  refine ⟨by simp [Oper.about, hop], ?_⟩
  rw [Oper.semAt_plain F _ _ (by rw [hop]; intro c hc'; cases hc')]
  simp [execOp, hop, hm, hx, hrun, Result.andThen]
  exact hK' _ _ hK

set_option maxRecDepth 100000 in
set_option maxHeartbeats 2000000 in
theorem all1_in (n : Nat) (hn : 1 ≤ n) (L Bt t m p g cap : Nat) (l : List Put) (hlen : l.length < 4294967296) (J Jx : List Put → World → Prop)
    (hY : ∀ pre x W, J pre W → pre.length < l.length → YieldAt Fence.wide (n - 1) Try.prog L #[.int .u64 ↑x.1.toNat, .int .u64 ↑x.2.toNat] W fun e W' =>
      (e = .returned (.bool true) ∧ J (pre ++ [x]) W' ∧ KeptOn (allR Bt t m (.slice (some ⟨g, 0, none⟩) l.length cap)) W W') ∨ (e = .returned (.bool false) ∧ Jx (pre ++ [x]) W'))
    (W : World) (hbox : W.cell? ⟨Bt, 0, none⟩ = some (.pointer (some ⟨t, 0, none⟩))) (h : TxAt W t m (.slice (some ⟨g, 0, none⟩) l.length cap) p l) (h0 : J [] W) :
    CallsIn Fence.wide n Try.prog 112 #[.func (.yield L) #[] #[], .pointer (some ⟨Bt, 0, none⟩)] W fun e W' => (∃ v, e = .returned v) ∧
      ((∃ ys, ys = told l ∧ J ys W') ∨ (∃ pre, (∃ k, k ≤ l.length ∧ pre = (told l).take k) ∧ Jx pre W')) := by
  obtain ⟨c0, c1, c2⟩ := h.cells
  have HH := Lib.hid h
  refine callsIn_of_wp Try.func112 rfl trivial ?_ rfl
  simp only [Try.ntmps112, List.size_toArray, List.length_cons, List.length_nil, Nat.reduceAdd, Nat.reduceSub, Array.replicate_succ, Array.replicate_zero, List.push_toArray, List.append_toArray, List.nil_append, List.cons_append]
  gi_wp2
  gi_loopw [10] (fun i wr => ∃ k : Nat, k ≤ l.length ∧ i = .int .i64 (k : Int) ∧ J ((told l).take k) wr ∧ KeptOn (allR Bt t m (.slice (some ⟨g, 0, none⟩) l.length cap)) W wr)
    (fun i _ => (l.length - intOf i).toNat)
  case atStart => exact ⟨0, Nat.zero_le _, rfl, h0, KeptOn.refl _ _⟩
  case round =>
    obtain ⟨k, hk, rfl, hJs, hnx⟩ := hrel
    by_cases hlt : k < l.length
    · have h' := HH.out.on hnx (fun _ e => .inr e)
      obtain ⟨d0, d1, d2⟩ := h'.cells
      have hb := (hnx.cell (.inl rfl) 0).trans hbox
      obtain ⟨x, hx⟩ : ∃ x, l[k]? = some x := ⟨l[k], by simp [hlt]⟩
      have hrow := h'.2.2.1.view (S := Nil) (fun _ _ e => e)
      have hc : wr.cell? ⟨g, k, none⟩ = some (.int .u64 ↑x.1.toNat) := by
        rcases hrow with ⟨e, _⟩ | ⟨b, off, cap', hv, _, _, _, _, hcell⟩
        · cases e
        · have e2 := congrArg Value.ownBlock hv
          simp only [Value.slice.injEq, Option.some.injEq, Addr.mk.injEq] at hv
          obtain ⟨⟨rfl, rfl, _⟩, _, _⟩ := hv
          have := hcell k 0 (by decide) (by simpa using hlt)
          simpa [hx] using this
      have hmap := h'.2.1
      obtain ⟨fn, tmps, assign, body, hy, hR⟩ := hY _ (x.1, (loadP l x.1).getD 0) wr hJs (by rw [List.length_take, told_length]; omega)
      dsimp only at hy
      have HX := Lib.hid hx
      clear hx h' hrow
      gi_wp2_with (gi_at_lookup; refine wpListIn_lookup_u64 rfl _ _ _ rfl rfl hmap x.1 rfl ?_; simp only [Bool.false_eq_true, if_false])
      refine hR.mono ?_
      rintro e W3 (⟨rfl, hJ3, hk3⟩ | ⟨rfl, hJx3⟩)
      · gi_wp2
        go_roundw
        case rel => exact ⟨k + 1, by omega, by go_num, by rw [take_succ' (told_get HX.out)]; exact hJ3, hnx.trans hk3⟩
        case measure => simp [intOf] <;> omega
      · gi_wp2
        refine bodyPost_ret (results_none rfl _ _ _) rfl ?_
        exact ⟨⟨_, rfl⟩, .inr ⟨_, ⟨k + 1, by omega, rfl⟩, by rw [take_succ' (told_get HX.out)]; exact hJx3⟩⟩
    · obtain rfl : k = l.length := by omega
      gi_wp2
      go_end0
      exact ⟨⟨_, rfl⟩, .inl ⟨_, rfl, by simpa [List.take_of_length_le, told_length] using hJs⟩⟩

set_option maxRecDepth 100000 in
set_option maxHeartbeats 1000000 in
theorem all1_nil_in (n : Nat) (L Bt t m p : Nat) (J : List Put → World → Prop) (W : World) (hbox : W.cell? ⟨Bt, 0, none⟩ = some (.pointer (some ⟨t, 0, none⟩))) (h : TxAt W t m (.slice none 0 0) p []) (h0 : J [] W) :
    CallsIn Fence.wide n Try.prog 112 #[.func (.yield L) #[] #[], .pointer (some ⟨Bt, 0, none⟩)] W fun e W' => (∃ v, e = .returned v) ∧ J [] W' := by
  obtain ⟨c0, c1, c2⟩ := h.cells
  refine callsIn_of_wp Try.func112 rfl trivial ?_ rfl
  simp only [Try.ntmps112, List.size_toArray, List.length_cons, List.length_nil, Nat.reduceAdd, Nat.reduceSub, Array.replicate_succ, Array.replicate_zero, List.push_toArray, List.append_toArray, List.nil_append, List.cons_append]
  gi_wp2
  gi_loopw [10] (fun i wr => i = .int .i64 0 ∧ J [] wr) (fun _ _ => 0)
  case atStart => exact ⟨rfl, h0⟩
  case round =>
    obtain ⟨rfl, hJs⟩ := hrel
    gi_wp2
    go_end0
    exact ⟨⟨_, rfl⟩, hJs⟩

theorem TxAt.shape {w : World} {t m p : Nat} {tv : Value} {l : List Put} (h : TxAt w t m tv p l) : (tv = .slice none 0 0 ∧ l = []) ∨ ∃ g cap, tv = .slice (some ⟨g, 0, none⟩) l.length cap := by
  rcases h.2.2.1.2 with ⟨hv, h0⟩ | ⟨g, cap, cur, hv, _⟩
  · exact .inl ⟨hv, by simpa using List.eq_nil_of_length_eq_zero h0⟩
  · exact .inr ⟨g, cap, by simpa using hv⟩

theorem all_stops (n : Nat) (hn : 1 ≤ n) (Bt t m p : Nat) (tv : Value) (l : List Put) (hlen : l.length < 4294967296) (w : World) (hB : Bt < w.heap.size) (hbox : w.cell? ⟨Bt, 0, none⟩ = some (.pointer (some ⟨t, 0, none⟩))) (h : TxAt w t m tv p l) :
    SeqStopsK Fence.wide n Try.prog 112 #[.pointer (some ⟨Bt, 0, none⟩)] (fun x : Put => #[Value.int .u64 ↑x.1.toNat, Value.int .u64 ↑x.2.toNat]) (KeptOn (allR Bt t m tv)) (fun ys => ys = told l)
      (fun pre => ∃ k, k ≤ l.length ∧ pre = (told l).take k) l.length w := fun L J Jx W hW _ _ hY h0 => by
  have hb' := (hW.cell (p := ⟨Bt, 0, none⟩) hB).trans hbox
  have h' := h.keeps_nil (Keeps.of_below hW)
  rcases h.shape with ⟨rfl, rfl⟩ | ⟨g, cap, rfl⟩
  · exact (all1_nil_in n L Bt t m p J W hb' h' h0).mono fun e W' ⟨he, hj⟩ => ⟨he, .inl ⟨_, rfl, hj⟩⟩
  · exact all1_in n hn L Bt t m p g cap l hlen J Jx hY W hb' h' h0

set_option maxHeartbeats 400000 in
theorem all_any (a : Option Addr) (w : World) :
    Calls Try.prog 88 #[.pointer a] w fun e w' => e = .returned (.func (.func 112) #[] #[.pointer (some ⟨w.heap.size, 0, none⟩)]) ∧ w' = w.alloc (.cells #[.pointer a] 25) := by
  go_enter Try.func88, Try.ntmps88
  go_wp2
  go_ret
  exact ⟨rfl, rfl⟩

set_option maxHeartbeats 400000 in
theorem Puts_nil (w : World) : Calls Try.prog 33 #[.pointer none] w fun e w' => e = .returned (.slice none 0 0) ∧ w = w' := by
  go_enter Try.func33, Try.ntmps33
  go_wp2
  go_ret
  exact ⟨rfl, rfl⟩
set_option maxHeartbeats 400000 in
theorem Apply_nil (w : World) : Calls Try.prog 28 #[.pointer none] w fun e w' => e = .returned (.tuple #[]) ∧ Keeps Nil w w' := by
  go_enter Try.func28, Try.ntmps28
  go_wp2
  refine bodyPost_ret (results_none rfl _ _ _) rfl ?_
  exact ⟨rfl, (Keeps.refl Nil w).alloc _⟩

/-! ### what a loop's record may turn -/
theorem cells_grown {W W' : World} {row : Option Nat} {k : Nat} {c : Array Value} {T : TypeId} {f : Nat × Nat} (h : W.heap[k]? = some (.cells c T f)) (hg : W.grownBy W' row) (hr : ∀ r, row = some r → ∃ o : Obj, W.heap[r]? = some o ∧ o.isCells = false) : W'.heap[k]? = some (.cells c T f) := by
  refine (hg.block k (getElem?_lt h) (fun e => ?_)).trans h
  obtain ⟨o, ho, hc⟩ := hr k e.symm
  rw [h] at ho; cases ho; cases hc
theorem Own.grown {α : Type} {K : Kind α} {W W' : World} {row : Option Nat} {base : Nat} {v : Value} {l : List α} (h : Own K W base v l) (hg : W.grownBy W' row) (hr : ∀ r, row = some r → ∃ o : Obj, W.heap[r]? = some o ∧ o.isCells = false) : Own K W' base v l := by
  obtain ⟨h1, h2⟩ := h
  refine ⟨h1, ?_⟩
  rcases h2 with h2 | ⟨g, cap, cur, rfl, hb, hh, r⟩
  · exact .inl h2
  · exact .inr ⟨g, cap, cur, rfl, hb, cells_grown hh hg hr, r⟩
theorem Keeps.record {S : Nat → Prop} {w W W' : World} {row : Option Nat} {B : Nat} (h : Keeps S w W) (hg : W.grownBy W' row) (hr : ∀ r, row = some r → B ≤ r) (hB : w.heap.size ≤ B) : Keeps S w W' :=
  h.grown hg (fun k hk hlt => by have := hr k hk; omega)
theorem KeepsOthers.of_keeps {S : Nat → Prop} {W W' : World} (h : Keeps S W W') (hS : ∀ k o, S k → W.heap[k]? = some o → o.isCells = true) : KeepsOthers W W' :=
  ⟨h.size, fun k o hk ho => h.at hk (fun e => by rw [hS k o e hk] at ho; cases ho)⟩
theorem grown_put (W : World) (D : Nat) (o : Obj) : W.grownBy (W.putObj D o) (some D) := grownBy_putObj' W D o

theorem puts_facts {α : Type} {K : Kind α} {W w3 : World} {n0 base : Nat} {T : TypeId} {v v3 : Value} {l l3 : List α} (h1 : W.heap[n0]? = some (.cells #[v] T (0, 0))) (h2 : Own K w3 base v3 l3) (h4 : Own K W base v l) (hK : Keeps (fun k => v.ownBlock = some k) W w3) (hT : T ≠ K.elem := by decide) :
    w3.cell? ⟨n0, 0, none⟩ = some v ∧ w3.frozen? ⟨n0, 0, none⟩ = false ∧ Hid (w3.heap[n0]? = some (.cells #[v] T (0, 0)) ∧ v3.ownBlock ≠ some n0 ∧ v.ownBlock ≠ some n0 ∧ ∀ k o, v.ownBlock = some k → W.heap[k]? = some o → o.isCells = true) := by
  have hne : v.ownBlock ≠ some n0 := by
    intro e
    rcases h4.2 with ⟨rfl, _⟩ | ⟨g, cap, cur, rfl, _, hh, _⟩
    · cases e
    · simp only [Value.ownBlock, Option.some.injEq] at e; subst e; rw [h1] at hh; simp at hh; exact hT hh.2
  have h5 := hK.at h1 hne
  have hne3 : v3.ownBlock ≠ some n0 := by
    intro e
    rcases h2.2 with ⟨rfl, _⟩ | ⟨g, cap, cur, rfl, _, hh, _⟩
    · cases e
    · simp only [Value.ownBlock, Option.some.injEq] at e; subst e; rw [h5] at hh; simp at hh; exact hT hh.2
  refine ⟨cell_of_one h5, free_of_one h5, h5, hne3, hne, fun k o hk ho => ?_⟩
  rcases h4.2 with ⟨rfl, _⟩ | ⟨g, cap, cur, rfl, _, hh, _⟩
  · cases hk
  · simp only [Value.ownBlock, Option.some.injEq] at hk; subst hk; rw [hh] at ho; cases ho; rfl

theorem Own.base {α : Type} {K : Kind α} {w : World} {b b' : Nat} {v : Value} {l : List α} (h : Own K w b v l) (hb : b' ≤ b) : Own K w b' v l := by
  obtain ⟨h1, h2⟩ := h
  refine ⟨h1, ?_⟩
  rcases h2 with h2 | ⟨g, cap, cur, rfl, hg, r⟩
  · exact .inl h2
  · exact .inr ⟨g, cap, cur, rfl, by omega, r⟩

/-- the round's end: a list that is collected in a box -/
theorem puts_close {α : Type} {K : Kind α} {R : Nat → Prop} {w W w3 : World} {n0 base : Nat} {T : TypeId} {v : Value} {pre : List α} {x : α} {g m cap : Nat} (h3 : Keeps Nil w W) (h1 : W.heap[n0]? = some (.cells #[v] T (0, 0))) (h2 : Own K W base v pre)
    (hown3 : Own K w3 base (.slice (some ⟨g, 0, none⟩) m cap) (pre ++ [x])) (hK : Keeps (fun k => v.ownBlock = some k) W w3) (h5 : w3.heap[n0]? = some (.cells #[v] T (0, 0))) (_ : v.ownBlock = some g ∨ W.heap.size ≤ g)
    (hn : w.heap.size ≤ n0 ∧ n0 < base) (hbase : base ≤ W.heap.size) (hR : ∀ k, R k → k < base ∧ k ≠ n0) :
    KeepsOthers W (w3.setCell ⟨n0, 0, none⟩ (.slice (some ⟨g, 0, none⟩) m cap)) ∧ KeptOn R W (w3.setCell ⟨n0, 0, none⟩ (.slice (some ⟨g, 0, none⟩) m cap)) ∧
      (∃ v', (w3.setCell ⟨n0, 0, none⟩ (.slice (some ⟨g, 0, none⟩) m cap)).heap[n0]? = some (.cells #[v'] T (0, 0)) ∧ Own K (w3.setCell ⟨n0, 0, none⟩ (.slice (some ⟨g, 0, none⟩) m cap)) base v' (pre ++ [x])) ∧ Keeps Nil w (w3.setCell ⟨n0, 0, none⟩ (.slice (some ⟨g, 0, none⟩) m cap)) ∧ base ≤ (w3.setCell ⟨n0, 0, none⟩ (.slice (some ⟨g, 0, none⟩) m cap)).heap.size := by
  have hset := keeps_setCell w3 ⟨n0, 0, none⟩ (.slice (some ⟨g, 0, none⟩) m cap)
  have hall : Keeps (fun k => v.ownBlock = some k ∨ k = n0) W (w3.setCell ⟨n0, 0, none⟩ (.slice (some ⟨g, 0, none⟩) m cap)) :=
    (hK.mono (fun _ _ e => .inl e)).trans hset (fun _ _ e => .inr e)
  refine ⟨KeepsOthers.of_keeps hall (fun k o hk ho => ?_), hall.on (fun k hk => ⟨by have := (hR k hk).1; omega, fun e => ?_⟩), ⟨_, heap_setCell_same h5 0 _, hown3.keeps' hset (fun g' hg' e => ?_)⟩, h3.trans hall (fun i hi e => ?_), Nat.le_trans hbase hall.size⟩
  · rcases hk with hk | rfl
    · rcases h2.2 with ⟨rfl, _⟩ | ⟨g, cap, cur, rfl, _, hh, _⟩
      · cases hk
      · simp only [Value.ownBlock, Option.some.injEq] at hk; subst hk; rw [hh] at ho; cases ho; rfl
    · rw [h1] at ho; cases ho; rfl
  · have hr := hR k hk
    rcases e with e | e
    · have := (h2.block e).1; omega
    · exact hr.2 e
  · have := (hown3.block hg').1
    have e' : g' = n0 := e
    omega
  · rcases e with e | e
    · have := (h2.block e).1; omega
    · omega

theorem store_wf (v : Value) (l : List Put) {w : World} {base : Nat} (h : Own kP w base v l) : (v = .slice none 0 0) ∨ ∃ g cap, v = .slice (some ⟨g, 0, none⟩) l.length cap := by
  rcases h.2 with ⟨hv, h0⟩ | ⟨g, cap, cur, hv, _⟩
  · exact .inl hv
  · exact .inr ⟨g, cap, hv⟩

set_option maxRecDepth 100000 in
set_option maxHeartbeats 2000000 in
theorem Puts_some {w : World} {t m p : Nat} {tv : Value} {l : List Put} (h : TxAt w t m tv p l) (hlen : l.length < 4294967296) :
    Calls Try.prog 33 #[.pointer (some ⟨t, 0, none⟩)] w fun e w' => ∃ v, e = .returned v ∧ Own kP w' w.heap.size v (told l) ∧ Keeps Nil w w' := by
  refine (callsIn_wide (n := 4)).1 ?_
  refine callsIn_of_wp_marks Try.func33 rfl trivial ?_ rfl
  simp only [Try.ntmps33, List.size_toArray, List.length_cons, List.length_nil, Nat.reduceAdd, Nat.reduceSub, Array.replicate_succ, Array.replicate_zero, List.push_toArray, List.append_toArray, List.nil_append, List.cons_append]
  gi_wp2_with (refine ⟨trivial, ?_⟩; gi_at_call 88; refine (callsIn_wide.2 (all_any _ _)).mono ?_; rintro e w' ⟨rfl, rfl⟩)
  obtain ⟨w0, hw0⟩ : ∃ w0, w0 = (w.alloc (.cells #[.slice none 0 0] 22)).alloc (.cells #[.pointer (some ⟨t, 0, none⟩)] 25) := ⟨_, rfl⟩
  have hk0 : Keeps Nil w w0 := by rw [hw0]; exact ((Keeps.refl Nil w).alloc _).alloc _
  have hbx : w0.heap[w.heap.size]? = some (.cells #[.slice none 0 0] 22 (0, 0)) := by rw [hw0]; exact heap_old _ _ (heap_new w _)
  have hbt : w0.heap[w.heap.size + 1]? = some (.cells #[.pointer (some ⟨t, 0, none⟩)] 25 (0, 0)) := by
    rw [hw0]; simpa using heap_new (w.alloc (.cells #[.slice none 0 0] 22)) (.cells #[.pointer (some ⟨t, 0, none⟩)] 25)
  have hsz : w0.heap.size = w.heap.size + 2 := by rw [hw0]; simp
  rw [← hw0]
  clear hw0
  have h0 := h.keeps_nil hk0
  refine wpIn_rangeFunc_ownF rfl (by omega) (gf := 112) (lb := #[.pointer (some ⟨w.heap.size + 1, 0, none⟩)]) rfl trivial (enters_of Try.func112 (by kernel_rfl) rfl)
    (all_stops (4 - 1) (by omega) (w.heap.size + 1) t m p tv l hlen w0 (by omega) (cell_of_one hbt) h0) KeptOn.trans (keptOn_put (fun k hk => hk.elim (fun e => by omega) (fun e => h0.lt e))) (Below.refl _ _) (fun _ => rfl)
    (fun pre W => (∃ v, W.heap[w.heap.size]? = some (.cells #[v] 22 (0, 0)) ∧ Own kP W w0.heap.size v pre) ∧ Keeps Nil w W ∧ w0.heap.size ≤ W.heap.size)
    (fun _ _ _ => False)
    (fun s W W' row hs hg hr => by
      obtain ⟨⟨v, h1, h2⟩, h3⟩ := hs
      exact ⟨⟨v, cells_grown h1 hg (fun r e => (hr r e).2), h2.grown hg (fun r e => (hr r e).2)⟩, h3.1.record hg (fun r e => (hr r e).1) (by omega), Nat.le_trans h3.2 hg.size⟩)
    (fun _ _ _ _ _ hs _ _ => hs)
    ⟨⟨_, hbx, Own.nil _ _ _⟩, hk0, Nat.le_refl _⟩
    (fun x => { tmps := #[.pointer (some ⟨t, 0, none⟩), undef, .slice none 0 0, .pointer (some ⟨w.heap.size, 0, none⟩), .int .u64 ↑x.1.toNat, .int .u64 ↑x.2.toNat, .pointer (some ⟨t, 0, none⟩), .bool false, .pointer (some ⟨t, 0, none⟩), .func (.func 112) #[] #[.pointer (some ⟨w.heap.size + 1, 0, none⟩)], .int .u64 ↑x.1.toNat, .int .u64 ↑x.2.toNat, undef, undef, undef, undef, undef, undef, undef], defers := [] }) ?assign ?body ?done ?stop
  case assign =>
    intro L x W K hK
    gi_wp2
    exact hK
  case body =>
    rintro L pre x W ⟨⟨v, h1, h2⟩, h3⟩ hpl
    have hc := cell_of_one h1
    have hf := free_of_one h1
    have hbase := h3.2
    have hplen : pre.length < 4294967296 := by omega
    have hwx := getElem?_lt h1
    have H1 := Lib.hid h1
    have H3 := Lib.hid h3
    clear h1 h3
    rcases store_wf v pre h2 with rfl | ⟨g0, cap0, rfl⟩
    all_goals
      gi_wp2_with (gi_at_builtin; refine wpListIn_append_put rfl _ _ rfl _ rfl h2 rfl x _ _ rfl rfl rfl hplen hbase ?_; rintro _ w3 hown3 hK3 ⟨g, cap, rfl, hg⟩; obtain ⟨d1, d2, D⟩ := puts_facts H1.out hown3 h2 hK3)
      obtain ⟨d3, _⟩ := D.out
      exact puts_close (H3.out.1) H1.out h2 hown3 hK3 d3 hg (by omega) hbase (fun k hk => hk.elim (fun e => by omega) (fun e => by have := h.lt e; omega))
  case done =>
    rintro D ys W hD rfl ⟨⟨v, h1, h2⟩, h3⟩ hK
    have hc := cell_of_one h1
    rcases store_wf v _ h2 with rfl | ⟨g0, cap0, rfl⟩
    all_goals
      gi_wp2
      refine ⟨by simp, .inl ⟨_, _, rfl, run_takeDeferred hK, ?_⟩⟩
      exact ⟨_, results_tmp rfl _ _ _, _, rfl, (h2.grown (grown_put _ _ _) (fun r e => by cases e; exact ⟨_, hK, rfl⟩)).base (by omega), h3.1.record (grown_put _ _ _) (fun r e => by cases e; exact hD) (by omega)⟩
  case stop =>
    rintro D c pre W _ _ h _
    exact h.elim

end Go.Proofs.Ytccllkgaakmdhaa
