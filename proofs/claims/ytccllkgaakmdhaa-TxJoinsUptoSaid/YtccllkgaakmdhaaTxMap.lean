/- The map of a Tx: which words are thought of; look-up and store at the operations. -/
import Derived.Maps.OwnOps
import Derived.Test.YtccllkgaakmdhaaRows2
namespace Go.Proofs.Ytccllkgaakmdhaa
open Go.RowKit

/-- what is thought of at an offset -/
def loadP : List Put → UInt64 → Option UInt64
  | [], _ => none
  | x :: l, off => if off = x.1 then some x.2 else loadP l off
/-- the words that are thought of, behind a store -/
def storeP : List Put → UInt64 → UInt64 → List Put
  | [], off, v => [(off, v)]
  | x :: l, off, v => if off = x.1 then (off, v) :: l else x :: storeP l off v

theorem storeP_new {l : List Put} {off : UInt64} (h : loadP l off = none) (v : UInt64) : storeP l off v = l ++ [(off, v)] := by
  induction l with
  | nil => rfl
  | cons x l ih =>
    simp only [loadP] at h
    split at h
    · cases h
    · rename_i hne; simp only [storeP, if_neg hne]; rw [ih h]; rfl
theorem storeP_keys {l : List Put} {off u : UInt64} (h : loadP l off = some u) (v : UInt64) : (storeP l off v).map (·.1) = l.map (·.1) := by
  induction l with
  | nil => cases h
  | cons x l ih =>
    simp only [loadP] at h
    split at h
    · rename_i he; simp only [storeP, if_pos he]; simp [he]
    · rename_i hne; simp only [storeP, if_neg hne, List.map_cons]; rw [ih h]

def encPut (x : Put) : Value × Value := (.int .u64 ↑x.1.toNat, .int .u64 ↑x.2.toNat)
def encEntry (e : MapEntry) : Value × Value := (e.key, e.val)
/-- Block m is the map of the words of l. -/
def MapAt (w : World) (m : Nat) (l : List Put) : Prop := ∃ (es : Array MapEntry) (clock : Nat), w.heap[m]? = some (.map es clock) ∧ es.toList.map encEntry = l.map encPut

theorem MapAt.keeps {S : Nat → Prop} {w w' : World} {m : Nat} {l : List Put} (h : MapAt w m l) (k : Keeps S w w') (hS : ¬ S m) : MapAt w' m l := by
  obtain ⟨es, clock, h1, h2⟩ := h
  exact ⟨es, clock, k.at h1 hS, h2⟩
theorem MapAt.on {R : Nat → Prop} {w w' : World} {m : Nat} {l : List Put} (h : MapAt w m l) (k : KeptOn R w w') (hR : R m) : MapAt w' m l := by
  obtain ⟨es, clock, h1, h2⟩ := h
  exact ⟨es, clock, (k m hR).trans h1, h2⟩
theorem MapAt.made (w : World) : MapAt (w.alloc (.map #[] 0)) w.heap.size [] := ⟨#[], 0, heap_new w _, rfl⟩

/-- where an offset stands in the map -/
def placeP : List Put → UInt64 → Nat → Option (Nat × Value)
  | [], _, _ => none
  | x :: l, off, i => if off = x.1 then some (i, .int .u64 ↑x.2.toNat) else placeP l off (i + 1)

theorem toNat_beq (a b : UInt64) : ((a.toNat : Int) == (b.toNat : Int)) = decide (a = b) := by
  by_cases h : a = b
  · subst h; simp
  · rw [decide_eq_false h, beq_eq_false_iff_ne]; intro e; exact h (UInt64.toNat_inj.1 (by omega))

theorem findNow_u64 : ∀ (es : List MapEntry) (l : List Put) (_ : es.map encEntry = l.map encPut) (off : UInt64) (i : Nat), Instr.findNow (.int .u64) (.int .u64 ↑off.toNat) es i = some (placeP l off i)
  | [], [], _, off, i => rfl
  | [], _ :: _, h, _, _ => by cases h
  | _ :: _, [], h, _, _ => by cases h
  | e :: es, x :: l, h, off, i => by
    simp only [List.map_cons, List.cons.injEq] at h
    obtain ⟨h1, h2⟩ := h
    simp only [encEntry, encPut, Prod.mk.injEq] at h1
    simp only [Instr.findNow, h1.1, Instr.sameNow, if_true, toNat_beq, placeP]
    by_cases hx : off = x.1
    · simp [hx, h1.2]
    · simp only [hx, decide_false, if_false]
      exact findNow_u64 es l h2 off (i + 1)

theorem placeP_some {l : List Put} {off u : UInt64} (h : loadP l off = some u) : ∀ i, ∃ j, j < l.length ∧ placeP l off i = some (i + j, .int .u64 ↑u.toNat) ∧ (∀ v, storeP l off v = l.set j (off, v)) ∧ (l[j]?).map (·.1) = some off := by
  induction l with
  | nil => cases h
  | cons x l ih =>
    intro i
    simp only [loadP] at h
    split at h
    · rename_i he
      cases h
      exact ⟨0, by simp, by simp [placeP, he], fun v => by simp [storeP, he], by simp [he]⟩
    · rename_i hne
      obtain ⟨j, h1, h2, h3, h4⟩ := ih h (i + 1)
      exact ⟨j + 1, by simp; omega, by simp only [placeP, if_neg hne]; rw [h2]; simp; omega, fun v => by simp only [storeP, if_neg hne, h3]; rfl, by simpa using h4⟩
theorem placeP_none {l : List Put} {off : UInt64} (h : loadP l off = none) : ∀ i, placeP l off i = none := by
  induction l with
  | nil => intro i; rfl
  | cons x l ih =>
    intro i
    simp only [loadP] at h
    split at h
    · cases h
    · rename_i hne; simp only [placeP, if_neg hne]; exact ih h (i + 1)

theorem und_map : Try.prog.underlying 125 = some (.map 36 36) := Try.underlying125

theorem run_checkKey (b : Bool) (x : UInt64) (w : World) : (Instr.checkKey b 10000 36 (.int .u64 ↑x.toNat)).run Try.prog w = .ok () w :=
  (Maps.int_keyed Try.underlying36).check w b (Maps.keyOf_int_mk Try.underlying36 (u64_wf x))

theorem run_findKey {es : List MapEntry} {l : List Put} (h : es.map encEntry = l.map encPut) (off : UInt64) (w : World) : (Instr.findKey 36 (.int .u64 ↑off.toNat) es).run Try.prog w = .ok (placeP l off 0) w := by
  simp [Instr.findKey, run_underlying Try.underlying36, findNow_u64 es l h off 0]

/-- a look-up, with ok or without -/
theorem run_lookup_u64 {w : World} {m : Nat} {l : List Put} (h : MapAt w m l) (off : UInt64) (ok : Bool) :
    (Instr.lookup 125 (.map (some m)) (.int .u64 ↑off.toNat) ok).run Try.prog w = .ok (if ok then .tuple #[.int .u64 ↑((loadP l off).getD 0).toNat, .bool (loadP l off).isSome] else .int .u64 ↑((loadP l off).getD 0).toNat) w := by
  obtain ⟨es, clock, h1, h2⟩ := h
  have hf := run_findKey h2 off w
  have hz : (zeroValue 36).run Try.prog w = .ok (.int .u64 0) w := by kernel_rfl
  cases hl : loadP l off with
  | none =>
    rw [placeP_none hl 0] at hf
    cases ok <;> simp [Instr.lookup, run_underlying und_map, MapKept.run_getObj_map h1, Result.andThen, run_checkKey, hf, hz]
  | some u =>
    obtain ⟨j, _, hp, _, _⟩ := placeP_some hl 0
    rw [hp] at hf
    cases ok <;> simp [Instr.lookup, run_underlying und_map, MapKept.run_getObj_map h1, Result.andThen, run_checkKey, hf]

theorem run_update_u64 {w : World} {m : Nat} {l : List Put} (h : MapAt w m l) (off v : UInt64) :
    ∃ w', (Instr.mapUpdate 125 (.map (some m)) (.int .u64 ↑off.toNat) (.int .u64 ↑v.toNat)).run Try.prog w = .ok () w' ∧ MapAt w' m (storeP l off v) ∧ Keeps (fun k => k = m) w w' := by
  obtain ⟨es, clock, h1, h2⟩ := h
  have hf := run_findKey h2 off w
  have hlt := getElem?_lt h1
  have hkeep : ∀ o : Obj, Keeps (fun k => k = m) w { w with heap := w.heap.setIfInBounds m o } := fun o =>
    ⟨rfl, rfl, rfl, by simp, fun k hk hne => by simp [Array.getElem?_setIfInBounds_ne (Ne.symm hne)]⟩
  have hset : ∀ o : Obj, ({ w with heap := w.heap.setIfInBounds m o } : World).heap[m]? = some o := fun o => by simp [hlt]
  cases hl : loadP l off with
  | none =>
    rw [placeP_none hl 0] at hf
    refine ⟨{ w with heap := w.heap.setIfInBounds m (.map (es.push { key := .int .u64 ↑off.toNat, val := .int .u64 ↑v.toNat, born := clock }) (clock + 1)) }, ?_, ⟨_, _, hset _, ?_⟩, hkeep _⟩
    · simp [Instr.mapUpdate, run_underlying und_map, MapKept.run_getObj_map h1, Result.andThen, run_checkKey, hf, MapKept.run_setObj_map _ h1]
    · rw [storeP_new hl]; simp [h2, encEntry, encPut]
  | some u =>
    obtain ⟨j, hj, hp, hst, hk⟩ := placeP_some hl 0
    rw [hp] at hf
    have hlen : es.size = l.length := by have := congrArg List.length h2; simpa using this
    have hkey : ((es[j]?).map (·.key)).getD (.int .u64 ↑off.toNat) = .int .u64 ↑off.toNat := by
      have hx := congrArg (fun z => (z[j]?).map (·.1)) h2
      simp only [List.getElem?_map, Array.getElem?_toList, Option.map_map] at hx
      have hx2 : (es[j]?).map (·.key) = (l[j]?).map (fun x => Value.int .u64 ↑x.1.toNat) := hx
      rw [hx2]
      cases hlj : l[j]? with
      | none => rfl
      | some x => rw [hlj] at hk; simp at hk; simp [hk]
    have hbits : Instr.sameBits 10000 (.int .u64 ↑off.toNat) (.int .u64 ↑off.toNat) = true := by simp [Instr.sameBits]
    have hst' : (Instr.keyThatStays (.int .u64 ↑off.toNat) (.int .u64 ↑off.toNat)).run Try.prog w = .ok (.int .u64 ↑off.toNat) w := by simp [Instr.keyThatStays, hbits]
    refine ⟨{ w with heap := w.heap.setIfInBounds m (.map (es.modify j fun e => { e with key := .int .u64 ↑off.toNat, val := .int .u64 ↑v.toNat }) clock) }, ?_, ⟨_, _, hset _, ?_⟩, hkeep _⟩
    · simp only [Nat.zero_add] at hf
      simp [Instr.mapUpdate, run_underlying und_map, MapKept.run_getObj_map h1, Result.andThen, run_checkKey, hf]
      simp [hkey, hst', MapKept.run_setObj_map _ h1]
    · rw [hst v]
      apply List.ext_getElem?
      intro i
      have hx := congrArg (fun z => z[i]?) h2
      simp only [List.getElem?_map, Array.getElem?_toList] at hx ⊢
      rw [Array.getElem?_modify, List.getElem?_set]
      by_cases e : j = i
      · subst e
        rw [if_pos rfl, if_pos rfl, if_pos hj]
        have : es[j]? = some es[j] := by simp [hlen, hj]
        rw [this]; rfl
      · rw [if_neg e, if_neg e]; exact hx

theorem wpList_lookup_ok {w : World} {ops : Array Oper} {rest : List Oper} {o : Oper} {a : Act} {Q : Exit → Act → World → Prop} (hg : o.guard = none) (mo x : Operand) (ok : Bool) (hop : o.op = Op.lookup 125 mo x ok)
    {m : Nat} {l : List Put} (hm : a.eval mo = .map (some m)) (h : MapAt w m l) (off : UInt64) (hx : a.eval x = .int .u64 ↑off.toNat)
    (hK : wpList Try.prog ops Q rest (a.put o.dst (if ok then .tuple #[.int .u64 ↑((loadP l off).getD 0).toNat, .bool (loadP l off).isSome] else .int .u64 ↑((loadP l off).getD 0).toNat)) w) :
    wpList Try.prog ops Q (o :: rest) a w := by
  refine wpList_plain hg fun K' hK' => ?_
  have hrun := run_lookup_u64 h off ok
  unfold Oper.wp
  simp [execOp, hop, hm, hx, hrun, Result.andThen]
  exact hK' _ _ hK

theorem wpList_update {w : World} {ops : Array Oper} {rest : List Oper} {o : Oper} {a : Act} {Q : Exit → Act → World → Prop} (hg : o.guard = none) (mo x v : Operand) (hop : o.op = Op.mapUpdate 125 mo x v)
    {m : Nat} {l : List Put} (hm : a.eval mo = .map (some m)) (h : MapAt w m l) (off u : UInt64) (hx : a.eval x = .int .u64 ↑off.toNat) (hv : a.eval v = .int .u64 ↑u.toNat)
    (hK : ∀ w', MapAt w' m (storeP l off u) → Keeps (fun k => k = m) w w' → wpList Try.prog ops Q rest (a.put o.dst undef) w') :
    wpList Try.prog ops Q (o :: rest) a w := by
  refine wpList_plain hg fun K' hK' => ?_
  obtain ⟨w', hrun, h1, h2⟩ := run_update_u64 h off u
  unfold Oper.wp
  simp [execOp, hop, hm, hx, hv, hrun, Result.andThen]
  exact hK' _ _ (hK w' h1 h2)

end Go.Proofs.Ytccllkgaakmdhaa
