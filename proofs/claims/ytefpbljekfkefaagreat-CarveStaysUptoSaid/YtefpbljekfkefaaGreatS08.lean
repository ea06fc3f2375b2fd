/- PhysAll, WalkP, WalkR: written short. -/
import Derived.Test.YtefpbljekfkefaaGreatS07
import Derived.Test.YtefpbljekfkefaaGreatS01
set_option maxRecDepth 100000
set_option maxHeartbeats 8000000
namespace Go.Proofs.YtefpbljekfkefaaGreat
section
open Go.RowKit
abbrev Item := BlockV × Bool
inductive AtB (f : UInt64 → UInt64) : List Item → UInt64 → Prop
 | start : AtB f [] 3776
 | step {xs : List Item} {off : UInt64} : AtB f xs off → off.toNat < (f 16).toNat → oneB f off = true → AtB f (xs ++ [(oneT f off, true)]) (off + (oneT f off).tag.size)
theorem one_spec {f : UInt64 → UInt64} {off : UInt64} (h : oneB f off = true) : readB f off = true ∧ inT (f 16) off (oneT f off).tag.size = true ∧ 48 ≤ (oneT f off).tag.size.toNat ∧ (oneT f off).tag.size.toNat % 16 = 0 := by
 unfold oneB at h
 have hr : readB f off = true := by simp only [Bool.and_eq_true] at h; exact h.1
 have hr' := hr
 unfold readB at hr'
 simp only [Bool.and_eq_true] at hr'
 obtain ⟨⟨h1, h2⟩, _⟩ := hr'
 have e : (oneT f off).tag = unpackT (f off) := by unfold oneT; exact readT_yes hr
 obtain ⟨m1, m2, _⟩ := may_spec (may_unpack h1)
 rw [e]
 exact ⟨hr, h2, m2, m1⟩
theorem one_next {f : UInt64 → UInt64} {off : UInt64} (h : oneB f off = true) : (off + (oneT f off).tag.size).toNat = off.toNat + (oneT f off).tag.size.toNat ∧ off.toNat + (oneT f off).tag.size.toNat ≤ (f 16).toNat := by
 obtain ⟨_, h2, _, _⟩ := one_spec h
 obtain ⟨_, _, h3, h4⟩ := inT_spec h2
 have := (f 16).toNat_lt
 exact ⟨by rw [UInt64.toNat_add]; omega, by omega⟩
theorem AtB.le {f : UInt64 → UInt64} {xs : List Item} {off : UInt64} (h : AtB f xs off) : 3776 + 48 * xs.length ≤ off.toNat := by
 induction h with
 | start => simp
 | step h1 h2 h3 ih =>
   obtain ⟨e, _⟩ := one_next h3
   obtain ⟨_, _, h4, _⟩ := one_spec h3
   rw [e]; simp; omega
def AllB (f : UInt64 → UInt64) (xs : List Item) : Prop :=
  (∃ off, AtB f xs off ∧ ¬ off.toNat < (f 16).toNat) ∨ (∃ ys off b, xs = ys ++ [(b, false)] ∧ AtB f ys off ∧ off.toNat < (f 16).toNat ∧ oneB f off = false)
def SomeB (f : UInt64 → UInt64) (xs : List Item) : Prop :=
  ∃ ys off b, xs = ys ++ [(b, oneB f off)] ∧ (oneB f off = true → b = oneT f off) ∧ AtB f ys off ∧ off.toNat < (f 16).toNat
def encB (x : Item) : Array Value := #[.agg x.1.cells, .int .i64 (codeOf x.2)]
def OwnB (n0 : Nat) (W : World) (k : Nat) : Prop := k = n0 ∨ ∃ n c T f, W.heap[n0]? = some (.cells #[.slice (some ⟨k, 0, none⟩) n c] T f)
structure KeptBut (b0 n0 : Nat) (A B : World) : Prop where
 size : A.heap.size ≤ B.heap.size
 kept : ∀ k o, A.heap[k]? = some o → (k < b0 ∨ o.isCells = true) → ¬ OwnB n0 A k → B.heap[k]? = some o
 old : ∀ k, OwnB n0 B k → k < A.heap.size → OwnB n0 A k
 lt : (∀ k, OwnB n0 A k → k < A.heap.size) → ∀ k, OwnB n0 B k → k < B.heap.size
section
variable {b0 n0 : Nat} {A B C : World}
theorem KeptBut.refl (b0 n0 : Nat) (A : World) : KeptBut b0 n0 A A := ⟨Nat.le_refl _, fun _ _ h _ _ => h, fun _ h _ => h, fun h => h⟩
theorem KeptBut.trans (h : KeptBut b0 n0 A B) (k : KeptBut b0 n0 B C) : KeptBut b0 n0 A C :=
 ⟨Nat.le_trans h.size k.size, fun i o hi hb hn => k.kept i o (h.kept i o hi hb hn) hb (fun e => hn (h.old i e (getElem?_lt hi))),
  fun i e hi => h.old i (k.old i e (Nat.lt_of_lt_of_le hi h.size)) hi, fun hA => k.lt (h.lt hA)⟩
theorem KeptBut.nil (h : Keeps Nil A B) (hn : n0 < A.heap.size) : KeptBut b0 n0 A B := by
 have e : B.heap[n0]? = A.heap[n0]? := h.block n0 hn (fun e => e)
 have ho : ∀ k, OwnB n0 B k → OwnB n0 A k := fun k hk => by unfold OwnB at hk ⊢; rw [e] at hk; exact hk
 exact ⟨h.size, fun k o hk _ _ => h.at hk (fun e => e), fun k hk _ => ho k hk, fun hA k hk => Nat.lt_of_lt_of_le (hA k (ho k hk)) h.size⟩
theorem KeptBut.put (W : World) (l : Nat) (o o' : Obj) (hn : n0 < b0) (hl : b0 ≤ l) (h : W.heap[l]? = some o) (hc : o.isCells = false) : KeptBut b0 n0 W (W.putObj l o') := by
 have hne : n0 ≠ l := by omega
 have hs : (W.putObj l o').heap.size = W.heap.size := by simp [World.putObj]
 have ho : ∀ k, OwnB n0 (W.putObj l o') k ↔ OwnB n0 W k := fun k => by unfold OwnB; rw [World.putObj_heap_other hne]
 refine ⟨by omega, fun k x hk hb _ => ?_, fun k hk _ => (ho k).1 hk, fun hA k hk => by rw [hs]; exact hA k ((ho k).1 hk)⟩
 have hkl : k ≠ l := fun e => by
  subst e
  rw [h] at hk; cases hk
  rcases hb with hb | hb
  · omega
  · rw [hc] at hb; cases hb
 rw [World.putObj_heap_other hkl]
 exact hk
theorem KeptBut.on (h : KeptBut b0 n0 A B) {R : Nat → Prop} (hR : ∀ k, R k → k < b0 ∧ k < A.heap.size ∧ ¬ OwnB n0 A k) : KeptOn R A B := fun k hk => by
 obtain ⟨h1, h2, h3⟩ := hR k hk
 rw [Array.getElem?_eq_getElem h2]
 exact h.kept k _ (Array.getElem?_eq_getElem h2) (.inl h1) h3
theorem KeptBut.cells {k : Nat} {c : Array Value} {T : TypeId} {f : Nat × Nat} (h : KeptBut b0 n0 A B) (hk : A.heap[k]? = some (.cells c T f)) (hn : ¬ OwnB n0 A k) : B.heap[k]? = some (.cells c T f) := h.kept k _ hk (.inr rfl) hn
end
theorem physAll1_in (n : Nat) (hn : 1 ≤ n) (L Bt b0 n0 : Nat) {R : Nat → Prop} {T : Value} {f : UInt64 → UInt64} {N : Nat} (hsm : (f 16).toNat ≤ 1048576) (J Jx : List Item → World → Prop)
    (hY : ∀ pre x W, J pre W → pre.length < 21846 → YieldAt Fence.wide (n - 1) Tryz.prog L (encB x) W fun e W' =>
      (e = .returned (.bool true) ∧ J (pre ++ [x]) W' ∧ KeptBut b0 n0 W W') ∨ (e = .returned (.bool false) ∧ Jx (pre ++ [x]) W'))
    (hJ : ∀ pre W W', J pre W → Keeps Nil W W' → J pre W')
    (W : World) (hn0 : n0 < b0 ∧ n0 < W.heap.size) (hown : ∀ k, OwnB n0 W k → k < W.heap.size) (hR : ∀ k, R k → k < b0 ∧ k < W.heap.size ∧ ¬ OwnB n0 W k) (hbox : W.heap[Bt]? = some (.cells #[T] 24 (0, 0))) (hBt : Bt < b0 ∧ ¬ OwnB n0 W Bt) (hT : ReadsK R T f N W) (h0 : J [] W) :
    CallsIn Fence.wide n Tryz.prog 141 #[.func (.yield L) #[] #[], .pointer (some ⟨Bt, 0, none⟩)] W fun e W' => (∃ v, e = .returned v) ∧
      ((∃ xs, AllB f xs ∧ J xs W') ∨ (∃ pre, SomeB f pre ∧ Jx pre W')) := by
  have HT := qH hT
  refine callsIn_of_wp Tryz.func141 rfl trivial ?_ rfl
  simp only [Tryz.ntmps141, List.size_toArray, List.length_cons, List.length_nil, Nat.reduceAdd, Nat.reduceSub, Array.replicate_succ, Array.replicate_zero, List.push_toArray, List.append_toArray, List.nil_append, List.cons_append]
  gi_wp2
  gi_loopw [3] (fun v wr => ∃ off : UInt64, v = .int .u64 (off.toNat : Int) ∧ wr.cell? ⟨Bt, 0, none⟩ = some T ∧ Hid (∃ xs, AtB f xs off ∧ J xs wr ∧ KeptBut b0 n0 W wr)) (fun v _ => (f 16).toNat - (intOf v).toNat)
  case atStart => exact ⟨3776, rfl, cell_of_one hbox, [], AtB.start, h0, KeptBut.refl _ _ _⟩
  case round =>
    obtain ⟨off, rfl, hc, HH⟩ := hrel
    obtain ⟨xs, ha, hj, hk⟩ := HH.out
    have hkr := HT.out.on (hk.on hR)
    have HS := qH (hSize_any hkr.reads)
    have hbl : Bt < wr.heap.size := World.block_lt_of_cell? _ _ hc
    by_cases hlt : off.toNat < (f 16).toNat
    · have t1 : decide (off.toNat < (f 16).toNat) = true := decide_eq_true hlt
      have HL := qH (And.intro hlt (And.intro ha (And.intro hj (And.intro hk hkr))))
      clear hlt ha hj hk hkr HH
      gi_wp2_with (refine ⟨trivial, ?_⟩; gi_at_call 42; refine (callsIn_wide.2 HS.out).mono ?_; rintro e w1 ⟨rfl, k1⟩; have hc1 := (k1.cell hbl (fun e => e) 0).trans hc; have K1 := qH k1; have HO := qH (one_any (HL.out.2.2.2.2.reads.keeps k1) off _ rfl); clear k1 HS)
      refine ⟨trivial, ?_⟩
      refine (callsIn_wide.2 HO.out).mono ?_
      rintro e w2 ⟨b, rfl, hb, k2⟩
      obtain ⟨bo, ⟨bs, bu, bw⟩, bl⟩ := b
      have hcells : BlockV.cells ⟨bo, ⟨bs, bu, bw⟩, bl⟩ = #[.int .u64 (bo.toNat : Int), .int .u64 (bs.toNat : Int), .bool bu, .int .i64 bw, .int .u64 (bl.toNat : Int)] := rfl
      rw [hcells]
      obtain ⟨w3, hw3⟩ : ∃ w3, w3 = w2.alloc (.cells #[.int .u64 (bo.toNat : Int), .int .u64 (bs.toNat : Int), .bool bu, .int .i64 bw, .int .u64 (bl.toNat : Int)] 37) := ⟨_, rfl⟩
      have k3 : Keeps Nil wr w3 := by rw [hw3]; exact (K1.out.trans' k2).alloc _
      have b3 : w3.heap[w2.heap.size]? = some (.cells #[.int .u64 (bo.toNat : Int), .int .u64 (bs.toNat : Int), .bool bu, .int .i64 bw, .int .u64 (bl.toNat : Int)] 37 (0, 0)) := by rw [hw3]; exact heap_new _ _
      obtain ⟨hlt, ha, hj, hk, hkr⟩ := HL.out
      have hle := ha.le
      obtain ⟨fn, tmps, assign, body, hy, hRR⟩ := hY xs (⟨bo, ⟨bs, bu, bw⟩, bl⟩, oneB f off) w3 (hJ _ _ _ hj k3) (by omega)
      rw [hw3] at hy
      dsimp only [encB] at hy
      rw [hcells] at hy
      have HB := qH (And.intro hb (And.intro k3 (And.intro b3 (And.intro ha hk))))
      have HSZ := qH k2.size
      have HLT := qH hlt
      have HW3 := qH hw3
      obtain ⟨cd, hcd⟩ : ∃ cd, cd = codeOf (oneB f off) := ⟨_, rfl⟩
      rw [← hcd] at hy ⊢
      have HCD := qH hcd
      clear hb k3 b3 ha hk hlt hj hkr hle hcells hw3 hcd k2
      gi_wp2_with fail
      rw [← HW3.out]
      have hsz2 : wr.heap.size ≤ w2.heap.size := by have := K1.out.size; have := HSZ.out; omega
      refine hRR.mono ?_
      rintro e W3 (⟨rfl, hJ3, hk3⟩ | ⟨rfl, hJx3⟩)
      · obtain ⟨hb, k3, b3, ha, hk⟩ := HB.out
        have hnown : ¬ OwnB n0 w3 w2.heap.size := fun e => by
          have e2 : OwnB n0 wr w2.heap.size := by
            unfold OwnB at e ⊢
            rw [k3.block n0 (Nat.lt_of_lt_of_le hn0.2 hk.size) (fun e => e)] at e
            exact e
          have := hk.lt hown _ e2
          omega
        have hb3 := hk3.cells b3 hnown
        have hc3 : W3.cell? ⟨Bt, 0, none⟩ = some T := by
          have hbt := hk.cells hbox hBt.2
          have hbt2 := k3.at hbt (fun e => e)
          have hno : ¬ OwnB n0 w3 Bt := fun e => by
            have e2 : OwnB n0 wr Bt := by
              unfold OwnB at e ⊢
              rw [k3.block n0 (Nat.lt_of_lt_of_le hn0.2 hk.size) (fun e => e)] at e
              exact e
            exact hBt.2 (hk.old Bt e2 (getElem?_lt hbox))
          exact cell_of_one (hk3.cells hbt2 hno)
        have e1 := (row5 hb3).2.1
        have hkk : KeptBut b0 n0 W W3 := (hk.trans (KeptBut.nil k3 (Nat.lt_of_lt_of_le hn0.2 hk.size))).trans hk3
        cases hone : oneB f off with
        | false =>
          have hcd : cd = 12 := by rw [HCD.out, hone]; rfl
          have HX := qH (And.intro hone (And.intro ha hJ3))
          subst hcd
          clear hb k3 b3 ha hk hnown hb3 e1 hkk hone hJ3 hk3 hc3
          gi_wp2
          refine bodyPost_ret (results_none rfl _ _ _) rfl ?_
          refine ⟨⟨_, rfl⟩, .inl ⟨_, .inr ⟨xs, off, ⟨bo, ⟨bs, bu, bw⟩, bl⟩, rfl, HX.out.2.1, HLT.out, HX.out.1⟩, ?_⟩⟩
          have := HX.out.2.2
          rw [HX.out.1] at this
          exact this
        | true =>
          have hcd : cd = 0 := by rw [HCD.out, hone]; rfl
          have hbe := hb hone
          obtain ⟨y, hy2⟩ : ∃ y, y = off + bs := ⟨_, rfl⟩
          have q1 : IntKind.u64.wrap ((off.toNat : Int) + (bs.toNat : Int)) = (y.toNat : Int) := by rw [hy2]; exact u64_add off bs
          have hst := AtB.step ha HLT.out hone
          obtain ⟨hn1, hn2⟩ := one_next hone
          obtain ⟨_, _, hn3, _⟩ := one_spec hone
          rw [← hbe] at hst hn1 hn2 hn3
          simp only at hst hn1 hn2 hn3
          rw [← hy2] at hst hn1
          rw [hone] at hJ3
          have HX := qH (And.intro hst (And.intro hJ3 hkk))
          have HN := qH (And.intro hn1 (And.intro hn2 hn3))
          subst hcd
          clear hb k3 b3 ha hk hnown hb3 hkk hone hJ3 hk3 hbe hst hn1 hn2 hn3 hy2
          gi_wp2
          go_roundw
          case rel => exact ⟨y, rfl, hc3, _, HX.out.1, HX.out.2.1, HX.out.2.2⟩
          case measure => simp only [intOf]; have := HN.out; omega
      · obtain ⟨hb, k3, b3, ha, hk⟩ := HB.out
        have HX := qH (And.intro hb (And.intro ha hJx3))
        clear hb k3 b3 ha hk hJx3
        gi_wp2
        refine bodyPost_ret (results_none rfl _ _ _) rfl ?_
        exact ⟨⟨_, rfl⟩, .inr ⟨_, ⟨xs, off, ⟨bo, ⟨bs, bu, bw⟩, bl⟩, rfl, HX.out.1, HX.out.2.1, HLT.out⟩, HX.out.2.2⟩⟩
    · have t1 : decide (off.toNat < (f 16).toNat) = false := decide_eq_false hlt
      have HL := qH (And.intro hlt (And.intro ha hj))
      clear hlt ha hj hk hkr HH
      gi_wp2_with (refine ⟨trivial, ?_⟩; gi_at_call 42; refine (callsIn_wide.2 HS.out).mono ?_; rintro e w1 ⟨rfl, k1⟩; have K1 := qH k1; clear k1 HS)
      go_end0
      exact ⟨⟨_, rfl⟩, .inl ⟨_, .inl ⟨off, HL.out.2.1, HL.out.1⟩, hJ _ _ _ HL.out.2.2 K1.out⟩⟩
theorem physAll_stops (n : Nat) (hn : 1 ≤ n) (Bt b0 n0 : Nat) {R : Nat → Prop} {T : Value} {f : UInt64 → UInt64} {N : Nat} (hsm : (f 16).toNat ≤ 1048576) (w : World) (hn0 : n0 < b0 ∧ n0 < w.heap.size) (hown : ∀ k, OwnB n0 w k → k < w.heap.size)
  (hR : ∀ k, R k → k < b0 ∧ k < w.heap.size ∧ ¬ OwnB n0 w k) (hbox : w.heap[Bt]? = some (.cells #[T] 24 (0, 0))) (hBt : Bt < b0 ∧ ¬ OwnB n0 w Bt) (hT : ReadsK R T f N w) :
  SeqStopsK Fence.wide n Tryz.prog 141 #[.pointer (some ⟨Bt, 0, none⟩)] encB (KeptBut b0 n0) (AllB f) (SomeB f) 21846 w := fun L J Jx W hW hJ _ hY h0 => by
 have hk := Keeps.of_below hW
 have ho : ∀ k, OwnB n0 W k → OwnB n0 w k := fun k hk' => by
  unfold OwnB at hk' ⊢
  rw [hk.block n0 hn0.2 (fun e => e)] at hk'
  exact hk'
 refine physAll1_in n hn L Bt b0 n0 (R := R) (T := T) (N := N) hsm J Jx hY (fun pre A B hj k => ?_) W ⟨hn0.1, Nat.lt_of_lt_of_le hn0.2 hk.size⟩ (fun k e => Nat.lt_of_lt_of_le (hown k (ho k e)) hk.size)
  (fun k e => ⟨(hR k e).1, Nat.lt_of_lt_of_le (hR k e).2.1 hk.size, fun e' => (hR k e).2.2 (ho k e')⟩) (hk.at hbox (fun e => e)) ⟨hBt.1, fun e => hBt.2 (ho _ e)⟩ (hT.keeps (fun k e => (hR k e).2.1) hk) h0
 exact hJ pre A B none hj ⟨k.os, k.tape, k.output, k.size, fun i hi _ => k.block i hi (fun e => e)⟩ (fun r e => by cases e)
theorem physAll_any (a : Option Addr) (w : World) :
  Calls Tryz.prog 85 #[.pointer a] w fun e w' => e = .returned (.func (.func 141) #[] #[.pointer (some ⟨w.heap.size, 0, none⟩)]) ∧ w' = w.alloc (.cells #[.pointer a] 24) := by
 go_enter Tryz.func85, Tryz.ntmps85
 go_wp2
 go_ret
 exact ⟨rfl, rfl⟩
end
section
open Go.RowKit
def scanF (f : UInt64 → UInt64) : Nat → UInt64 → Option (List BlockV)
 | 0, _ => some []
 | n + 1, off => if off.toNat < (f 16).toNat then (if oneB f off then (scanF f n (off + (oneT f off).tag.size)).map (oneT f off :: ·) else none) else some []
theorem scan_step {f : UInt64 → UInt64} {n : Nat} {off : UInt64} (h1 : off.toNat < (f 16).toNat) (h2 : oneB f off = true) : scanF f (n + 1) off = (scanF f n (off + (oneT f off).tag.size)).map (oneT f off :: ·) := by
  rw [scanF, if_pos h1, if_pos h2]
theorem scan_end {f : UInt64 → UInt64} {n : Nat} {off : UInt64} (h1 : ¬ off.toNat < (f 16).toNat) : scanF f n off = some [] := by
 cases n with
 | zero => rfl
 | succ n => rw [scanF, if_neg h1]
theorem scan_bad {f : UInt64 → UInt64} {n : Nat} {off : UInt64} (h1 : off.toNat < (f 16).toNat) (h2 : oneB f off = false) : scanF f (n + 1) off = none := by
  rw [scanF, if_pos h1, if_neg (by rw [h2]; decide)]
theorem AtB.scan {f : UInt64 → UInt64} {xs : List Item} {off : UInt64} (h : AtB f xs off) : ∀ n, scanF f (n + xs.length) 3776 = (scanF f n off).map (xs.map (·.1) ++ ·) := by
 induction h with
 | start => intro n; simp
 | @step xs off h1 h2 h3 ih =>
   intro n
   have := ih (n + 1)
   rw [scan_step h2 h3] at this
   rw [List.length_append, List.length_singleton, show n + (xs.length + 1) = n + 1 + xs.length by omega, this, Option.map_map]
   congr 1
   funext l
   simp
theorem AtB.good {f : UInt64 → UInt64} {xs : List Item} {off : UInt64} (h : AtB f xs off) : (∀ x ∈ xs, x.2 = true) ∧ (off.toNat ≤ (f 16).toNat ∨ xs = []) := by
 induction h with
 | start => exact ⟨by simp, .inr rfl⟩
 | step h1 h2 h3 ih =>
   refine ⟨fun x hx => ?_, .inl ?_⟩
   ·rcases List.mem_append.1 hx with hx | hx
    · exact ih.1 x hx
    · rw [List.mem_singleton.1 hx]
   ·obtain ⟨e1, e2⟩ := one_next h3
    omega
def rounds : Nat := 21846
def walkF (f : UInt64 → UInt64) : Option (List BlockV) := scanF f rounds 3776
theorem walk_all {f : UInt64 → UInt64} {xs : List Item} (hsm : (f 16).toNat ≤ 1048576) (h : AllB f xs) : (∀ x ∈ xs, x.2 = true) ∧ walkF f = some (xs.map (·.1)) ∨ (∃ ys b, xs = ys ++ [(b, false)]) ∧ walkF f = none := by
 rcases h with ⟨off, ha, he⟩ | ⟨ys, off, b, rfl, ha, hl, hb⟩
 ·left
  have hle := ha.le
  obtain ⟨hg, hx⟩ := ha.good
  refine ⟨hg, ?_⟩
  have hlen : xs.length ≤ rounds := by
   rcases hx with hx | hx
   · unfold rounds; omega
   · rw [hx]; exact Nat.zero_le _
  have := ha.scan (rounds - xs.length)
  rw [scan_end he, Nat.sub_add_cancel hlen] at this
  unfold walkF
  rw [this]; simp
 ·right
  have hle := ha.le
  refine ⟨⟨ys, b, rfl⟩, ?_⟩
  have := ha.scan (rounds - ys.length)
  have e : rounds - ys.length = (rounds - ys.length - 1) + 1 := by unfold rounds; omega
  rw [e, scan_bad hl hb, ← e, Nat.sub_add_cancel (by unfold rounds; omega)] at this
  unfold walkF
  rw [this]; rfl
theorem results_cell2 {P : Program} {fn : Func} {tmps : Array Value} {w : World} {p q : Tmp} {ty ty2 : TypeId} {g g2 : Nat} {v v2 : Value} (h : fn.results = #[.cell p ty, .cell q ty2]) (ht : tmps.getD p undef = .pointer (some ⟨g, 0, none⟩)) (hq : tmps.getD q undef = .pointer (some ⟨g2, 0, none⟩))
  (hr : (loadVar ty ⟨g, 0, none⟩).run P w = .ok v w) (hr2 : (loadVar ty2 ⟨g2, 0, none⟩).run P w = .ok v2 w) : (results fn tmps).run P w = .ok (.tuple #[v, v2]) w := by
 have ht' : tmps[p]?.getD undef = .pointer (some ⟨g, 0, none⟩) := by simpa using ht
 have hq' : tmps[q]?.getD undef = .pointer (some ⟨g2, 0, none⟩) := by simpa using hq
 simp only [results, h]
 simp [Sem.run_bind, Result.andThen, ht', hq', asAddr, hr, hr2]
theorem loadVar_slice {w : World} {g : Nat} {v : Value} (hc : w.cell? ⟨g, 0, none⟩ = some v) : (loadVar 44 ⟨g, 0, none⟩).run Tryz.prog w = .ok v w := by
 have hu := Tryz.underlying44
 simp [loadVar, go_sem, hc]
theorem loadVar_errno {w : World} {g : Nat} {v : Value} (hc : w.cell? ⟨g, 0, none⟩ = some v) : (loadVar 41 ⟨g, 0, none⟩).run Tryz.prog w = .ok v w := by
 have hu := Tryz.underlying41
 simp [loadVar, go_sem, hc]
end
end Go.Proofs.YtefpbljekfkefaaGreat
