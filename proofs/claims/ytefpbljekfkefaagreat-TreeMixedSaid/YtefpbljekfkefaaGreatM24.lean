/- NodeAll, TreeQ: merged. -/
import Derived.Test.YtefpbljekfkefaaGreatM22
import Derived.Test.YtefpbljekfkefaaGreatM18
import Derived.Test.YtefpbljekfkefaaGreatM05
import Derived.Test.YtefpbljekfkefaaGreatM23
/- Package tree: node.all, All. -/
namespace Go.Proofs.YtefpbljekfkefaaGreat
open Go.RowKit Go.Shelf PT

attribute [local go_sem] Oper.semAt_some

theorem nodeAll_any (w : World) (T : Option Addr) (x : UInt64) (y : Int) (hy : y = (x.toNat : Int)) : Calls Tryz.prog 108 #[.agg #[.pointer T], .int .u64 y] w fun e w' =>
    e = .returned (.func (.func 163) #[] #[.pointer (some ⟨w.heap.size + 1, 0, none⟩), .pointer (some ⟨w.heap.size, 0, none⟩)]) ∧ w' = (w.alloc (.cells #[.pointer T] 153)).alloc (.cells #[.int .u64 (x.toNat : Int)] 25) := by
  subst hy
  go_enter Tryz.func108, Tryz.ntmps108
  go_wp2
  go_ret
  exact ⟨rfl, rfl⟩

/-- what stands while a tree's blocks are told -/
structure HoldA (R : Nat → Prop) (n0 : Nat) (T : Value) (f : UInt64 → UInt64) (N Ba Bn By l : Nat) (x : UInt64) (W : World) : Prop where
  lt0 : n0 < W.heap.size
  own : ∀ k, OwnN n0 W k → k < W.heap.size
  far : ∀ k, R k → k < W.heap.size ∧ ¬ OwnN n0 W k
  told : ReadsK R T f N W
  ba : W.heap[Ba]? = some (.cells #[.int .u64 (x.toNat : Int)] 25 (0, 0)) ∧ ¬ OwnN n0 W Ba
  bn : W.heap[Bn]? = some (.cells #[T] 153 (0, 0)) ∧ ¬ OwnN n0 W Bn
  by_ : W.heap[By]? = some (.cells #[.func (.yield l) #[] #[]] 168 (0, 0)) ∧ ¬ OwnN n0 W By
theorem HoldA.kept {R : Nat → Prop} {n0 : Nat} {T : Value} {f : UInt64 → UInt64} {N Ba Bn By l : Nat} {x : UInt64} {W W' : World} (h : HoldA R n0 T f N Ba Bn By l x W) (k : KeptAll n0 W W') : HoldA R n0 T f N Ba Bn By l x W' := by
  have hn : ∀ {b : Nat} {o : Obj}, W.heap[b]? = some o → ¬ OwnN n0 W b → W'.heap[b]? = some o ∧ ¬ OwnN n0 W' b := fun hb hn => ⟨k.kept _ _ hb hn, fun e => hn (k.old _ e (getElem?_lt hb))⟩
  exact ⟨Nat.lt_of_lt_of_le h.lt0 k.size, k.lt h.own, fun i hi => ⟨Nat.lt_of_lt_of_le (h.far i hi).1 k.size, fun e => (h.far i hi).2 (k.old _ e (h.far i hi).1)⟩, h.told.on (k.on h.far), hn h.ba.1 h.ba.2, hn h.bn.1 h.bn.2, hn h.by_.1 h.by_.2⟩
theorem HoldA.nil {R : Nat → Prop} {n0 : Nat} {T : Value} {f : UInt64 → UInt64} {N Ba Bn By l : Nat} {x : UInt64} {W W' : World} (h : HoldA R n0 T f N Ba Bn By l x W) (k : Keeps Nil W W') : HoldA R n0 T f N Ba Bn By l x W' := h.kept (KeptAll.nil k h.lt0)
/-- how the body of a function that ranges over a function may be left, where nothing panics -/
def okPostM (F : Fence) (n : Nat) (P : Program) (fn : Func) (R : Ending → World → Prop) : Exit → Act → World → Prop
  | .normal, a, w | .ret, a, w => LeavesInM F n P fn a.tmps R a.defers .returning w
  | _, _, _ => False
theorem calls_marks {P : Program} {f : FuncId} {fn : Func} {c : Code} {args : Array Value} {w : World} {R : Ending → World → Prop} (hf : P.funcs[f]? = some fn) (hb : fn.body = some c)
    (h : c.wpIn Fence.wide 0 P (okPostM Fence.wide 0 P fn R) { tmps := args ++ Array.replicate (fn.ntmps - args.size) undef, defers := [] } w) : Calls P f args w R :=
  (callsIn_wide (n := 0)).1 (callsIn_of_wp_marks hf hb trivial (wpIn_mono h (fun e a w h => by cases e <;> first | exact h | exact h.elim)))
/-- the block for the rounds' deferred calls stands, empty -/
def MarkD (n0 D : Nat) (W : World) : Prop := W.heap[D]? = some (.deferred (some [])) ∧ ¬ OwnN n0 W D ∧ n0 < W.heap.size
theorem MarkD.kept {n0 D : Nat} {W W' : World} (h : MarkD n0 D W) (k : KeptAll n0 W W') : MarkD n0 D W' := ⟨k.kept _ _ h.1 h.2.1, fun e => h.2.1 (k.old _ e (getElem?_lt h.1)), Nat.lt_of_lt_of_le h.2.2 k.size⟩
theorem MarkD.nil {n0 D : Nat} {W W' : World} (h : MarkD n0 D W) (k : Keeps Nil W W') : MarkD n0 D W' := h.kept (KeptAll.nil k h.2.2)
theorem jnil {J : List UInt64 → World → Prop} {B : Nat} (hJ : OwnFrom B J) {pre : List UInt64} {W W' : World} (h : J pre W) (k : Keeps Nil W W') : J pre W' :=
  hJ pre W W' none h ⟨k.os, k.tape, k.output, k.size, fun i hi _ => k.block i hi (fun e => e)⟩ (fun r e => by cases e)

set_option maxRecDepth 100000 in
set_option maxHeartbeats 4000000 in
theorem nodeAll_nil {Ba Bn l : Nat} {w : World} {J : List UInt64 → World → Prop} (hJ : OwnFrom w.heap.size J) (h0 : J [] w) (hba : Bx w Nil Ba #[.int .u64 0] 25) :
    Calls Tryz.prog 163 #[.func (.yield l) #[] #[], .pointer (some ⟨Ba, 0, none⟩), .pointer (some ⟨Bn, 0, none⟩)] w fun e w' => (∃ v, e = .returned v) ∧ J [] w' := by
  replace hba := Lib.hid hba
  have HJ := Lib.hid (And.intro hJ h0)
  clear hJ h0
  have hst := Lib.hid (Step.refl Nil w)
  go_enter Tryz.func163, Tryz.ntmps163
  have c_Ba_0 := hba.out.cell 0 _ rfl
  have f_Ba_0 := hba.out.frz 0
  have l_Ba := hba.out.lt
  obtain ⟨W1, hW1⟩ : ∃ W, W = w.alloc (.cells #[.func (.yield l) #[] #[]] 168) := ⟨_, rfl⟩
  obtain ⟨B1, eB1⟩ : ∃ B, B = w.heap.size := ⟨_, rfl⟩
  replace hW1 := Lib.hid hW1
  replace eB1 := Lib.hid eB1
  go_wp2_with fail
  refine bodyPost_ret (results_none rfl _ _ _) rfl ?_
  clear c_Ba_0 f_Ba_0 l_Ba
  rw [← hW1.out]
  try rw [← eB1.out]
  have k1 : Keeps Nil w W1 := by rw [hW1.out]; exact alloc_keeps _ _
  have e0B1 : B1 = w.heap.size := by rw [eB1.out]
  have hB1 := Lib.hid (show Bx W1 Nil B1 #[.func (.yield l) #[] #[]] 168 by rw [hW1.out]; exact Bx.new Nil.lt _ _ e0B1)
  have gB1 := Lib.hid (show w.heap.size ≤ B1 by rw [e0B1]; exact hst.out.keeps.size)
  have nBaB1 := Lib.hid (show Ba < B1 by rw [e0B1]; exact hba.out.lt)
  replace hst := Lib.hid (hst.out.nil k1)
  replace hba := Lib.hid (hba.out.nil k1)
  clear k1 e0B1
  exact ⟨⟨_, rfl⟩, jnil HJ.out.1 HJ.out.2 hst.out.keeps⟩
set_option maxRecDepth 100000 in
set_option maxHeartbeats 4000000 in
theorem nodeAll_node {R : Nat → Prop} {n0 : Nat} {T : Option Addr} {f : UInt64 → UInt64} {N Ba Bn l : Nat} {x : UInt64} {L L2 : List UInt64} {w : World} {J : List UInt64 → World → Prop} (hx : x ≠ 0)
    (hn0 : n0 < w.heap.size) (hown : ∀ k, OwnN n0 w k → k < w.heap.size) (hfar : ∀ k, R k → k < w.heap.size ∧ ¬ OwnN n0 w k) (hT : ReadsK R (.pointer T) f N w)
    (hba : w.heap[Ba]? = some (.cells #[.int .u64 (x.toNat : Int)] 25 (0, 0)) ∧ ¬ OwnN n0 w Ba) (hbn : w.heap[Bn]? = some (.cells #[.pointer T] 153 (0, 0)) ∧ ¬ OwnN n0 w Bn)
    (ihl : ∀ (Ba Bn : Nat) (w : World), n0 < w.heap.size → (∀ k, OwnN n0 w k → k < w.heap.size) → (∀ k, R k → k < w.heap.size ∧ ¬ OwnN n0 w k) → ReadsK R (.pointer T) f N w →
      (w.heap[Ba]? = some (.cells #[.int .u64 ((f (x + 8)).toNat : Int)] 25 (0, 0)) ∧ ¬ OwnN n0 w Ba) → (w.heap[Bn]? = some (.cells #[.pointer T] 153 (0, 0)) ∧ ¬ OwnN n0 w Bn) → SeqAll Tryz.prog n0 163 #[.pointer (some ⟨Ba, 0, none⟩), .pointer (some ⟨Bn, 0, none⟩)] L w)
    (ihr : ∀ (Ba Bn : Nat) (w : World), n0 < w.heap.size → (∀ k, OwnN n0 w k → k < w.heap.size) → (∀ k, R k → k < w.heap.size ∧ ¬ OwnN n0 w k) → ReadsK R (.pointer T) f N w →
      (w.heap[Ba]? = some (.cells #[.int .u64 ((f (x + 16)).toNat : Int)] 25 (0, 0)) ∧ ¬ OwnN n0 w Ba) → (w.heap[Bn]? = some (.cells #[.pointer T] 153 (0, 0)) ∧ ¬ OwnN n0 w Bn) → SeqAll Tryz.prog n0 163 #[.pointer (some ⟨Ba, 0, none⟩), .pointer (some ⟨Bn, 0, none⟩)] L2 w)
    (hJ : OwnFrom w.heap.size J)
    (hY : ∀ pre x' W1, J pre W1 → pre.length < (L ++ x :: L2).length → YieldAt Fence.wide 0 Tryz.prog l (encU1 x') W1 fun e W' => e = .returned (.bool true) ∧ J (pre ++ [x']) W' ∧ KeptAll n0 W1 W') (h0 : J [] w) :
    Calls Tryz.prog 163 #[.func (.yield l) #[] #[], .pointer (some ⟨Ba, 0, none⟩), .pointer (some ⟨Bn, 0, none⟩)] w fun e w' => (∃ v, e = .returned v) ∧ J (L ++ x :: L2) w' := by
  replace ihl := Lib.hid ihl
  replace ihr := Lib.hid ihr
  replace hY := Lib.hid hY
  have HJ := Lib.hid hJ
  have HX := Lib.hid hx
  have hba' := Lib.hid (show Bx w Nil Ba #[.int .u64 (x.toNat : Int)] 25 from ⟨hba.1, fun e => e⟩)
  have hbn' := Lib.hid (show Bx w Nil Bn #[.pointer T] 153 from ⟨hbn.1, fun e => e⟩)
  obtain ⟨wa, hwa⟩ : ∃ W, W = w.alloc (.cells #[.func (.yield l) #[] #[]] 168) := ⟨_, rfl⟩
  have ka : Keeps Nil w wa := by rw [hwa]; exact alloc_keeps _ _
  have hno : ∀ {b : Nat} {o : Obj}, w.heap[b]? = some o ∧ ¬ OwnN n0 w b → wa.heap[b]? = some o ∧ ¬ OwnN n0 wa b := fun h => ⟨ka.at h.1 (fun e => e), fun e => h.2 ((KeptAll.nil ka hn0).old _ e (getElem?_lt h.1))⟩
  have hH := Lib.hid (show HoldA R n0 (.pointer T) f N Ba Bn w.heap.size l x wa from ⟨Nat.lt_of_lt_of_le hn0 ka.size, (KeptAll.nil ka hn0).lt hown, fun k hk => ⟨Nat.lt_of_lt_of_le (hfar k hk).1 ka.size, fun e => (hfar k hk).2 ((KeptAll.nil ka hn0).old _ e (hfar k hk).1)⟩,
    hT.keeps (fun k hk => (hfar k hk).1) ka, hno hba, hno hbn, by rw [hwa]; exact heap_new _ _, fun e => by
      have e2 : OwnN n0 w w.heap.size := (OwnN.iff (ka.block n0 hn0 (fun e => e)) _).1 e
      exact Nat.lt_irrefl _ (hown _ e2)⟩)
  have hj := Lib.hid (jnil hJ h0 ka)
  obtain ⟨By, hBy⟩ : ∃ b, b = w.heap.size := ⟨_, rfl⟩
  have hsz := Lib.hid ka.size
  rw [← hBy] at hH
  replace hBy := Lib.hid hBy
  replace hwa := Lib.hid hwa
  clear hx hn0 hown hfar hT hba hbn hJ h0 hno ka
  refine calls_marks Tryz.func163 rfl ?_
  simp only [Tryz.ntmps163, List.size_toArray, List.length_cons, List.length_nil, Nat.reduceAdd, Nat.reduceSub, Array.replicate_succ, Array.replicate_zero, List.push_toArray, List.append_toArray, List.nil_append, List.cons_append]
  have c1 := hba'.out.cell 0 _ rfl; have l1 := hba'.out.lt; have c2 := hbn'.out.cell 0 _ rfl; have l2 := hbn'.out.lt
  have d1 : ((x.toNat : Int) == (0 : Int)) = false := (unlike_u64 (a := x) (b := 0) HX.out).2
  gi_wp2_with fail
  rw [← hwa.out, ← hBy.out]
  clear c1 l1 c2 l2 d1 hba' hbn' hBy hwa
  have hBa := Lib.hid (show Bx wa Nil Ba #[.int .u64 (x.toNat : Int)] 25 from ⟨hH.out.ba.1, fun e => e⟩)
  have hBn := Lib.hid (show Bx wa Nil Bn #[.pointer T] 153 from ⟨hH.out.bn.1, fun e => e⟩)
  have hBy_ := Lib.hid (show Bx wa Nil By #[.func (.yield l) #[] #[]] 168 from ⟨hH.out.by_.1, fun e => e⟩)
  refine wpIn_wide.2 ?_
  have hkw := Lib.hid (Keeps.refl Nil wa)
  obtain ⟨W1, hW1⟩ : ∃ W, W = wa.drew := ⟨_, rfl⟩
  replace hW1 := Lib.hid hW1
  have kn : Keeps Nil wa W1 := by rw [hW1.out]; exact keeps_drew _
  replace hH := Lib.hid (hH.out.nil kn)
  replace hj := Lib.hid (jnil HJ.out hj.out kn)
  replace hkw := Lib.hid (hkw.out.trans' kn)
  replace hBa := Lib.hid (hBa.out.nil kn)
  replace hBn := Lib.hid (hBn.out.nil kn)
  replace hBy_ := Lib.hid (hBy_.out.nil kn)
  clear kn
  refine wp_region_held_drew (S := fun w' => w'.cell? ⟨Ba, 0, none⟩ = some (.int .u64 (x.toNat : Int)) ∧ w'.cell? ⟨Bn, 0, none⟩ = some (.pointer T) ∧ w'.cell? ⟨By, 0, none⟩ = some (.func (.yield l) #[] #[])) (by kernel_rfl) (by rw [← hW1.out]; exact ⟨hBa.out.cell 0 _ rfl, hBn.out.cell 0 _ rfl, hBy_.out.cell 0 _ rfl⟩) (fun hHeld => ?_)
  rw [← hW1.out] at hHeld ⊢
  refine wpAnyH_take (i := 0) (oi := _) (v := ?m1_v) rfl (by kernel_rfl) (by kernel_rfl) (by kernel_rfl) (fun _ _ _ h => h) (Or.inl ⟨by kernel_rfl, ?m1_h⟩) hHeld ?m1_r
  case m1_h => (intro w hSw; (try dsimp only at hSw); go_simp; try with_reducible rfl)
  try simp only [Act.put, List.getElem_toArray, List.getElem_cons_zero, List.setIfInBounds_toArray, List.set_cons_zero, List.set_cons_succ]
  refine wpAnyH_take (i := 1) (oi := _) (v := ?m2_v) rfl (by kernel_rfl) (by kernel_rfl) (by kernel_rfl) (fun _ _ _ h => h) (Or.inl ⟨by kernel_rfl, ?m2_h⟩) hHeld ?m2_r
  case m2_h => (intro w hSw; (try dsimp only at hSw); go_simp; try with_reducible rfl)
  try simp only [Act.put, List.getElem_toArray, List.getElem_cons_succ, List.getElem_cons_zero, List.setIfInBounds_toArray, List.set_cons_zero, List.set_cons_succ]
  refine wpAnyH_take (i := 2) (oi := _) (v := ?m3_v) rfl (by kernel_rfl) (by kernel_rfl) (by kernel_rfl) (fun _ _ _ h => h) (Or.inl ⟨by kernel_rfl, ?m3_h⟩) hHeld ?m3_r
  case m3_h => (intro w hSw; (try dsimp only at hSw); go_simp; try with_reducible rfl)
  try simp only [Act.put, List.getElem_toArray, List.getElem_cons_succ, List.getElem_cons_zero, List.setIfInBounds_toArray, List.set_cons_zero, List.set_cons_succ]
  refine wpAnyH_take (i := 3) (oi := _) (v := ?m4_v) rfl (by kernel_rfl) (by kernel_rfl) (by kernel_rfl) (fun _ _ _ h => h) (Or.inl ⟨by kernel_rfl, ?m4_h⟩) hHeld ?m4_r
  case m4_h => (intro w hSw; (try dsimp only at hSw); go_simp; try with_reducible rfl)
  try simp only [Act.put, List.getElem_toArray, List.getElem_cons_succ, List.getElem_cons_zero, List.setIfInBounds_toArray, List.set_cons_zero, List.set_cons_succ]
  obtain ⟨y1, zy1⟩ : ∃ y : UInt64, y = x + 8 := ⟨_, rfl⟩
  have q1 : IntKind.u64.wrap ((x.toNat : Int) + 8) = (y1.toNat : Int) := by rw [zy1]; exact u64_add x 8
  replace zy1 := Lib.hid zy1
  refine wpAnyH_take (i := 4) (oi := _) (v := ?m5_v) rfl (by kernel_rfl) (by kernel_rfl) (by kernel_rfl) (fun _ _ _ h => h) (Or.inl ⟨by kernel_rfl, ?m5_h⟩) hHeld ?m5_r
  case m5_h => (intro w hSw; (try dsimp only at hSw); go_simp; try with_reducible rfl)
  try simp only [Act.put, List.getElem_toArray, List.getElem_cons_succ, List.getElem_cons_zero, List.setIfInBounds_toArray, List.set_cons_zero, List.set_cons_succ]
  refine wpAnyH_ready (rs := [5]) (by kernel_rfl) (by simp) ?_
  refine (AllReadyH.cons (o := _) rfl (fun K hK => ?_) AllReadyH.nil)
  go_simp
  refine (hH.out.told.reads.loadC y1 _ rfl).mono ?_
  rintro _ W2 ⟨rfl, kn⟩
  replace hH := Lib.hid (hH.out.nil kn)
  replace hj := Lib.hid (jnil HJ.out hj.out kn)
  replace hkw := Lib.hid (hkw.out.trans' kn)
  replace hBa := Lib.hid (hBa.out.nil kn)
  replace hBn := Lib.hid (hBn.out.nil kn)
  replace hBy_ := Lib.hid (hBy_.out.nil kn)
  clear kn
  refine hK.out _ _ (⟨hBa.out.cell 0 _ rfl, hBn.out.cell 0 _ rfl, hBy_.out.cell 0 _ rfl⟩) (fun hHeld => ?_)
  clear hK K
  try simp only [Act.put, List.getElem_toArray, List.getElem_cons_succ, List.getElem_cons_zero, List.setIfInBounds_toArray, List.set_cons_zero, List.set_cons_succ]
  refine wpAnyH_ready (rs := [6]) (by kernel_rfl) (by simp) ?_
  refine (AllReadyH.cons (o := _) rfl (fun K hK => ?_) AllReadyH.nil)
  go_simp
  refine (nodeAll_any _ T (f y1) _ rfl).mono ?_
  rintro _ W3 ⟨rfl, hw⟩
  obtain ⟨B1, hB1⟩ : ∃ b, b = W2.heap.size := ⟨_, rfl⟩
  have kn : Keeps Nil W2 W3 := by rw [hw]; exact ((Keeps.refl Nil _).alloc _).alloc _
  have kB1 : W3.heap[B1]? = some (.cells #[.pointer T] 153 (0, 0)) := by rw [hw, hB1]; exact heap_old _ _ (heap_new _ _)
  have kB2 : W3.heap[B1 + 1]? = some (.cells #[.int .u64 ((f y1).toNat : Int)] 25 (0, 0)) := by rw [hw, hB1]; simpa using heap_new (World.alloc _ _) _
  have uB1 : ∀ k, OwnN n0 W3 k → k < B1 := fun k hk => by rw [hB1]; exact hH.out.own k ((OwnN.iff (kn.block n0 hH.out.lt0 (fun e => e)) k).1 hk)
  rw [← hB1]
  have HKB1 := Lib.hid (And.intro kB1 (And.intro kB2 uB1))
  clear kB1 kB2 uB1 hw hB1
  replace hH := Lib.hid (hH.out.nil kn)
  replace hj := Lib.hid (jnil HJ.out hj.out kn)
  replace hkw := Lib.hid (hkw.out.trans' kn)
  replace hBa := Lib.hid (hBa.out.nil kn)
  replace hBn := Lib.hid (hBn.out.nil kn)
  replace hBy_ := Lib.hid (hBy_.out.nil kn)
  clear kn
  refine hK.out _ _ (⟨hBa.out.cell 0 _ rfl, hBn.out.cell 0 _ rfl, hBy_.out.cell 0 _ rfl⟩) (fun hHeld => ?_)
  clear hK K
  try simp only [Act.put, List.getElem_toArray, List.getElem_cons_succ, List.getElem_cons_zero, List.setIfInBounds_toArray, List.set_cons_zero, List.set_cons_succ]
  refine wpAnyH_done (by kernel_rfl) ?_ _
  clear hHeld
  have hsz1 := Lib.hid (show wa.heap.size ≤ W3.heap.size from hkw.out.size)
  clear hBa hBn hBy_
  gi_wp2_with fail
  have ih1 := ihl.out
  rw [← zy1.out] at ih1
  replace ih1 := Lib.hid ih1
  have hIJ : OwnFrom W3.heap.size (fun q W => J q W ∧ KeptAll n0 W3 W) := fun s A B row hs hg hr => ⟨HJ.out _ A B row hs.1 hg (fun r e => ⟨Nat.le_trans (Nat.le_trans hsz.out hsz1.out) (hr r e).1, (hr r e).2⟩), hs.2.grown hH.out.lt0 hg (fun r e => (hr r e).1)⟩
  refine wpIn_rangeAll (gf := 163) (lb := #[.pointer (some ⟨B1 + 1, 0, none⟩), .pointer (some ⟨B1, 0, none⟩)]) rfl (enters_of Tryz.func163 (by kernel_rfl) rfl)
    (ih1.out (B1 + 1) B1 W3 hH.out.lt0 hH.out.own hH.out.far hH.out.told ⟨HKB1.out.2.1, fun e => by have := HKB1.out.2.2 _ e; omega⟩ ⟨HKB1.out.1, fun e => Nat.lt_irrefl _ (HKB1.out.2.2 _ e)⟩) hH.out.lt0 hH.out.own rfl
    (fun q W => J q W ∧ KeptAll n0 W3 W) hIJ ⟨hj.out, KeptAll.refl _ _⟩ (fun x' => { tmps := #[.func (.yield l) #[] #[], .pointer (some ⟨Ba, 0, none⟩), .pointer (some ⟨Bn, 0, none⟩), .pointer (some ⟨By, 0, none⟩), .int .u64 (x'.toNat : Int), undef, .int .u64 (x.toNat : Int), .bool false, .agg #[.pointer T], .pointer (some ⟨Bn, 0, none⟩), .pointer T, .int .u64 (x.toNat : Int), .int .u64 (y1.toNat : Int), .int .u64 ((f y1).toNat : Int), .func (.func 163) #[] #[.pointer (some ⟨B1 + 1, 0, none⟩), .pointer (some ⟨B1, 0, none⟩)], .int .u64 (x'.toNat : Int), undef, undef, undef, undef, undef, undef, undef, undef, undef, undef, undef, undef, undef, undef, undef, undef, undef, undef, undef, undef], defers := [] }) ?assign1 ?body1 ?done1
  case assign1 =>
    intro L' x' W K hK
    gi_wp2
    exact hK
  case body1 =>
    rintro L' q x' W ⟨hjq, hkq⟩ hql _ _
    have hHq := Lib.hid (hH.out.kept hkq)
    have c3 := cell_of_one hHq.out.by_.1
    obtain ⟨fn, tmps, assign, body, hy, hR⟩ := hY.out q x' W hjq (by simp; omega)
    dsimp only [encU1] at hy
    have HR := Lib.hid hR
    have HKQ := Lib.hid hkq
    clear hR hjq hkq hIJ
    gi_wp2_with fail
    refine ⟨rfl, (RoundIn.inside HR.out).mono ?_⟩
    rintro e W3 ⟨rfl, hj3, hk3⟩
    have H3 := Lib.hid (And.intro hj3 (And.intro (HKQ.out.trans hk3) hk3))
    clear hj3 hk3 hy
    gi_wp2_with fail
    exact ⟨H3.out.2.2, H3.out.1, H3.out.2.1⟩
  case done1 =>
    rintro D1 W4 hD1 ⟨hjn, hkn⟩ hde1 hno1
    replace hH := Lib.hid (hH.out.kept hkn)
    clear hIJ
    replace hj := Lib.hid hjn
    replace hkn := Lib.hid hkn
    clear hjn
    have hde1 := Lib.hid (show MarkD n0 D1 W4 from ⟨hde1, hno1, hH.out.lt0⟩)
    replace hkw := Lib.hid (Nat.le_trans hkw.out.size hkn.out.size)
    clear hkn
    have c3 := cell_of_one hH.out.by_.1; have c4 := cell_of_one hH.out.ba.1
    obtain ⟨fn, tmps, assign, body, hy, hR⟩ := hY.out L x W4 hj.out (by simp)
    dsimp only [encU1] at hy
    have HR := Lib.hid hR
    clear hR
    gi_wp2_with fail
    refine ⟨rfl, (RoundIn.wide HR.out).mono ?_⟩
    rintro e W5 ⟨rfl, hj5, hk5⟩
    replace hH := Lib.hid (hH.out.kept hk5)
    replace hde1 := Lib.hid (hde1.out.kept hk5)
    replace hkw := Lib.hid (Nat.le_trans hkw.out hk5.size)
    replace hj := Lib.hid hj5
    clear hj5 hk5 HR hy c3 c4
    gi_wp2_with fail
    refine wpIn_wide.2 ?_
    have hBa := Lib.hid (show Bx W5 Nil Ba #[.int .u64 (x.toNat : Int)] 25 from ⟨hH.out.ba.1, fun e => e⟩)
    have hBn := Lib.hid (show Bx W5 Nil Bn #[.pointer T] 153 from ⟨hH.out.bn.1, fun e => e⟩)
    have hBy_ := Lib.hid (show Bx W5 Nil By #[.func (.yield l) #[] #[]] 168 from ⟨hH.out.by_.1, fun e => e⟩)
    obtain ⟨W6, hW6⟩ : ∃ W, W = W5.drew := ⟨_, rfl⟩
    replace hW6 := Lib.hid hW6
    have kn : Keeps Nil W5 W6 := by rw [hW6.out]; exact keeps_drew _
    replace hH := Lib.hid (hH.out.nil kn)
    replace hj := Lib.hid (jnil HJ.out hj.out kn)
    replace hde1 := Lib.hid (hde1.out.nil kn)
    replace hkw := Lib.hid (Nat.le_trans hkw.out kn.size)
    replace hBa := Lib.hid (hBa.out.nil kn)
    replace hBn := Lib.hid (hBn.out.nil kn)
    replace hBy_ := Lib.hid (hBy_.out.nil kn)
    clear kn
    refine wp_region_held_drew (S := fun w' => w'.cell? ⟨Ba, 0, none⟩ = some (.int .u64 (x.toNat : Int)) ∧ w'.cell? ⟨Bn, 0, none⟩ = some (.pointer T) ∧ w'.cell? ⟨By, 0, none⟩ = some (.func (.yield l) #[] #[])) (by kernel_rfl) (by rw [← hW6.out]; exact ⟨hBa.out.cell 0 _ rfl, hBn.out.cell 0 _ rfl, hBy_.out.cell 0 _ rfl⟩) (fun hHeld => ?_)
    rw [← hW6.out] at hHeld ⊢
    refine wpAnyH_take (i := 0) (oi := _) (v := ?m6_v) rfl (by kernel_rfl) (by kernel_rfl) (by kernel_rfl) (fun _ _ _ h => h) (Or.inl ⟨by kernel_rfl, ?m6_h⟩) hHeld ?m6_r
    case m6_h => (intro w hSw; (try dsimp only at hSw); go_simp; try with_reducible rfl)
    try simp only [Act.put, List.getElem_toArray, List.getElem_cons_zero, List.setIfInBounds_toArray, List.set_cons_zero, List.set_cons_succ]
    refine wpAnyH_take (i := 1) (oi := _) (v := ?m7_v) rfl (by kernel_rfl) (by kernel_rfl) (by kernel_rfl) (fun _ _ _ h => h) (Or.inl ⟨by kernel_rfl, ?m7_h⟩) hHeld ?m7_r
    case m7_h => (intro w hSw; (try dsimp only at hSw); go_simp; try with_reducible rfl)
    try simp only [Act.put, List.getElem_toArray, List.getElem_cons_succ, List.getElem_cons_zero, List.setIfInBounds_toArray, List.set_cons_zero, List.set_cons_succ]
    refine wpAnyH_take (i := 2) (oi := _) (v := ?m8_v) rfl (by kernel_rfl) (by kernel_rfl) (by kernel_rfl) (fun _ _ _ h => h) (Or.inl ⟨by kernel_rfl, ?m8_h⟩) hHeld ?m8_r
    case m8_h => (intro w hSw; (try dsimp only at hSw); go_simp; try with_reducible rfl)
    try simp only [Act.put, List.getElem_toArray, List.getElem_cons_succ, List.getElem_cons_zero, List.setIfInBounds_toArray, List.set_cons_zero, List.set_cons_succ]
    refine wpAnyH_take (i := 3) (oi := _) (v := ?m9_v) rfl (by kernel_rfl) (by kernel_rfl) (by kernel_rfl) (fun _ _ _ h => h) (Or.inl ⟨by kernel_rfl, ?m9_h⟩) hHeld ?m9_r
    case m9_h => (intro w hSw; (try dsimp only at hSw); go_simp; try with_reducible rfl)
    try simp only [Act.put, List.getElem_toArray, List.getElem_cons_succ, List.getElem_cons_zero, List.setIfInBounds_toArray, List.set_cons_zero, List.set_cons_succ]
    obtain ⟨y2, zy2⟩ : ∃ y : UInt64, y = x + 16 := ⟨_, rfl⟩
    have q2 : IntKind.u64.wrap ((x.toNat : Int) + 16) = (y2.toNat : Int) := by rw [zy2]; exact u64_add x 16
    replace zy2 := Lib.hid zy2
    refine wpAnyH_take (i := 4) (oi := _) (v := ?m10_v) rfl (by kernel_rfl) (by kernel_rfl) (by kernel_rfl) (fun _ _ _ h => h) (Or.inl ⟨by kernel_rfl, ?m10_h⟩) hHeld ?m10_r
    case m10_h => (intro w hSw; (try dsimp only at hSw); go_simp; try with_reducible rfl)
    try simp only [Act.put, List.getElem_toArray, List.getElem_cons_succ, List.getElem_cons_zero, List.setIfInBounds_toArray, List.set_cons_zero, List.set_cons_succ]
    refine wpAnyH_ready (rs := [5]) (by kernel_rfl) (by simp) ?_
    refine (AllReadyH.cons (o := _) rfl (fun K hK => ?_) AllReadyH.nil)
    go_simp
    refine (hH.out.told.reads.loadC y2 _ rfl).mono ?_
    rintro _ W7 ⟨rfl, kn⟩
    replace hH := Lib.hid (hH.out.nil kn)
    replace hj := Lib.hid (jnil HJ.out hj.out kn)
    replace hde1 := Lib.hid (hde1.out.nil kn)
    replace hkw := Lib.hid (Nat.le_trans hkw.out kn.size)
    replace hBa := Lib.hid (hBa.out.nil kn)
    replace hBn := Lib.hid (hBn.out.nil kn)
    replace hBy_ := Lib.hid (hBy_.out.nil kn)
    clear kn
    refine hK.out _ _ (⟨hBa.out.cell 0 _ rfl, hBn.out.cell 0 _ rfl, hBy_.out.cell 0 _ rfl⟩) (fun hHeld => ?_)
    clear hK K
    try simp only [Act.put, List.getElem_toArray, List.getElem_cons_succ, List.getElem_cons_zero, List.setIfInBounds_toArray, List.set_cons_zero, List.set_cons_succ]
    refine wpAnyH_ready (rs := [6]) (by kernel_rfl) (by simp) ?_
    refine (AllReadyH.cons (o := _) rfl (fun K hK => ?_) AllReadyH.nil)
    go_simp
    refine (nodeAll_any _ T (f y2) _ rfl).mono ?_
    rintro _ W8 ⟨rfl, hw⟩
    obtain ⟨B3, hB3⟩ : ∃ b, b = W7.heap.size := ⟨_, rfl⟩
    have kn : Keeps Nil W7 W8 := by rw [hw]; exact ((Keeps.refl Nil _).alloc _).alloc _
    have kB3 : W8.heap[B3]? = some (.cells #[.pointer T] 153 (0, 0)) := by rw [hw, hB3]; exact heap_old _ _ (heap_new _ _)
    have kB4 : W8.heap[B3 + 1]? = some (.cells #[.int .u64 ((f y2).toNat : Int)] 25 (0, 0)) := by rw [hw, hB3]; simpa using heap_new (World.alloc _ _) _
    have uB3 : ∀ k, OwnN n0 W8 k → k < B3 := fun k hk => by rw [hB3]; exact hH.out.own k ((OwnN.iff (kn.block n0 hH.out.lt0 (fun e => e)) k).1 hk)
    rw [← hB3]
    have HKB3 := Lib.hid (And.intro kB3 (And.intro kB4 uB3))
    clear kB3 kB4 uB3 hw hB3
    replace hH := Lib.hid (hH.out.nil kn)
    replace hj := Lib.hid (jnil HJ.out hj.out kn)
    replace hde1 := Lib.hid (hde1.out.nil kn)
    replace hkw := Lib.hid (Nat.le_trans hkw.out kn.size)
    replace hBa := Lib.hid (hBa.out.nil kn)
    replace hBn := Lib.hid (hBn.out.nil kn)
    replace hBy_ := Lib.hid (hBy_.out.nil kn)
    clear kn
    refine hK.out _ _ (⟨hBa.out.cell 0 _ rfl, hBn.out.cell 0 _ rfl, hBy_.out.cell 0 _ rfl⟩) (fun hHeld => ?_)
    clear hK K
    try simp only [Act.put, List.getElem_toArray, List.getElem_cons_succ, List.getElem_cons_zero, List.setIfInBounds_toArray, List.set_cons_zero, List.set_cons_succ]
    refine wpAnyH_done (by kernel_rfl) ?_ _
    clear hHeld
    have hsz2 := Lib.hid (show wa.heap.size ≤ W8.heap.size from hkw.out)
    have hlt1 := Lib.hid (getElem?_lt hde1.out.1)
    clear hBa hBn hBy_
    gi_wp2_with fail
    have ih2 := ihr.out
    rw [← zy2.out] at ih2
    replace ih2 := Lib.hid ih2
    have hIJ : OwnFrom W8.heap.size (fun q W => J ((L ++ [x]) ++ q) W ∧ KeptAll n0 W8 W) := fun s A B row hs hg hr => ⟨HJ.out _ A B row hs.1 hg (fun r e => ⟨Nat.le_trans (Nat.le_trans hsz.out hsz2.out) (hr r e).1, (hr r e).2⟩), hs.2.grown hH.out.lt0 hg (fun r e => (hr r e).1)⟩
    refine wpIn_rangeAll (gf := 163) (lb := #[.pointer (some ⟨B3 + 1, 0, none⟩), .pointer (some ⟨B3, 0, none⟩)]) rfl (enters_of Tryz.func163 (by kernel_rfl) rfl)
      (ih2.out (B3 + 1) B3 W8 hH.out.lt0 hH.out.own hH.out.far hH.out.told ⟨HKB3.out.2.1, fun e => by have := HKB3.out.2.2 _ e; omega⟩ ⟨HKB3.out.1, fun e => Nat.lt_irrefl _ (HKB3.out.2.2 _ e)⟩) hH.out.lt0 hH.out.own rfl
      (fun q W => J ((L ++ [x]) ++ q) W ∧ KeptAll n0 W8 W) hIJ ⟨by rw [List.append_nil]; exact hj.out, KeptAll.refl _ _⟩ (fun x' => { tmps := #[.func (.yield l) #[] #[], .pointer (some ⟨Ba, 0, none⟩), .pointer (some ⟨Bn, 0, none⟩), .pointer (some ⟨By, 0, none⟩), undef, .int .u64 (x'.toNat : Int), .int .u64 (x.toNat : Int), .bool false, .agg #[.pointer T], .pointer (some ⟨Bn, 0, none⟩), .pointer T, .int .u64 (x.toNat : Int), .int .u64 (y1.toNat : Int), .int .u64 ((f y1).toNat : Int), .func (.func 163) #[] #[.pointer (some ⟨B1 + 1, 0, none⟩), .pointer (some ⟨B1, 0, none⟩)], undef, undef, undef, undef, undef, .func (.yield l) #[] #[], .int .u64 (x.toNat : Int), .bool true, .bool false, .agg #[.pointer T], .pointer (some ⟨Bn, 0, none⟩), .pointer T, .int .u64 (x.toNat : Int), .int .u64 (y2.toNat : Int), .int .u64 ((f y2).toNat : Int), .func (.func 163) #[] #[.pointer (some ⟨B3 + 1, 0, none⟩), .pointer (some ⟨B3, 0, none⟩)], .int .u64 (x'.toNat : Int), undef, undef, undef, undef], defers := [] }) ?assign2 ?body2 ?done2
    case assign2 =>
      intro L' x' W K hK
      gi_wp2
      exact hK
    case body2 =>
      rintro L' q x' W ⟨hjq, hkq⟩ hql _ _
      have hHq := Lib.hid (hH.out.kept hkq)
      have c3 := cell_of_one hHq.out.by_.1
      obtain ⟨fn, tmps, assign, body, hy, hR⟩ := hY.out ((L ++ [x]) ++ q) x' W hjq (by simp; omega)
      dsimp only [encU1] at hy
      have HR := Lib.hid hR
      have HKQ := Lib.hid hkq
      clear hR hjq hkq hIJ
      gi_wp2_with fail
      refine ⟨rfl, (RoundIn.inside HR.out).mono ?_⟩
      rintro e W3 ⟨rfl, hj3, hk3⟩
      have H3 := Lib.hid (And.intro hj3 (And.intro (HKQ.out.trans hk3) hk3))
      clear hj3 hk3 hy
      gi_wp2_with fail
      exact ⟨H3.out.2.2, by have := H3.out.1; simpa using this, H3.out.2.1⟩
    case done2 =>
      rintro D2 W9 hD2 ⟨hjn, hkn⟩ hde2 hno2
      replace hH := Lib.hid (hH.out.kept hkn)
      clear hIJ
      replace hj := Lib.hid hjn
      replace hkn := Lib.hid hkn
      clear hjn
      replace hde1 := Lib.hid (hde1.out.kept hkn.out)
      have c1 := HJ.out
      gi_wp2_with fail
      refine ⟨by simp, .inl ⟨_, _, rfl, run_takeDeferred hde2, ?_⟩⟩
      have hd3 : (W9.putObj D2 (.deferred none)).heap[D1]? = some (.deferred (some [])) := by
        rw [World.putObj_heap_other (fun e => by have := hlt1.out; omega)]; exact hde1.out.1
      refine ⟨by simp, .inl ⟨_, _, rfl, run_takeDeferred hd3, ?_⟩⟩
      refine ⟨_, results_none rfl _ _ _, ⟨_, rfl⟩, ?_⟩
      have hj9 : J (L ++ x :: L2) W9 := by have := hj.out; simpa using this
      exact HJ.out.putObj _ (HJ.out.putObj _ hj9 (by have := hsz.out; have := hsz2.out; omega) hde2 rfl) (by have := hsz.out; have := hsz1.out; omega) hd3 rfl

theorem nodeAll_seq {R : Nat → Prop} {n0 : Nat} {T : Option Addr} {f : UInt64 → UInt64} {N : Nat} : ∀ (t : Tr) {x : UInt64}, t.Rep f x → ∀ (Ba Bn : Nat) (w : World), n0 < w.heap.size → (∀ k, OwnN n0 w k → k < w.heap.size) → (∀ k, R k → k < w.heap.size ∧ ¬ OwnN n0 w k) → ReadsK R (.pointer T) f N w →
      (w.heap[Ba]? = some (.cells #[.int .u64 (x.toNat : Int)] 25 (0, 0)) ∧ ¬ OwnN n0 w Ba) → (w.heap[Bn]? = some (.cells #[.pointer T] 153 (0, 0)) ∧ ¬ OwnN n0 w Bn) → SeqAll Tryz.prog n0 163 #[.pointer (some ⟨Ba, 0, none⟩), .pointer (some ⟨Bn, 0, none⟩)] t.list w := by
  intro t
  induction t with
  | nil =>
    intro x hr Ba Bn w hn0 hown hfar hT hba hbn l J W hk hJ hY h0
    have hx : x = 0 := hr
    subst hx
    exact nodeAll_nil hJ h0 ⟨hk.at hba.1 (fun e => e), fun e => e⟩
  | node lt y rt i1 i2 =>
    intro x hr Ba Bn w hn0 hown hfar hT hba hbn l J W hk hJ hY h0
    obtain ⟨rfl, h2, h3, h4⟩ := hr
    have ka := KeptAll.nil hk hn0
    have hno : ∀ {b : Nat} {o : Obj}, w.heap[b]? = some o ∧ ¬ OwnN n0 w b → W.heap[b]? = some o ∧ ¬ OwnN n0 W b := fun h => ⟨ka.kept _ _ h.1 h.2, fun e => h.2 (ka.old _ e (getElem?_lt h.1))⟩
    exact nodeAll_node h2 (Nat.lt_of_lt_of_le hn0 hk.size) (ka.lt hown) (fun k e => ⟨Nat.lt_of_lt_of_le (hfar k e).1 hk.size, fun e' => (hfar k e).2 (ka.old _ e' (hfar k e).1)⟩) (hT.keeps (fun k e => (hfar k e).1) hk) (hno hba) (hno hbn)
      (i1 h3) (i2 h4) hJ hY h0

set_option maxRecDepth 100000 in
set_option maxHeartbeats 4000000 in
theorem All_any {S : Nat → Prop} {w : World} {T : Option Addr} {f : UInt64 → UInt64} {N : Nat} {t : Tr} (hT : ReadsK S (.pointer T) f N w) (hS : ∀ k, S k → k < w.heap.size) (hr : t.Rep f (f 32)) (hlen : t.list.length < 4294967296) :
    Calls Tryz.prog 50 #[.pointer T] w fun e w' => ∃ v, e = .returned v ∧ Own kU w' w.heap.size v t.list ∧ Keeps Nil w w' := by
  have HT := Lib.hid (And.intro hT hS)
  have HR := Lib.hid hr
  have HL := Lib.hid hlen
  have hst := Lib.hid (Step.refl Nil w)
  clear hT hS hr hlen
  go_enter Tryz.func50, Tryz.ntmps50
  go_wp2_with fail
  refine (hRoot_any (HT.out.1.keeps HT.out.2 hst.out.keeps).reads).mono ?_
  rintro _ W1 ⟨rfl, kn⟩
  replace hst := Lib.hid (hst.out.nil kn)
  clear kn
  go_wp2_with fail
  have hsz1 := Lib.hid hst.out.keeps.size
  have hT1 := Lib.hid (HT.out.1.keeps HT.out.2 hst.out.keeps)
  refine (nodeAll_any _ T (f 32) _ rfl).mono ?_
  rintro _ W2 ⟨rfl, hw⟩
  obtain ⟨B1, hB1⟩ : ∃ b, b = W1.heap.size := ⟨_, rfl⟩
  have kn : Keeps Nil W1 W2 := by rw [hw]; exact ((Keeps.refl Nil _).alloc _).alloc _
  have kB1 : W2.heap[B1]? = some (.cells #[.pointer T] 153 (0, 0)) := by rw [hw, hB1]; exact heap_old _ _ (heap_new _ _)
  have kB2 : W2.heap[B1 + 1]? = some (.cells #[.int .u64 ((f 32).toNat : Int)] 25 (0, 0)) := by rw [hw, hB1]; simpa using heap_new (World.alloc _ _) _
  rw [← hB1]
  rw [← hB1] at hsz1
  have HK := Lib.hid (And.intro kB1 kB2)
  replace hsz1 := Lib.hid hsz1.out
  clear kB1 kB2 hw hB1
  replace hst := Lib.hid (hst.out.nil kn)
  clear kn
  go_wp2_with fail
  refine (CollectAll_any (xs := t.list) (enters_of Tryz.func163 (by kernel_rfl) rfl) HL.out (fun w' n0 hk hge hlt hown => nodeAll_seq t HR.out (B1 + 1) B1 w' hlt (fun k e => (hown k e).2) (fun k e => ⟨Nat.lt_of_lt_of_le (Nat.lt_of_lt_of_le (HT.out.2 k e) hst.out.keeps.size) hk.size, fun e' => by have := (hown k e').1; have := HT.out.2 k e; have := hst.out.keeps.size; omega⟩) ((HT.out.1.keeps HT.out.2 hst.out.keeps).keeps (fun k e => Nat.lt_of_lt_of_le (HT.out.2 k e) hst.out.keeps.size) hk) ⟨hk.at HK.out.2 (fun e => e), fun e' => by have := (hown _ e').1; have := getElem?_lt HK.out.2; omega⟩ ⟨hk.at HK.out.1 (fun e => e), fun e' => by have := (hown _ e').1; have := getElem?_lt HK.out.1; omega⟩)).mono ?_
  rintro _ W3 ⟨v, rfl, ho, kn⟩
  have HO := Lib.hid (ho.base (show w.heap.size ≤ _ from hst.out.keeps.size))
  clear ho
  replace hst := Lib.hid (hst.out.nil kn)
  clear kn
  go_wp2_with fail
  go_ret
  exact ⟨_, rfl, HO.out, hst.out.keeps⟩
end Go.Proofs.YtefpbljekfkefaaGreat

/- Trees: what is sorted, checked, built, found: plain laws. -/
namespace Go.Proofs.YtefpbljekfkefaaGreat
open Go.RowKit Go.Sort PT

theorem mixU_inj (a b : UInt64) (h : mixU a = mixU b) : a = b := by
  have e : ∀ x : UInt64, x * goldU * 17428512612931826493 = x := fun x => by
    rw [UInt64.mul_assoc, show goldU * 17428512612931826493 = (1 : UInt64) from by decide, UInt64.mul_one]
  have h2 : a * goldU * 17428512612931826493 = b * goldU * 17428512612931826493 := congrArg (· * 17428512612931826493) h
  rw [e, e] at h2
  exact h2

/-! ### what is sorted -/
theorem mem_sortF {cf : UInt64 → UInt64 → Int} {l : List UInt64} {x : UInt64} : x ∈ sortF cf l ↔ x ∈ l := by
  unfold sortF
  exact List.mem_mergeSort
theorem nodup_sortF {cf : UInt64 → UInt64 → Int} {l : List UInt64} (h : l.Nodup) : (sortF cf l).Nodup := by
  unfold sortF
  exact (List.mergeSort_perm l _).nodup_iff.2 h
theorem sortF_sorted (f : UInt64 → UInt64) {l : List UInt64} (h : l.Nodup) : Sorted (ltF szU f) (sortF (cmpF f) l) := by
  have hp : (sortF (cmpF f) l).Pairwise (fun x y => (!(ltOf (cmpF f)) y x) = true) := by
    unfold sortF
    refine List.pairwise_mergeSort (le := fun x y => !(ltOf (cmpF f)) y x) (fun a b c h1 h2 => ?_) (fun a b => ?_) l
    · simp only [Bool.not_eq_true', ltOf_cmpF] at h1 h2 ⊢
      have a1 : ¬ _ := fun e => by rw [ltF, ltK_iff.2 e] at h1; cases h1
      have a2 : ¬ _ := fun e => by rw [ltF, ltK_iff.2 e] at h2; cases h2
      cases h3 : ltF szU f c a with
      | false => rfl
      | true =>
        have a3 := ltK_iff.1 h3
        omega
    · simp only [Bool.or_eq_true, Bool.not_eq_true', ltOf_cmpF]
      cases h1 : ltF szU f b a with
      | false => exact .inl rfl
      | true => exact .inr ((ltF_ord szU f).asymm h1)
  have hn := nodup_sortF (cf := cmpF f) h
  unfold Sorted
  unfold List.Nodup at hn
  refine (hp.and hn).imp (fun {a b} e => ?_)
  obtain ⟨e1, e2⟩ := e
  have e1 : ltF szU f b a = false := by simpa [ltOf_cmpF] using e1
  cases e3 : ltF szU f a b with
  | true => rfl
  | false => exact absurd ((ltF_ord szU f).tot a b e3 e1) e2
theorem sortF_eq {f : UInt64 → UInt64} {l k : List UInt64} (hl : l.Nodup) (hk : Sorted (ltF szU f) k) (h : ∀ x, x ∈ k ↔ x ∈ l) : sortF (cmpF f) l = k :=
  Sorted.unique (ltF_ord szU f) (sortF_sorted f hl) hk (fun x => by rw [mem_sortF, h])
/-- keys alike: sorted alike -/
theorem ltF_same {f g : UInt64 → UInt64} {x y : UInt64} (hx : g x = f x) (hy : g y = f y) : ltF szU g x y = ltF szU f x y := by unfold ltF keyF; rw [hx, hy]
theorem sorted_same {f g : UInt64 → UInt64} {k : List UInt64} (h : Sorted (ltF szU f) k) (hg : ∀ x ∈ k, g x = f x) : Sorted (ltF szU g) k := by
  refine List.Pairwise.imp_of_mem (fun {a b} ha hb e => ?_) h
  rw [ltF_same (hg a ha) (hg b hb)]; exact e

/-! ### what is checked -/
theorem rep_of_all {f : UInt64 → UInt64} : ∀ {t : Tr}, (∀ x ∈ t.list, x ≠ 0) → (allP f (putsT t) = true ↔ t.Rep f t.root)
  | .nil, _ => by simp [putsT, allP, Tr.Rep, Tr.root]
  | .node l x r, h => by
    have h1 := rep_of_all (f := f) (t := l) (fun y hy => h y (by simp [Tr.list, hy]))
    have h2 := rep_of_all (f := f) (t := r) (fun y hy => h y (by simp [Tr.list, hy]))
    have hx : x ≠ 0 := h x (by simp [Tr.list])
    have e : allP f (putsT (.node l x r)) = (allP f (putsT l) && (f (x + 8) == l.root && (allP f (putsT r) && f (x + 16) == r.root))) := by simp [putsT, allP]
    rw [e]
    simp only [Bool.and_eq_true, beq_iff_eq, h1, h2]
    constructor
    · rintro ⟨a, b, c, d⟩
      exact ⟨rfl, hx, by rw [b]; exact a, by rw [d]; exact c⟩
    · rintro ⟨_, _, a, b⟩
      have ea := Tr.root_rep a
      have eb := Tr.root_rep b
      exact ⟨by rw [← ea]; exact a, ea, by rw [← eb]; exact b, eb⟩
theorem checkT_rep {f : UInt64 → UInt64} {t : Tr} (h : ∀ x ∈ t.list, x ≠ 0) : checkT f t = true ↔ t.Rep f (f 32) := by
  unfold checkT
  rw [Bool.and_eq_true, rep_of_all h, beq_iff_eq]
  constructor
  · rintro ⟨a, b⟩; rw [b]; exact a
  · intro a
    have e := Tr.root_rep a
    exact ⟨by rw [← e]; exact a, e⟩
/-- a tree in words is that of its list, and of no other -/
theorem checkT_is {f : UInt64 → UInt64} {t T : Tr} (h : t.Rep f (f 32)) (ht : t.Heap mixU) (hT : T.Heap mixU) (hn : t.list.Nodup) (hz : ∀ x ∈ T.list, x ≠ 0) : checkT f T = true ↔ T.list = t.list := by
  rw [checkT_rep hz]
  constructor
  · intro k
    have hu : ∀ {t u : Tr} {a : UInt64}, t.Rep f a → u.Rep f a → t = u := by
      intro t
      induction t with
      | nil => intro u a h k; have h' : a = 0 := h; subst h'; exact (Tr.rep_zero k).symm
      | node l x r i1 i2 =>
        intro u a h k
        obtain ⟨rfl, h2, h3, h4⟩ := h
        obtain ⟨l', r', rfl⟩ := Tr.rep_pos k h2
        obtain ⟨_, _, k3, k4⟩ := k
        rw [i1 h3 k3, i2 h4 k4]
    rw [hu h k]
  · intro e
    rw [← Tr.Heap.unique ht hT e.symm hn]
    exact h

/-! ### what is built -/
theorem stF_other (n : Nat) (f : UInt64 → UInt64) {o off : UInt64} (v : UInt64) (h : o ≠ off) : stF n f off v o = f o := by
  unfold stF
  split
  · exact upd_ne _ _ h
  · rfl
theorem stAll_app (n : Nat) (f : UInt64 → UInt64) (ps qs : List Put) : stAll n f (ps ++ qs) = stAll n (stAll n f ps) qs := by simp [stAll]
theorem stAll_out {n : Nat} (t : Tr) : ∀ (f : UInt64 → UInt64), Out t.list f (stAll n f (putsT t)) := by
  induction t with
  | nil => intro f; exact Out.refl _ _
  | node l x r i1 i2 =>
    intro f
    have e : stAll n f (putsT (.node l x r)) = stF n (stAll n (stF n (stAll n f (putsT l)) (x + 8) l.root) (putsT r)) (x + 16) r.root := by
      rw [putsT, stAll_app]
      show stAll n (stF n (stAll n f (putsT l)) (x + 8) l.root) (putsT r ++ [(x + 16, r.root)]) = _
      rw [stAll_add]
    rw [e]
    intro o ho
    have hx := ho x (by simp [Tr.list])
    rw [stF_other n _ _ hx.2, i2 _ o (fun y hy => ho y (by simp [Tr.list, hy])), stF_other n _ _ hx.1, i1 _ o (fun y hy => ho y (by simp [Tr.list, hy]))]
theorem stAll_rep {n : Nat} {X : List UInt64} (hX : Spot n X) : ∀ (t : Tr) (f : UInt64 → UInt64), (∀ x ∈ t.list, x ∈ X) → t.list.Nodup → t.Rep (stAll n f (putsT t)) t.root := by
  intro t
  induction t with
  | nil => intro f _ _; rfl
  | node l x r i1 i2 =>
    intro f ht hn
    have e : stAll n f (putsT (.node l x r)) = stF n (stAll n (stF n (stAll n f (putsT l)) (x + 8) l.root) (putsT r)) (x + 16) r.root := by
      rw [putsT, stAll_app]
      show stAll n (stF n (stAll n f (putsT l)) (x + 8) l.root) (putsT r ++ [(x + 16, r.root)]) = _
      rw [stAll_add]
    rw [e]
    have hx : x ∈ X := ht x (by simp [Tr.list])
    have tl : ∀ y ∈ l.list, y ∈ X := fun y hy => ht y (by simp [Tr.list, hy])
    have tr : ∀ y ∈ r.list, y ∈ X := fun y hy => ht y (by simp [Tr.list, hy])
    simp only [Tr.list] at hn
    obtain ⟨d1, d2, d3⟩ := List.nodup_append.1 hn
    obtain ⟨d4, d5⟩ := List.nodup_cons.1 d2
    have nl : x ∉ l.list := fun h => d3 x h x (by simp) rfl
    have a1 := i1 f tl d1
    generalize stAll n f (putsT l) = g at a1 ⊢
    have a2 : l.Rep (stF n g (x + 8) l.root) (stF n g (x + 8) l.root (x + 8)) := by
      have e1 : stF n g (x + 8) l.root (x + 8) = l.root := by rw [hX.st8 hx, upd_same]
      rw [e1]
      exact hX.frame a1 (hX.out8 hx (Y := [x]) (by simp) g l.root) (fun y hy => by rw [List.mem_singleton.1 hy]; exact hx) tl (fun y hy h => by rw [List.mem_singleton.1 h] at hy; exact nl hy)
    generalize stF n g (x + 8) l.root = g2 at a2 ⊢
    have a3 := i2 g2 tr d5
    have o3 := stAll_out (n := n) r g2
    generalize stAll n g2 (putsT r) = g3 at a3 o3 ⊢
    have e2 : g3 (x + 8) = g2 (x + 8) := hX.left8 o3 tr hx d4
    have a4 : l.Rep g3 (g3 (x + 8)) := by
      rw [e2]
      exact hX.frame a2 o3 tr tl (fun y hy h => d3 y hy y (by simp [h]) rfl)
    obtain ⟨b1, b2, b3, b4⟩ := hX.node16 hx a4 a3 tl tr nl d4
    exact ⟨rfl, b2, b3, b4⟩

/-! ### what is found behind a key -/
theorem aft_rep {f : UInt64 → UInt64} {k : UInt64 × UInt64} : ∀ {t : Tr} {a best : UInt64}, t.Rep f a → Sorted (ltF szU f) t.list →
    ∃ d, AftR szU f k a best ((t.list.find? (fun y => ltK k (keyF szU f y))).getD best) d
  | .nil, a, best, h, _ => by
    have ha : a = 0 := h
    subst ha
    exact ⟨0, by simpa [Tr.list] using AftR.nil f k best⟩
  | .node l x r, a, best, h, hs => by
    obtain ⟨rfl, h2, h3, h4⟩ := h
    simp only [Tr.list] at hs ⊢
    obtain ⟨s1, s2, s3⟩ := List.pairwise_append.1 hs
    obtain ⟨s4, s5⟩ := List.pairwise_cons.1 s2
    cases hk : ltK k (keyF szU f a) with
    | true =>
      obtain ⟨d, hd⟩ := aft_rep (k := k) (best := a) h3 s1
      refine ⟨d + 1, .step h2 ?_⟩
      rw [if_pos hk, sideF, if_pos hk]
      have e : ((l.list ++ a :: r.list).find? (fun y => ltK k (keyF szU f y))).getD best = (l.list.find? (fun y => ltK k (keyF szU f y))).getD a := by
        rw [List.find?_append, List.find?_cons, hk]
        cases l.list.find? (fun y => ltK k (keyF szU f y)) <;> rfl
      rw [e]
      exact hd
    | false =>
      obtain ⟨d, hd⟩ := aft_rep (k := k) (best := best) h4 s5
      refine ⟨d + 1, .step h2 ?_⟩
      rw [if_neg (by rw [hk]; decide), sideF, if_neg (by rw [hk]; decide)]
      have hl : l.list.find? (fun y => ltK k (keyF szU f y)) = none := by
        rw [List.find?_eq_none]
        intro y hy e
        have e1 := ltK_iff.1 e
        have e2 := ltK_iff.1 (s3 y hy a (by simp))
        have : ltK k (keyF szU f a) = true := ltK_iff.2 (by omega)
        rw [hk] at this; cases this
      have e : ((l.list ++ a :: r.list).find? (fun y => ltK k (keyF szU f y))).getD best = (r.list.find? (fun y => ltK k (keyF szU f y))).getD best := by
        rw [List.find?_append, List.find?_cons, hk, hl]
        rfl
      rw [e]
      exact hd
end Go.Proofs.YtefpbljekfkefaaGreat
