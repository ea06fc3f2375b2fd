/- DrawnD, DrawnE, TreeS, SortL, TreeSo, TreeCk, TreeBd, AppA, NodeAll: written short. -/
import Derived.Test.YtefpbljekfkefaaGreatS14
import Derived.Test.YtefpbljekfkefaaGreatS01
import Derived.Test.YtefpbljekfkefaaGreatS10
import Derived.Sort.Grow
import Derived.Deep.Draws
import Derived.Test.YtefpbljekfkefaaGreatS02
import Derived.Shelf.SlSortCmp.NoneTotal
import Derived.Shelf.Lay
import Derived.Ground.SlsfProg
import Derived.Test.YtefpbljekfkefaaGreatS05
import Derived.Test.YtefpbljekfkefaaGreatS12
set_option maxRecDepth 100000
set_option maxHeartbeats 8000000
namespace Go.Proofs.YtefpbljekfkefaaGreat
section
open Go
def stepdW : Stepped → World
 | .next m => m.world
 | .ended _ w => w
theorem waitingAt_drawn {rest : Rest} {cases : Array CommCase} {w w' : World} (h : waitingAt rest cases w = some w') : w'.drawn = w.drawn := by
 unfold waitingAt at h
 split at h
 ·split at h
  · cases h; rfl
  · cases h
 ·cases h; rfl
theorem communicate_drawn (p : Program) (rest : Rest) (gs : Array Goroutine) (i : Nat) (g : Goroutine) (cases : Array CommCase) (b : Bool) (shape : CommShape) (w : World) :
    w.drawn ≤ (stepdW (communicate p rest gs i g cases b shape w).1).drawn := by
  unfold communicate
  dsimp only
  split
  · exact Nat.le_refl _
  · split
    · split
      · split
        · next e => show _ ≤ World.drawn _; rw [← waitingAt_drawn e]; exact Nat.le_refl _
        · exact Nat.le_refl _
      · exact Nat.le_refl _
    · split
      · exact run_halt (by assumption)
      · next k c way w1 e =>
        have h1 := run_ok e
        clear e
        split
        · split
          · next e2 => exact Nat.le_trans h1 (run_halt e2)
          · exact h1
        · exact h1
        · exact h1
        · split
          · exact h1
          · split
            · next e2 => have h2 := run_ok e2; exact Nat.le_trans h1 h2
            · next e2 => exact Nat.le_trans h1 (run_halt e2)
        · exact h1
        · exact h1
        · exact h1
theorem look_drawn (p : Program) (gs : Array Goroutine) (rest : Rest) (w : World) : w.drawn ≤ (stepdW (look p gs rest w)).drawn := by
  unfold look
  dsimp only
  split
  · split
    · exact Nat.le_refl _
    · split
      · exact Nat.le_refl _
      · split
        · next e => have h := run_ok e; exact h
        · exact run_halt (by assumption)
        · exact run_halt (by assumption)
  · exact Nat.le_refl _
theorem serve_drawn (p : Program) (m : Machine) (k : Nat) : m.world.drawn ≤ (stepdW (serve p m k)).drawn := by
 unfold serve
 split
 ·exact Nat.le_refl _
 ·exact Nat.le_refl _
 ·dsimp only
  split
  · exact Nat.le_refl _
  · exact Nat.le_refl _
theorem drain_w (w : World) (c : Nat) : (drain w c).2.drawn = w.drawn := by unfold drain; split <;> rfl
theorem retime_w (m : Machine) (k : Nat) (t : Timer) (a b : Nat) : (retime m k t a b).2.world.drawn = m.world.drawn := by
 unfold retime
 dsimp only
 split
 · exact drain_w _ _
 · rfl
theorem timerOp_drawn {m m' : Machine} {op : TimerOp} {v : Value} (h : timerOp m op = .ok (v, m')) : m.world.drawn ≤ m'.world.drawn := by
  unfold timerOp at h
  split at h
  · split at h
    · cases h; exact Nat.le_refl _
    · split at h
      · split at h
        · cases h
        · cases h; exact Nat.le_refl _
      · cases h
  · unfold timerOp.named at h
    split at h
    · simp only [Except.ok.injEq] at h
      have := congrArg (fun x => x.2.world.drawn) h
      simp only [retime_w] at this
      omega
    · cases h
  · split at h
    · next m1 e =>
      have h1 : m1.world.drawn = m.world.drawn := by
        unfold timerOp.opened at e
        split at e
        · split at e
          · cases e; rfl
          · cases e
        · cases e; rfl
      unfold timerOp.named at h
      split at h
      · simp only [Except.ok.injEq] at h
        have := congrArg (fun x => x.2.world.drawn) h
        simp only [retime_w] at this
        omega
      · cases h
    · cases h
  · cases h; exact Nat.le_refl _
theorem runTM_drawn (p : Program) (m : Machine) (i : Nat) (l : Bool) : m.world.drawn ≤ (stepdW (Go.runT p m i l).1).drawn := by
 unfold Go.runT
 dsimp only
 generalize m.gs.swapAt! i { (default : Goroutine) with status := .finished } = x
 rcases x with ⟨g, gs⟩
 dsimp only
 have h := stepG_drawn p (i == 0) g m.world l
 generalize stepG p (i == 0) g m.world l = s at h ⊢
 cases s
 all_goals dsimp only [stepW] at h ⊢
 ·exact h
 ·exact Nat.le_trans h (communicate_drawn _ _ _ _ _ _ _ _ _)
 ·exact h
 ·split <;> exact h
 ·split
  · next e => exact Nat.le_trans h (timerOp_drawn e)
  · exact h
  · exact h
  · exact h
 ·exact h
 ·exact h
 ·split <;> exact h
 ·exact Nat.le_trans h (look_drawn _ _ _ _)
 ·exact h
 ·exact h
def Up (n : Nat) : Stepped → Prop
 | .next m => n ≤ m.world.drawn
 | .ended _ _ => True
theorem Up.of {n : Nat} {s : Stepped} (h : n ≤ (stepdW s).drawn) : Up n s := by
 cases s
 · exact h
 · trivial
def UpM (n : Nat) : Move → Prop
 | .goroutine m _ => n ≤ m.world.drawn
 | .machine s _ => Up n s
theorem askOn_up (p : Program) (m : Machine) : UpM m.world.drawn (askOn p m) := by
  have pick : ∀ (n : Nat) (m : Machine) (rs : List Nat), n ≤ m.world.drawn → UpM n (match (choose (.sched rs.length)).run p m.world with
      | .halt _ w => .machine (.ended (.stuck "sched" "") w)
      | .ok k world =>
        if rs.length ≤ 1 then .goroutine { m with world } (rs.getD k 0) else
        match (choose (.extern "sched.slice" 65536)).run p world with
        | .halt _ w => .machine (.ended (.stuck "sched.slice" "") w)
        | .ok n world => .goroutine { m with world, rest := { m.rest with slice := if n = 0 then none else some (rs.getD k 0, n) } } (rs.getD k 0)) := fun n m rs hn => by
    split
    · trivial
    · next e =>
      have h := Nat.le_trans hn (run_ok e)
      split
      · exact h
      · split
        · trivial
        · next e2 => have h2 := run_ok e2; exact Nat.le_trans h h2
  unfold askOn
  dsimp only
  split
  · trivial
  · next k0 w0 e =>
    have h := run_ok e
    split
    · exact Up.of (Nat.le_trans h (serve_drawn p { m with world := w0 } _))
    · split
      · split
        · exact h
        · split
          · exact h
          · split <;> trivial
      · split
        · exact pick _ { m with world := w0 } _ h
        · split
          · trivial
          · next e2 => have h2 := run_ok e2; exact pick _ { m with world := _ } _ (Nat.le_trans h h2)
          · next e2 => have h2 := run_ok e2; exact Nat.le_trans h h2
          · next e2 => have h2 := run_ok e2; exact pick _ (Machine.advanceTo { m with world := _ } _) _ (Nat.le_trans h h2)
theorem ask_up (p : Program) (m : Machine) : UpM m.world.drawn (ask p m) := by
  unfold ask
  split
  · split
    · trivial
    · next w0 e =>
      have h := run_ok e
      have h2 := look_drawn p m.gs m.rest w0
      split
      · next m1 e2 =>
        rw [e2] at h2
        have h3 := askOn_up p m1
        have h4 : m.world.drawn ≤ m1.world.drawn := Nat.le_trans h h2
        revert h3
        generalize askOn p m1 = x
        intro h3
        cases x with
        | goroutine m2 i => exact Nat.le_trans h4 h3
        | machine s ops => cases s with
          | next m2 => exact Nat.le_trans h4 h3
          | ended o w => trivial
      · next e2 => exact Up.of (Nat.le_trans h h2)
    · next w0 _ e =>
      have h := run_ok e
      have h3 := askOn_up p { m with world := w0 }
      revert h3
      generalize askOn p { m with world := w0 } = x
      intro h3
      cases x with
      | goroutine m2 i => exact Nat.le_trans h h3
      | machine s ops => cases s with
        | next m2 => exact Nat.le_trans h h3
        | ended o w => trivial
  · exact askOn_up p m
theorem move_up (p : Program) (m : Machine) : UpM m.world.drawn (move p m) := by
 unfold move
 split
 ·split
  ·exact Nat.le_refl _
  ·trivial
 ·split
  ·split
   · exact Nat.le_refl _
   · exact ask_up p { m with rest := { m.rest with slice := none } }
  ·exact ask_up p m
theorem step_up {p : Program} {m m' : Machine} (h : step p m = .next m') : m.world.drawn ≤ m'.world.drawn := by
 have h1 := move_up p m
 unfold step stepT at h
 revert h h1
 generalize move p m = x
 intro h h1
 cases x with
 | goroutine m1 i =>
   have h2 := runTM_drawn p m1 i true
   dsimp only at h
   rw [h] at h2
   exact Nat.le_trans h1 h2
 | machine s ops =>
   dsimp only at h
   subst h
   exact h1
theorem runN_up {p : Program} : ∀ (n : Nat) {m m' : Machine}, runN p n m = .next m' → m.world.drawn ≤ m'.world.drawn
 | 0, m, m', h => by
   simp only [runN, Stepped.next.injEq] at h
   rw [h]; exact Nat.le_refl _
 | n + 1, m, m', h => by
   simp only [runN] at h
   split at h
   · next m1 e => exact Nat.le_trans (step_up e) (runN_up n h)
   · next e => exact absurd h (e _)
theorem Calls.drawn {P : Program} {f : FuncId} {args : Array Value} {w : World} {R : Ending → World → Prop} (h : Calls P f args w R) (hr : ∀ e w', R e w' → ∃ v, e = .returned v) :
  Calls P f args w fun e w' => R e w' ∧ w.drawn ≤ w'.drawn := by
 intro cs
 obtain ⟨e, w', fr, hR, hc, hf, hl⟩ := h cs
 obtain ⟨v, rfl⟩ := hr _ _ hR
 refine ⟨_, w', fr, ⟨hR, ?_⟩, hc, hf, hl⟩
 obtain ⟨n, hn⟩ : Steps P _ _ := hc
 exact runN_up n hn
theorem Keeps.growth {w w' : World} (k : Keeps Nil w w') (hd : w.drawn ≤ w'.drawn) : ∃ q os', w' = Sort.grow (w.drewN q) os' := by
 refine ⟨w'.drawn - w.drawn, w'.heap.extract w.heap.size w'.heap.size, ?_⟩
 obtain ⟨h1, h2, h3, h4, h5⟩ := k
 have hh : w'.heap = w.heap ++ w'.heap.extract w.heap.size w'.heap.size := by
  apply Array.ext_getElem?
  intro i
  rw [Array.getElem?_append]
  split
  ·next hi => exact h5 i hi (fun e => e)
  ·next hi =>
   rw [Array.getElem?_extract]
   by_cases hl : i < w'.heap.size
   · rw [if_pos (by omega), show w.heap.size + (i - w.heap.size) = i by omega]
   · rw [if_neg (by omega), Array.getElem?_eq_none (by omega)]
 obtain ⟨heap, tape, drawn, os, output⟩ := w
 obtain ⟨heap', tape', drawn', os', output'⟩ := w'
 simp only at h1 h2 h3 hd hh
 subst h1 h2 h3
 simp only [Sort.grow, World.drewN, World.mk.injEq, true_and, and_true]
 exact ⟨hh, by omega⟩
end
section
open Go.RowKit PT
def cmpF (f : UInt64 → UInt64) (x y : UInt64) : Int := cmpK (sizeF f x) x (sizeF f y) y
theorem sorted1_any {w : World} {a : Option Addr} {f : UInt64 → UInt64} {N B : Nat} (h : Reads (.pointer a) f N w) (hB : Bx w Nil B #[.pointer a] 153) (x y : UInt64) :
  Calls Tryz.prog 161 #[.int .u64 (x.toNat : Int), .int .u64 (y.toNat : Int), .pointer (some ⟨B, 0, none⟩)] w fun e w' => e = .returned (.int .i64 (cmpF f x y)) ∧ Keeps Nil w w' := by
 obtain ⟨c, hc⟩ : ∃ c, c = cmpF f x y := ⟨_, rfl⟩
 obtain ⟨sx, hsx⟩ : ∃ s, s = sizeF f x := ⟨_, rfl⟩
 obtain ⟨sy, hsy⟩ : ∃ s, s = sizeF f y := ⟨_, rfl⟩
 have hc2 : c = cmpK sx x sy y := by rw [hc, hsx, hsy]; rfl
 rw [← hc]
 have HC := qH (And.intro hc2.symm (And.intro hsx.symm hsy.symm))
 have hT := qH h
 replace hB := qH hB
 clear h hc hsx hsy hc2
 have hst := qH (Step.refl Nil w)
 go_enter Tryz.func161, Tryz.ntmps161
 have c_B_0 := hB.out.cell 0 _ rfl
 have f_B_0 := hB.out.frz 0
 have l_B := hB.out.lt
 go_wp2_with fail
 clear c_B_0 f_B_0 l_B
 obtain ⟨W1, hW1⟩ := nm (w.drew)
 have kn := kD hW1
 replace hst := sN hst kn
 replace hB := qH (hB.out.nil kn)
 clear kn
 refine wp_region_held_drew (S := fun w' => w'.cell? ⟨B, 0, none⟩ = some (.pointer a)) (by kernel_rfl) (by rw [← hW1.out]; exact hB.out.cell 0 _ rfl) (fun hHeld => ?_)
 rw [← hW1.out] at hHeld ⊢
 refine fT 0 rfl hHeld ?_
 try simp only [Act.put, List.getElem_toArray, List.getElem_cons_zero, List.setIfInBounds_toArray, List.set_cons_zero, List.set_cons_succ]
 refine fT 1 rfl hHeld ?_; try simp only [sP,sQ]
 refine fT 3 rfl hHeld ?_; try simp only [sP,sQ]
 refine fT 4 rfl hHeld ?_; try simp only [sP,sQ]
 refine wpAnyH_ready (rs := [2]) (by kernel_rfl) (by simp) ?_
 refine (AllReadyH.cons (o := _) rfl (fun K hK => ?_) AllReadyH.nil)
 go_simp
 refine (key_any (hT.out.keeps hst.out.keeps) x _ rfl).mono ?_
 rintro _ W2 ⟨rfl, kn⟩
 rw [HC.out.2.1]
 replace hst := sN hst kn
 replace hB := qH (hB.out.nil kn)
 clear kn
 refine hK.out _ _ (hB.out.cell 0 _ rfl) (fun hHeld => ?_)
 clear hK K
 try simp only [sP,sQ]
 refine wpAnyH_ready (rs := [5]) (by kernel_rfl) (by simp) ?_
 refine (AllReadyH.cons (o := _) rfl (fun K hK => ?_) AllReadyH.nil)
 go_simp
 refine (key_any (hT.out.keeps hst.out.keeps) y _ rfl).mono ?_
 rintro _ W3 ⟨rfl, kn⟩
 rw [HC.out.2.2]
 replace hst := sN hst kn
 replace hB := qH (hB.out.nil kn)
 clear kn
 refine hK.out _ _ (hB.out.cell 0 _ rfl) (fun hHeld => ?_)
 clear hK K
 try simp only [sP,sQ]
 refine wpAnyH_ready (rs := [6]) (by kernel_rfl) (by simp) ?_
 refine (AllReadyH.cons (o := _) rfl (fun K hK => ?_) AllReadyH.nil)
 go_simp
 refine (compare_any _ sx x sy y).mono ?_
 rintro _ W4 ⟨rfl, kn⟩
 rw [HC.out.1]
 replace hst := sN hst kn
 replace hB := qH (hB.out.nil kn)
 clear kn
 refine hK.out _ _ (hB.out.cell 0 _ rfl) (fun hHeld => ?_)
 clear hK K
 try simp only [sP,sQ]
 refine fT 7 rfl hHeld ?_; try simp only [sP,sQ]
 refine fD ?_
 clear hHeld
 have c_B_0 := hB.out.cell 0 _ rfl
 have f_B_0 := hB.out.frz 0
 have l_B := hB.out.lt
 go_wp2_with fail
 go_ret
 clear c_B_0 f_B_0 l_B
 exact ⟨rfl, hst.out.keeps⟩
end
section
open Go.RowKit Go.Shelf Go.Sort PT
def srtU_ren : Go.Shelf.Ren := ⟨fun | 6 => 184 | 15 => 194 | 14 => 193 | 28 => 204 | 29 => 205 | 20 => 196 | 21 => 197 | 22 => 198 | 23 => 199 | 24 => 200 | 25 => 201 | 26 => 202 | 27 => 203 | 46 => 206 | 47 => 207 | 48 => 208 | 49 => 209 | 50 => 210 | 57 => 211 | n => n, fun | 22 => 27 | 24 => 25 | 25 => 210 | 3 => 3 | 39 => 111 | 0 => 0 | 53 => 221 | 55 => 25 | 4 => 4 | 46 => 242 | 45 => 241 | 50 => 246 | 5 => 5 | 9 => 9 | 66 => 249 | 70 => 252 | 76 => 254 | 77 => 255 | n => n, fun | n => n⟩
theorem srtU : Go.Proofs.SlLaysF.n6 Tryz.prog srtU_ren where
 mixed := by kernel_rfl
 f6 := ⟨Tryz.f184.name, by decide, Tryz.func184.trans (congrArg some (by kernel_rfl))⟩
 f14 := ⟨Tryz.f193.name, by decide, Tryz.func193.trans (congrArg some (by kernel_rfl))⟩
 f15 := Tryz.func194.trans (congrArg some (by kernel_rfl))
 f20 := ⟨Tryz.f196.name, by decide, Tryz.func196.trans (congrArg some (by kernel_rfl))⟩
 f21 := ⟨Tryz.f197.name, by decide, Tryz.func197.trans (congrArg some (by kernel_rfl))⟩
 f22 := ⟨Tryz.f198.name, by decide, Tryz.func198.trans (congrArg some (by kernel_rfl))⟩
 f23 := ⟨Tryz.f199.name, by decide, Tryz.func199.trans (congrArg some (by kernel_rfl))⟩
 f24 := ⟨Tryz.f200.name, by decide, Tryz.func200.trans (congrArg some (by kernel_rfl))⟩
 f25 := ⟨Tryz.f201.name, by decide, Tryz.func201.trans (congrArg some (by kernel_rfl))⟩
 f26 := ⟨Tryz.f202.name, by decide, Tryz.func202.trans (congrArg some (by kernel_rfl))⟩
 f27 := ⟨Tryz.f203.name, by decide, Tryz.func203.trans (congrArg some (by kernel_rfl))⟩
 f28 := Tryz.func204.trans (congrArg some (by kernel_rfl))
 f29 := Tryz.func205.trans (congrArg some (by kernel_rfl))
 f46 := ⟨Tryz.f206.name, by decide, Tryz.func206.trans (congrArg some (by kernel_rfl))⟩
 f47 := Tryz.func207.trans (congrArg some (by kernel_rfl))
 f48 := Tryz.func208.trans (congrArg some (by kernel_rfl))
 f49 := ⟨Tryz.f209.name, by decide, Tryz.func209.trans (congrArg some (by kernel_rfl))⟩
 f50 := ⟨Tryz.f210.name, by decide, Tryz.func210.trans (congrArg some (by kernel_rfl))⟩
 f57 := ⟨Tryz.f211.name, by decide, Tryz.func211.trans (congrArg some (by kernel_rfl))⟩
 t0 := Tryz.underlying0
 a0 := Tryz.isAgg0
 z0 := Tryz.sizeOf0
 v0 := Tryz.zeroValue0
 t3 := Tryz.underlying3
 a3 := Tryz.isAgg3
 z3 := Tryz.sizeOf3
 v3 := Tryz.zeroValue3
 t4 := Tryz.underlying4
 a4 := Tryz.isAgg4
 z4 := Tryz.sizeOf4
 v4 := Tryz.zeroValue4
 t5 := Tryz.underlying5
 a5 := Tryz.isAgg5
 z5 := Tryz.sizeOf5
 v5 := Tryz.zeroValue5
 t9 := Tryz.underlying9
 a9 := Tryz.isAgg9
 z9 := Tryz.sizeOf9
 v9 := Tryz.zeroValue9
 t22 := Tryz.underlying27
 a22 := Tryz.isAgg27
 z22 := Tryz.sizeOf27
 v22 := Tryz.zeroValue27
 a24 := Tryz.isAgg25
 z24 := Tryz.sizeOf25
 t25 := Tryz.underlying210
 a25 := Tryz.isAgg210
 z25 := Tryz.sizeOf210
 v25 := Tryz.zeroValue210
 t39 := Tryz.underlying111
 a39 := Tryz.isAgg111
 z39 := Tryz.sizeOf111
 v39 := Tryz.zeroValue111
 t45 := Tryz.underlying241
 a45 := Tryz.isAgg241
 z45 := Tryz.sizeOf241
 v45 := Tryz.zeroValue241
 t46 := Tryz.underlying242
 a46 := Tryz.isAgg242
 z46 := Tryz.sizeOf242
 v46 := Tryz.zeroValue242
 t50 := Tryz.underlying246
 a50 := Tryz.isAgg246
 z50 := Tryz.sizeOf246
 v50 := Tryz.zeroValue246
 t53 := Tryz.underlying221
 a53 := Tryz.isAgg221
 z53 := Tryz.sizeOf221
 v53 := Tryz.zeroValue221
 t55 := Tryz.underlying25
 a55 := Tryz.isAgg25
 z55 := Tryz.sizeOf25
 v55 := Tryz.zeroValue25
 t66 := Tryz.underlying249
 a66 := Tryz.isAgg249
 z66 := Tryz.sizeOf249
 v66 := Tryz.zeroValue249
 t70 := Tryz.underlying252
 a70 := Tryz.isAgg252
 z70 := Tryz.sizeOf252
 v70 := Tryz.zeroValue252
 t76 := Tryz.underlying254
 a76 := Tryz.isAgg254
 z76 := Tryz.sizeOf254
 v76 := Tryz.zeroValue254
 t77 := Tryz.underlying255
 a77 := Tryz.isAgg255
 z77 := Tryz.sizeOf255
 v77 := Tryz.zeroValue255
abbrev encV (x : UInt64) : Value := .int .u64 (x.toNat : Int)
def sortF (cf : UInt64 → UInt64 → Int) (l : List UInt64) : List UInt64 := l.mergeSort fun x y => !(ltOf cf) y x
theorem sortF_length (cf : UInt64 → UInt64 → Int) (l : List UInt64) : (sortF cf l).length = l.length := by unfold sortF; exact List.length_mergeSort _
theorem sortWorld_keeps (w : World) (blk off m : Nat) (dk : Array UInt64) (os : Array Obj) : Keeps (fun k => k = blk) w (sortWorld encV w blk off m dk os) := by
 refine ⟨rfl, rfl, rfl, ?_, fun k hk hne => ?_⟩
 ·simp [sortWorld, Sort.grow, putRow, mapBlock, Sort.ahead]
 ·simp only [sortWorld, Sort.grow, putRow, mapBlock, Sort.ahead]
  rw [Array.getElem?_append_left (by simpa using hk), Array.getElem?_modify, if_neg (fun e => hne e.symm)]
theorem SortFunc_own {W : World} {base : Nat} {v : Value} {l : List UInt64} (h : Own kU W base v l) (hlen : l.length < 4294967296) {cf : UInt64 → UInt64 → Int} (hO : SWO (ltOf cf)) (hT : ∀ x y, (ltOf cf) x y = false → (ltOf cf) y x = false → x = y)
  {g : Nat} {cb : Array Value} (eg : ∀ args w, (callFunc g args).run Tryz.prog w = .ok (.enter g args) w)
  (hcmp : ∀ W', Keeps (fun k => v.ownBlock = some k) W W' → ∀ x y : UInt64, Calls Tryz.prog g (#[encV x, encV y] ++ cb) W' fun e W2 => e = .returned (.int .i64 (cf x y)) ∧ Keeps Nil W' W2) :
  Calls Tryz.prog 184 #[v, .func (.func g) #[] cb] W fun e W' => e = .returned (.tuple #[]) ∧ View kU (fun k => k < base) W' v (sortF cf l) ∧ Keeps (fun k => v.ownBlock = some k) W W' := by
 have hv := h.view (S := fun k => k < base) (fun k hk e => absurd e (Nat.not_lt.2 hk))
 by_cases hl : l.length = 0
 ·have e0 : l = [] := List.eq_nil_of_length_eq_zero hl
  subst e0
  obtain ⟨a, cap, rfl, _⟩ := hv.val
  refine (AnyF.slices_SortFunc_none { srtU with } a cap _ W).mono ?_
  rintro e W' ⟨rfl, rfl⟩
  exact ⟨rfl, by simpa [sortF] using hv, Keeps.refl _ _⟩
 ·rcases store_wfU v l h with rfl | ⟨b, cap, rfl⟩
  ·obtain ⟨_, _, e, _⟩ := hv.val
   simp only [Value.slice.injEq] at e
   exact absurd e.2.1.symm hl
  ·obtain ⟨_, h1, h2, h3, h4, _⟩ := hv.at
   have hH : Holds encV W b 0 l.toArray := fun j hj => by
        have hj' : j < l.length := by simpa using hj
        obtain ⟨c1, c2⟩ := Own.cellU h j hj'
        rw [Nat.zero_add]
        refine ⟨?_, c2⟩
        rw [c1, getElem!_pos l.toArray j hj]
        simp [hj']
   have hL : CmpLays1 Tryz.prog g cb encV cf b 0 l.toArray.size W := fun m os dk hs x y => by
        have k := sortWorld_keeps W b 0 m dk os
        have hc := hcmp _ (k.mono (fun i _ e => by rw [e]; rfl)) x y
        refine (Calls.drawn hc (fun e w' h => ⟨_, h.1⟩)).mono ?_
        rintro e w' ⟨⟨rfl, kn⟩, hd⟩
        exact ⟨rfl, kn.growth hd⟩
   have hcon := Any.slices_SortFunc_total srtU encV (fun _ => rfl) cf hO g cb b 0 cap l.toArray W eg hL hH h3 (by simp; omega) hT
   rw [show l.toArray.size = l.length by simp] at hcon
   refine Calls.mono hcon ?_
   rintro e W' ⟨rfl, n, os, rfl⟩
   have hs : (l.toArray.toList.mergeSort fun x y => !(ltOf cf) y x).toArray.size = l.toArray.size := by simp
   have hW := holds_sortWorld encV W b 0 n l.toArray (l.toArray.toList.mergeSort fun x y => !(ltOf cf) y x).toArray os h3 hH hs
   have hk := sortWorld_keeps W b 0 n (l.toArray.toList.mergeSort fun x y => !(ltOf cf) y x).toArray os
   refine ⟨rfl, .inr ⟨b, 0, cap, by rw [sortF_length], by rw [sortF_length]; exact h1, h2, Nat.lt_of_lt_of_le h3 hk.size, h4, fun i j hj hi => ?_⟩, hk.mono (fun i _ e => by rw [e]; rfl)⟩
   have hku : kU.size = 1 := rfl
   have hj0 : j = 0 := by rw [hku] at hj; omega
   subst hj0
   rw [hku]
   have hi2 : i < l.length := by rw [sortF_length] at hi; exact hi
   obtain ⟨c1, _⟩ := hW i (by simpa using hi2)
   rw [show 0 + (i * 1 + 0) = 0 + i by omega, c1, List.getElem?_eq_getElem hi]
   rw [getElem!_pos _ i (by simpa using hi2)]
   rfl
theorem SortedFunc_any {w : World} {gf : Nat} {lb : Array Value} {xs : List UInt64} {N : Nat} {Sp : List UInt64 → Prop} {R : Nat → Prop}
  (eg : ∀ args w, (callFunc gf args).run Tryz.prog w = .ok (.enter gf args) w) (hR : ∀ k, R k → k < w.heap.size) (hNl : N < 4294967296)
  (hseq : ∀ w', Keeps Nil w w' → SeqStopsK Fence.wide 3 Tryz.prog gf lb encU1 (KeptOn R) (fun ys => ys = xs) Sp N w') (hlen : xs.length < 4294967296)
  {cf : UInt64 → UInt64 → Int} (hO : SWO (ltOf cf)) (hT : ∀ x y, (ltOf cf) x y = false → (ltOf cf) y x = false → x = y)
  {g : Nat} {cb : Array Value} (eg2 : ∀ args w, (callFunc g args).run Tryz.prog w = .ok (.enter g args) w)
  (hcmp : ∀ W', Keeps Nil w W' → ∀ x y : UInt64, Calls Tryz.prog g (#[encV x, encV y] ++ cb) W' fun e W2 => e = .returned (.int .i64 (cf x y)) ∧ Keeps Nil W' W2) :
  Calls Tryz.prog 159 #[.func (.func gf) #[] lb, .func (.func g) #[] cb] w fun e w' => ∃ v, e = .returned v ∧ View kU (fun k => k < w.heap.size) w' v (sortF cf xs) ∧ Keeps Nil w w' := by
 have hc := qH (Collect_any eg hR hNl hseq)
 have HO := qH (And.intro hO hT)
 have HC := qH hcmp
 have HE := qH eg2
 clear hseq eg hR hNl hO hT hcmp eg2
 go_enter Tryz.func159, Tryz.ntmps159
 go_wp2_with fail
 refine hc.out.mono ?_
 rintro _ W1 ⟨v, rfl, ho, kn⟩
 have HO1 := qH (And.intro ho kn)
 clear ho kn
 go_wp2_with fail
 refine (SortFunc_own HO1.out.1 hlen HO.out.1 HO.out.2 HE.out (fun W' k => HC.out W' (HO1.out.2.trans k (fun i hi e => absurd (HO1.out.1.block e).1 (by omega))))).mono ?_
 rintro _ W2 ⟨rfl, hv, k2⟩
 have HV := qH (And.intro hv k2)
 clear hv k2
 go_wp2_with fail
 go_ret
 exact ⟨_, rfl, HV.out.1, HO1.out.2.trans HV.out.2 (fun i hi e => absurd (HO1.out.1.block e).1 (by omega))⟩
theorem View.blk {S : Nat → Prop} {w : World} {v : Value} {l : List UInt64} (h : View kU S w v l) {k : Nat} (hk : v.ownBlock = some k) : k < w.heap.size := by
 rcases h with ⟨rfl, _⟩ | ⟨b, off, cap, rfl, _, _, h3, _⟩
 · cases hk
 · cases hk; exact h3
end
section
open Go.RowKit Go.Sort PT
theorem ltOf_cmpF (f : UInt64 → UInt64) (x y : UInt64) : ltOf (cmpF f) x y = ltF szU f x y := by
 unfold ltOf cmpF
 exact cmpK_lt _ _ _ _
theorem swo_cmpF (f : UInt64 → UInt64) : SWO (ltOf (cmpF f)) where
 irrefl x := by rw [ltOf_cmpF]; exact (ltF_ord szU f).irr x
 trans x y z h1 h2 := by rw [ltOf_cmpF] at *; exact (ltF_ord szU f).trans _ _ _ h1 h2
 ntrans x y z h1 h2 := by
  rw [ltOf_cmpF] at *
  cases h : ltF szU f x z with
  | false => rfl
  | true =>
    have h3 := ltK_iff.1 h
    have a1 : ¬ _ := fun e => by rw [ltF, ltK_iff.2 e] at h1; cases h1
    have a2 : ¬ _ := fun e => by rw [ltF, ltK_iff.2 e] at h2; cases h2
    omega
theorem tot_cmpF (f : UInt64 → UInt64) (x y : UInt64) (h1 : ltOf (cmpF f) x y = false) (h2 : ltOf (cmpF f) y x = false) : x = y := by
 rw [ltOf_cmpF] at h1 h2
 have a1 : ¬ _ := fun e => by rw [ltF, ltK_iff.2 e] at h1; cases h1
 have a2 : ¬ _ := fun e => by rw [ltF, ltK_iff.2 e] at h2; cases h2
 unfold keyF at a1 a2
 dsimp only at a1 a2
 exact UInt64.toNat_inj.1 (by omega)
theorem sorted_any {S : Nat → Prop} {w : World} {a : Option Addr} {f : UInt64 → UInt64} {N : Nat} {R : Nat → Prop} {v : Value} {l : List UInt64} (h : ReadsK R (.pointer a) f N w) (hR : ∀ k, R k → k < w.heap.size) (hv : View kU S w v l) (hlen : l.length < 4294967296) :
  Calls Tryz.prog 105 #[.pointer a, v] w fun e w' => ∃ v', e = .returned v' ∧ View kU (fun k => k < w.heap.size) w' v' (sortF (cmpF f) l) ∧ Keeps Nil w w' := by
 have HR := qH (And.intro h hR)
 have HV := qH hv
 have HLN := qH hlen
 obtain ⟨al, cl, rfl, _⟩ := hv.val
 obtain ⟨v, hvv⟩ : ∃ v, v = Value.slice al l.length cl := ⟨_, rfl⟩
 have hone : v.oneCell' = true := by rw [hvv]; rfl
 rw [← hvv] at HV ⊢
 clear h hR hv hlen hvv
 have hst := qH (Step.refl Nil w)
 go_enter Tryz.func105, Tryz.ntmps105
 obtain ⟨W1, hW1⟩ := nm (w.alloc (.cells #[.pointer a] 153))
 obtain ⟨B1, eB1⟩ := nm (w.heap.size)
 go_wp2_with fail
 rw [← hW1.out]
 try rw [← eB1.out]
 have k1 := kA hW1
 have e0B1 := eB1.out
 have hB1 := zB hW1 (Bx.new Nil.lt _ _ e0B1)
 have gB1 := gZ e0B1 hst
 replace hst := sN hst k1
 clear k1 e0B1
 refine (Values_any v hone W1).mono ?_
 rintro _ W2 ⟨rfl, hw⟩
 have kn : Keeps Nil W1 W2 := by rw [hw]; exact alloc_keeps _ _
 have hBv := qH (show Bx W2 Nil W1.heap.size #[v] 27 by rw [hw]; exact Bx.new Nil.lt _ _ rfl)
 obtain ⟨bv, ebv⟩ : ∃ b, b = W1.heap.size := ⟨_, rfl⟩
 rw [← ebv] at hBv ⊢
 clear hw ebv
 replace hst := sN hst kn
 replace hB1 := bN hB1 kn
 clear kn
 have c_B1_0 := cB hB1 0
 have f_B1_0 := hB1.out.frz 0
 have l_B1 := hB1.out.lt
 go_wp2_with fail
 clear c_B1_0 f_B1_0 l_B1
 have hsz0 := qH hst.out.keeps.size
 refine (SortedFunc_any (xs := l) (N := l.length) (Sp := fun pre => ∃ k, k ≤ l.length ∧ pre = l.take k) (R := valR bv v) (enters_of Tryz.func185 (by kernel_rfl) rfl) (fun k hk => hk.elim (fun e => by rw [e]; exact hBv.out.lt) (fun e => Nat.lt_of_lt_of_le (HV.out.blk e) hst.out.keeps.size)) HLN.out (fun w2 k2 => values_stops 3 (by omega) bv (HV.out.keeps_nil (hst.out.keeps.trans' k2)) HLN.out (hBv.out.nil k2).lt ((hBv.out.nil k2).cell 0 _ rfl)) HLN.out (swo_cmpF f) (tot_cmpF f) (enters_of Tryz.func161 (by kernel_rfl) rfl) (fun W2 k2 x y => sorted1_any (HR.out.1.keeps HR.out.2 (hst.out.keeps.trans' k2)).reads (hB1.out.nil k2) x y)).mono ?_
 rintro _ W3 ⟨v9, rfl, hv9, kn⟩
 have HV9 := qH (And.intro hv9 kn)
 clear hv9
 replace hst := sN hst kn
 replace hB1 := bN hB1 kn
 clear kn
 have c_B1_0 := cB hB1 0
 have f_B1_0 := hB1.out.frz 0
 have l_B1 := hB1.out.lt
 go_wp2_with fail
 go_ret
 clear c_B1_0 f_B1_0 l_B1
 exact ⟨_, rfl, HV9.out.1.shut (fun g hg e => Nat.lt_of_lt_of_le e hsz0.out), hst.out.keeps⟩
end
section
open Go.RowKit PT
def checkT (f : UInt64 → UInt64) (T : Tr) : Bool := allP f (putsT T) && f 32 == T.root
theorem Check_any {w : World} {t n : Nat} {S S2 : Nat → Prop} {f : UInt64 → UInt64} {v : Value} {l : List UInt64} {T : Tr} (hT0 : TxF w t f n S) (hv : View kU S2 w v l) (hlen : l.length < 4294967296) (hh : T.Heap mixU) (hl : T.list = sortF (cmpF f) l) :
   Calls Tryz.prog 48 #[.pointer (some ⟨t, 0, none⟩), v] w fun e w' => e = .returned (.bool (checkT f T)) ∧ Keeps Nil w w' := by
 have hT := qH hT0.reads
 have HF := qH hT0
 have HV := qH hv
 have HT := qH (And.intro hlen (And.intro hh hl))
 clear hT0 hv hlen hh hl
 cases hb : allP f (putsT T) with
 | false =>
   have HB := qH hb
   have HA := qH (show checkT f T = false by unfold checkT; rw [hb]; rfl)
   clear hb
   have hst := qH (Step.refl Nil w)
   go_enter Tryz.func48, Tryz.ntmps48
   obtain ⟨W1, hW1⟩ := nm (w.alloc (.cells #[.pointer (some ⟨t, 0, none⟩)] 24))
   obtain ⟨B1, eB1⟩ := nm (w.heap.size)
   obtain ⟨W2, hW2⟩ := nm (W1.alloc (.cells #[.bool true] 4))
   obtain ⟨B2, eB2⟩ := nm (w.heap.size + 1)
   go_wp2_with fail
   rw [← hW1.out]
   rw [← hW2.out]
   try rw [← eB2.out]
   try rw [← eB1.out]
   have k1 := kA hW1
   have e0B1 := eB1.out
   have hB1 := zB hW1 (Bx.new Nil.lt _ _ e0B1)
   have gB1 := gZ e0B1 hst
   replace hst := sN hst k1
   clear k1 e0B1
   have k2 := kA hW2
   have e0B2 : B2 = W1.heap.size := by rw [eB2.out, hW1.out]; simp []
   have hB2 := zB hW2 (Bx.new Nil.lt _ _ e0B2)
   have gB2 := gZ e0B2 hst
   have nB1B2 := nZ e0B2 hB1
   replace hst := sN hst k2
   replace hB1 := bN hB1 k2
   clear k2 e0B2
   have hB2o := qH hB2.out.lt
   refine (sorted_any (HF.out.nil hst.out.keeps).readsK (HF.out.nil hst.out.keeps).lt (HV.out.keeps_nil hst.out.keeps) HT.out.1).mono ?_
   rintro _ W3 ⟨v9, rfl, hv9, kn⟩
   have HV9 := qH hv9
   clear hv9
   replace hst := sN hst kn
   replace hB1 := bN hB1 kn
   replace hB2 := bN hB2 kn
   clear kn
   have c_B1_0 := cB hB1 0
   have f_B1_0 := hB1.out.frz 0
   have l_B1 := hB1.out.lt
   have c_B2_0 := cB hB2 0
   have f_B2_0 := hB2.out.frz 0
   have l_B2 := hB2.out.lt
   go_wp2_with fail
   clear c_B1_0 f_B1_0 l_B1 c_B2_0 f_B2_0 l_B2
   refine (built_any (P := fun k => k = B2) (J := ToldC W3 t B2 B1 n f S) (la := #[]) (lb := #[.pointer (some ⟨B2, 0, none⟩), .pointer (some ⟨B1, 0, none⟩)]) (enters_of Tryz.func106 (by kernel_rfl) rfl) (fun W ps h => h.2.2.2) (fun W W' ps h k => h.nil k) (fun W ps x y h => by have := check1_any nB1B2.out x y h; simpa using this) (t := T) (show View kU _ _ _ T.list by rw [HT.out.2.2]; exact HV9.out.shut (fun g hg e => by rw [e]; exact hB2o.out)) HT.out.2.1 _ [] ⟨⟨hB2.out.1, fun e => Nat.lt_irrefl _ (Nat.lt_of_lt_of_le (HF.out.lt _ e) gB2.out)⟩, ⟨hB1.out.1, fun e => Nat.lt_irrefl _ (Nat.lt_of_lt_of_le (HF.out.lt _ e) gB1.out)⟩, HF.out.nil hst.out.keeps, Keeps.refl _ _⟩).mono ?_
   rintro _ W4 ⟨rfl, hJ⟩
   have HJ := qH hJ
   clear hJ
   replace hst := qH (Step.of_nil (S := Nil) (hst.out.keeps.trans HJ.out.2.2.2 (fun i hi e => absurd gB2.out (by rw [← e]; omega))))
   replace hB1 := qH (show Bx W4 Nil B1 #[.pointer (some ⟨t, 0, none⟩)] 24 from ⟨HJ.out.2.1.1, fun e => e⟩)
   replace hB2 := qH (show Bx W4 Nil B2 #[.bool false] 4 from ⟨by have := HJ.out.1.1; rw [List.nil_append, HB.out] at this; exact this, fun e => e⟩)
   have c_B1_0 := cB hB1 0
   have f_B1_0 := hB1.out.frz 0
   have l_B1 := hB1.out.lt
   have c_B2_0 := cB hB2 0
   have f_B2_0 := hB2.out.frz 0
   have l_B2 := hB2.out.lt
   go_wp2_with fail
   go_ret
   clear c_B1_0 f_B1_0 l_B1 c_B2_0 f_B2_0 l_B2
   exact ⟨by rw [HA.out]; rfl, hst.out.keeps⟩
 | true =>
   have HB := qH hb
   by_cases hq : f 32 = T.root
   ·have HQ := qH hq
    have HA := qH (show checkT f T = true by unfold checkT; rw [hb, hq]; simp)
    clear hb hq
    have hst := qH (Step.refl Nil w)
    go_enter Tryz.func48, Tryz.ntmps48
    obtain ⟨W1, hW1⟩ := nm (w.alloc (.cells #[.pointer (some ⟨t, 0, none⟩)] 24))
    obtain ⟨B1, eB1⟩ := nm (w.heap.size)
    obtain ⟨W2, hW2⟩ := nm (W1.alloc (.cells #[.bool true] 4))
    obtain ⟨B2, eB2⟩ := nm (w.heap.size + 1)
    go_wp2_with fail
    rw [← hW1.out]
    rw [← hW2.out]
    try rw [← eB2.out]
    try rw [← eB1.out]
    have k1 := kA hW1
    have e0B1 := eB1.out
    have hB1 := zB hW1 (Bx.new Nil.lt _ _ e0B1)
    have gB1 := gZ e0B1 hst
    replace hst := sN hst k1
    clear k1 e0B1
    have k2 := kA hW2
    have e0B2 : B2 = W1.heap.size := by rw [eB2.out, hW1.out]; simp []
    have hB2 := zB hW2 (Bx.new Nil.lt _ _ e0B2)
    have gB2 := gZ e0B2 hst
    have nB1B2 := nZ e0B2 hB1
    replace hst := sN hst k2
    replace hB1 := bN hB1 k2
    clear k2 e0B2
    have hB2o := qH hB2.out.lt
    refine (sorted_any (HF.out.nil hst.out.keeps).readsK (HF.out.nil hst.out.keeps).lt (HV.out.keeps_nil hst.out.keeps) HT.out.1).mono ?_
    rintro _ W3 ⟨v9, rfl, hv9, kn⟩
    have HV9 := qH hv9
    clear hv9
    replace hst := sN hst kn
    replace hB1 := bN hB1 kn
    replace hB2 := bN hB2 kn
    clear kn
    have c_B1_0 := cB hB1 0
    have f_B1_0 := hB1.out.frz 0
    have l_B1 := hB1.out.lt
    have c_B2_0 := cB hB2 0
    have f_B2_0 := hB2.out.frz 0
    have l_B2 := hB2.out.lt
    go_wp2_with fail
    clear c_B1_0 f_B1_0 l_B1 c_B2_0 f_B2_0 l_B2
    refine (built_any (P := fun k => k = B2) (J := ToldC W3 t B2 B1 n f S) (la := #[]) (lb := #[.pointer (some ⟨B2, 0, none⟩), .pointer (some ⟨B1, 0, none⟩)]) (enters_of Tryz.func106 (by kernel_rfl) rfl) (fun W ps h => h.2.2.2) (fun W W' ps h k => h.nil k) (fun W ps x y h => by have := check1_any nB1B2.out x y h; simpa using this) (t := T) (show View kU _ _ _ T.list by rw [HT.out.2.2]; exact HV9.out.shut (fun g hg e => by rw [e]; exact hB2o.out)) HT.out.2.1 _ [] ⟨⟨hB2.out.1, fun e => Nat.lt_irrefl _ (Nat.lt_of_lt_of_le (HF.out.lt _ e) gB2.out)⟩, ⟨hB1.out.1, fun e => Nat.lt_irrefl _ (Nat.lt_of_lt_of_le (HF.out.lt _ e) gB1.out)⟩, HF.out.nil hst.out.keeps, Keeps.refl _ _⟩).mono ?_
    rintro _ W4 ⟨rfl, hJ⟩
    have HJ := qH hJ
    clear hJ
    replace hst := qH (Step.of_nil (S := Nil) (hst.out.keeps.trans HJ.out.2.2.2 (fun i hi e => absurd gB2.out (by rw [← e]; omega))))
    replace hB1 := qH (show Bx W4 Nil B1 #[.pointer (some ⟨t, 0, none⟩)] 24 from ⟨HJ.out.2.1.1, fun e => e⟩)
    replace hB2 := qH (show Bx W4 Nil B2 #[.bool true] 4 from ⟨by have := HJ.out.1.1; rw [List.nil_append, HB.out] at this; exact this, fun e => e⟩)
    have c_B1_0 := cB hB1 0
    have f_B1_0 := hB1.out.frz 0
    have l_B1 := hB1.out.lt
    have c_B2_0 := cB hB2 0
    have f_B2_0 := hB2.out.frz 0
    have l_B2 := hB2.out.lt
    go_wp2_with fail
    clear c_B1_0 f_B1_0 l_B1 c_B2_0 f_B2_0 l_B2
    refine (hRoot_any (hT.out.keeps hst.out.keeps)).mono ?_
    rintro _ W5 ⟨rfl, kn⟩
    replace hst := sN hst kn
    replace hB1 := bN hB1 kn
    replace hB2 := bN hB2 kn
    clear kn
    have d1 : ((((f 32).toNat : Int) : Int) == ((T.root.toNat : Int) : Int)) = true := (same_u64 (a := (f 32)) (b := T.root) (HQ.out)).2
    have c_B1_0 := cB hB1 0
    have f_B1_0 := hB1.out.frz 0
    have l_B1 := hB1.out.lt
    have c_B2_0 := cB hB2 0
    have f_B2_0 := hB2.out.frz 0
    have l_B2 := hB2.out.lt
    go_wp2_with fail
    go_ret
    clear c_B1_0 f_B1_0 l_B1 c_B2_0 f_B2_0 l_B2
    exact ⟨by rw [HA.out]; rfl, hst.out.keeps⟩
   ·have HQ := qH hq
    have HA := qH (show checkT f T = false by unfold checkT; rw [hb]; simp [hq])
    clear hb hq
    have hst := qH (Step.refl Nil w)
    go_enter Tryz.func48, Tryz.ntmps48
    obtain ⟨W1, hW1⟩ := nm (w.alloc (.cells #[.pointer (some ⟨t, 0, none⟩)] 24))
    obtain ⟨B1, eB1⟩ := nm (w.heap.size)
    obtain ⟨W2, hW2⟩ := nm (W1.alloc (.cells #[.bool true] 4))
    obtain ⟨B2, eB2⟩ := nm (w.heap.size + 1)
    go_wp2_with fail
    rw [← hW1.out]
    rw [← hW2.out]
    try rw [← eB2.out]
    try rw [← eB1.out]
    have k1 := kA hW1
    have e0B1 := eB1.out
    have hB1 := zB hW1 (Bx.new Nil.lt _ _ e0B1)
    have gB1 := gZ e0B1 hst
    replace hst := sN hst k1
    clear k1 e0B1
    have k2 := kA hW2
    have e0B2 : B2 = W1.heap.size := by rw [eB2.out, hW1.out]; simp []
    have hB2 := zB hW2 (Bx.new Nil.lt _ _ e0B2)
    have gB2 := gZ e0B2 hst
    have nB1B2 := nZ e0B2 hB1
    replace hst := sN hst k2
    replace hB1 := bN hB1 k2
    clear k2 e0B2
    have hB2o := qH hB2.out.lt
    refine (sorted_any (HF.out.nil hst.out.keeps).readsK (HF.out.nil hst.out.keeps).lt (HV.out.keeps_nil hst.out.keeps) HT.out.1).mono ?_
    rintro _ W3 ⟨v9, rfl, hv9, kn⟩
    have HV9 := qH hv9
    clear hv9
    replace hst := sN hst kn
    replace hB1 := bN hB1 kn
    replace hB2 := bN hB2 kn
    clear kn
    have c_B1_0 := cB hB1 0
    have f_B1_0 := hB1.out.frz 0
    have l_B1 := hB1.out.lt
    have c_B2_0 := cB hB2 0
    have f_B2_0 := hB2.out.frz 0
    have l_B2 := hB2.out.lt
    go_wp2_with fail
    clear c_B1_0 f_B1_0 l_B1 c_B2_0 f_B2_0 l_B2
    refine (built_any (P := fun k => k = B2) (J := ToldC W3 t B2 B1 n f S) (la := #[]) (lb := #[.pointer (some ⟨B2, 0, none⟩), .pointer (some ⟨B1, 0, none⟩)]) (enters_of Tryz.func106 (by kernel_rfl) rfl) (fun W ps h => h.2.2.2) (fun W W' ps h k => h.nil k) (fun W ps x y h => by have := check1_any nB1B2.out x y h; simpa using this) (t := T) (show View kU _ _ _ T.list by rw [HT.out.2.2]; exact HV9.out.shut (fun g hg e => by rw [e]; exact hB2o.out)) HT.out.2.1 _ [] ⟨⟨hB2.out.1, fun e => Nat.lt_irrefl _ (Nat.lt_of_lt_of_le (HF.out.lt _ e) gB2.out)⟩, ⟨hB1.out.1, fun e => Nat.lt_irrefl _ (Nat.lt_of_lt_of_le (HF.out.lt _ e) gB1.out)⟩, HF.out.nil hst.out.keeps, Keeps.refl _ _⟩).mono ?_
    rintro _ W4 ⟨rfl, hJ⟩
    have HJ := qH hJ
    clear hJ
    replace hst := qH (Step.of_nil (S := Nil) (hst.out.keeps.trans HJ.out.2.2.2 (fun i hi e => absurd gB2.out (by rw [← e]; omega))))
    replace hB1 := qH (show Bx W4 Nil B1 #[.pointer (some ⟨t, 0, none⟩)] 24 from ⟨HJ.out.2.1.1, fun e => e⟩)
    replace hB2 := qH (show Bx W4 Nil B2 #[.bool true] 4 from ⟨by have := HJ.out.1.1; rw [List.nil_append, HB.out] at this; exact this, fun e => e⟩)
    have c_B1_0 := cB hB1 0
    have f_B1_0 := hB1.out.frz 0
    have l_B1 := hB1.out.lt
    have c_B2_0 := cB hB2 0
    have f_B2_0 := hB2.out.frz 0
    have l_B2 := hB2.out.lt
    go_wp2_with fail
    clear c_B1_0 f_B1_0 l_B1 c_B2_0 f_B2_0 l_B2
    refine (hRoot_any (hT.out.keeps hst.out.keeps)).mono ?_
    rintro _ W5 ⟨rfl, kn⟩
    replace hst := sN hst kn
    replace hB1 := bN hB1 kn
    replace hB2 := bN hB2 kn
    clear kn
    have d1 : ((((f 32).toNat : Int) : Int) == ((T.root.toNat : Int) : Int)) = false := (unlike_u64 (a := (f 32)) (b := T.root) (HQ.out)).2
    have c_B1_0 := cB hB1 0
    have f_B1_0 := hB1.out.frz 0
    have l_B1 := hB1.out.lt
    have c_B2_0 := cB hB2 0
    have f_B2_0 := hB2.out.frz 0
    have l_B2 := hB2.out.lt
    go_wp2_with fail
    go_ret
    clear c_B1_0 f_B1_0 l_B1 c_B2_0 f_B2_0 l_B2
    exact ⟨by rw [HA.out]; rfl, hst.out.keeps⟩
def stAll (n : Nat) (f : UInt64 → UInt64) (ps : List Put) : UInt64 → UInt64 := ps.foldl (fun g p => PT.stF n g p.1 p.2) f
theorem stAll_add (n : Nat) (f : UInt64 → UInt64) (ps : List Put) (x y : UInt64) : stAll n f (ps ++ [(x, y)]) = PT.stF n (stAll n f ps) x y := by simp [stAll]
def ToldB (w0 : World) (t n : Nat) (f : UInt64 → UInt64) (S : Nat → Prop) (W : World) (ps : List Put) : Prop := ∃ S', TxF W t (stAll n f ps) n S' ∧ Step S S' w0 W
theorem ToldB.nil {w0 W W' : World} {t n : Nat} {f : UInt64 → UInt64} {S : Nat → Prop} {ps : List Put} (h : ToldB w0 t n f S W ps) (k : Keeps Nil W W') : ToldB w0 t n f S W' ps := by
 obtain ⟨S', h1, h2⟩ := h
 exact ⟨S', h1.nil k, h2.nil k⟩
theorem ToldB.put {w0 W : World} {t n : Nat} {f : UInt64 → UInt64} {S : Nat → Prop} {ps : List Put} (h : ToldB w0 t n f S W ps) (x y : UInt64) :
  Calls Tryz.prog 36 #[.pointer (some ⟨t, 0, none⟩), .int .u64 (x.toNat : Int), .int .u64 (y.toNat : Int)] W fun e W' => e = .returned (.tuple #[]) ∧ ToldB w0 t n f S W' (ps ++ [(x, y)]) := by
 obtain ⟨S', h1, h2⟩ := h
 refine (h1.store x y _ _ rfl rfl).mono ?_
 rintro e w' ⟨rfl, S2, h3, h4⟩
 exact ⟨rfl, S2, by rw [stAll_add]; exact h3, h2.trans h4⟩
end
section
open Go.RowKit
theorem Own.valN {α : Type} {K : Kind α} {w : World} {base : Nat} {v : Value} {l : List α} (h : Own K w base v l) : ∃ a c, v = .slice a l.length c := by
 rcases h.2 with ⟨rfl, h0⟩ | ⟨g, cap, cur, rfl, _⟩
 · exact ⟨none, 0, by rw [h0]⟩
 · exact ⟨_, _, rfl⟩
theorem wpList_append_any {α : Type} (K : Kind α) {w : World} {S : Nat → Prop} {ops : Array Oper} {rest : List Oper} {o : Oper} {a : Act} {Q : Exit → Act → World → Prop} (hgd : o.guard = none) (s x : Operand)
  (ho : o.op = .call { callee := .builtin .append, args := #[s, x], argTypes := #[K.slice, K.slice] })
  {base : Nat} {v v2 : Value} {l l2 : List α} (hown : Own K w base v l) (hs : a.eval s = v) (hx : a.eval x = v2) (hv : View K S w v2 l2) (n : Nat) (hnn : l.length + l2.length = n) (hn : n * K.bytes ≤ 140737488355328) (hbase : base ≤ w.heap.size) (hb1 : 0 < K.bytes)
  (h : ∀ v' w', Own K w' base v' (l ++ l2) → Keeps (fun k => v.ownBlock = some k) w w' → (∀ g, v'.ownBlock = some g → v.ownBlock = some g ∨ w.heap.size ≤ g) → (∃ a c, v' = .slice a n c) → wpList Tryz.prog ops Q rest (a.put o.dst v') w') :
  wpList Tryz.prog ops Q (o :: rest) a w := by
 subst hnn
 by_cases h0 : 0 < l2.length
 ·refine wpList_append_all K hgd s x ho hown hs hx hv h0 hn hbase hb1 (fun v' w' h1 h2 ⟨g, cap, e, hg⟩ => h v' w' h1 h2 (fun g' hg' => ?_) ⟨_, _, e⟩)
  subst e
  simp only [Value.ownBlock, Option.some.injEq] at hg'
  subst hg'
  exact hg
 ·obtain rfl : l2 = [] := List.eq_nil_of_length_eq_zero (by omega)
  obtain ⟨a2, c2, rfl, _⟩ := hv.val
  refine wpList_append_zero K hgd s x ho hown hs a2 c2 hx ?_
  obtain ⟨a1, c1, e⟩ := hown.valN
  exact h v w (by rw [List.append_nil]; exact hown) (Keeps.refl _ _) (fun g hg => .inl hg) ⟨a1, c1, by simpa using e⟩
end
section
open Go.RowKit Go.Shelf PT
attribute [local go_sem] Oper.semAt_some
structure HoldA (R : Nat → Prop) (n0 : Nat) (T : Value) (f : UInt64 → UInt64) (N Ba Bn By l : Nat) (x : UInt64) (W : World) : Prop where
 lt0 : n0 < W.heap.size
 own : ∀ k, OwnN n0 W k → k < W.heap.size
 far : ∀ k, R k → k < W.heap.size ∧ ¬ OwnN n0 W k
 told : ReadsK R T f N W
 ba : W.heap[Ba]? = some (.cells #[.int .u64 (x.toNat : Int)] 25 (0, 0)) ∧ ¬ OwnN n0 W Ba
 bn : W.heap[Bn]? = some (.cells #[T] 153 (0, 0)) ∧ ¬ OwnN n0 W Bn
 by_ : W.heap[By]? = some (.cells #[.func (.yield l) #[] #[]] 168 (0, 0)) ∧ ¬ OwnN n0 W By
theorem HoldA.kept {R : Nat → Prop} {n0 : Nat} {T : Value} {f : UInt64 → UInt64} {N Ba Bn By l : Nat} {x : UInt64} {W W' : World} (h : HoldA R n0 T f N Ba Bn By l x W) (k : KeptAll n0 W W') : HoldA R n0 T f N Ba Bn By l x W' := by
 have hn : ∀ {b : Nat} {o : Obj}, W.heap[b]? = some o → ¬ OwnN n0 W b → W'.heap[b]? = some o ∧ ¬ OwnN n0 W' b := fun hb hn => ⟨k.kept _ _ hb hn, fun e => hn (k.old _ e (getElem?_lt hb))⟩
 exact ⟨Nat.lt_of_lt_of_le h.lt0 k.size, k.lt h.own, fun i hi => ⟨Nat.lt_of_lt_of_le (h.far i hi).1 k.size, fun e => (h.far i hi).2 (k.old _ e (h.far i hi).1)⟩, h.told.on (k.on h.far), hn h.ba.1 h.ba.2, hn h.bn.1 h.bn.2, hn h.by_.1 h.by_.2⟩
theorem HoldA.nil {R : Nat → Prop} {n0 : Nat} {T : Value} {f : UInt64 → UInt64} {N Ba Bn By l : Nat} {x : UInt64} {W W' : World} (h : HoldA R n0 T f N Ba Bn By l x W) (k : Keeps Nil W W') : HoldA R n0 T f N Ba Bn By l x W' := h.kept (KeptAll.nil k h.lt0)
def MarkD (n0 D : Nat) (W : World) : Prop := W.heap[D]? = some (.deferred (some [])) ∧ ¬ OwnN n0 W D ∧ n0 < W.heap.size
theorem MarkD.kept {n0 D : Nat} {W W' : World} (h : MarkD n0 D W) (k : KeptAll n0 W W') : MarkD n0 D W' := ⟨k.kept _ _ h.1 h.2.1, fun e => h.2.1 (k.old _ e (getElem?_lt h.1)), Nat.lt_of_lt_of_le h.2.2 k.size⟩
theorem MarkD.nil {n0 D : Nat} {W W' : World} (h : MarkD n0 D W) (k : Keeps Nil W W') : MarkD n0 D W' := h.kept (KeptAll.nil k h.2.2)
end
end Go.Proofs.YtefpbljekfkefaaGreat
