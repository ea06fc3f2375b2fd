/- DrawnE, TreeS, SortL, TreeSo, TreeCk, TreeBd, AppA: merged. -/
import Derived.Test.YtefpbljekfkefaaGreatM22
import Derived.Test.YtefpbljekfkefaaGreatM01
import Derived.Sort.Grow
import Derived.Deep.Draws
import Derived.Test.YtefpbljekfkefaaGreatM21
import Derived.Shelf.SlSortCmp.NoneTotal
import Derived.Shelf.Lay
import Derived.Ground.SlsfProg
import Derived.Test.YtefpbljekfkefaaGreatM05
import Derived.Test.YtefpbljekfkefaaGreatM12
/- What a machine has drawn off its tape never becomes less: calls; a call that turns nothing grows memory alone. -/
namespace Go.Proofs.YtefpbljekfkefaaGreat
open Go

theorem runN_up {p : Program} : ∀ (n : Nat) {m m' : Machine}, runN p n m = .next m' → m.world.drawn ≤ m'.world.drawn
  | 0, m, m', h => by
    simp only [runN, Stepped.next.injEq] at h
    rw [h]; exact Nat.le_refl _
  | n + 1, m, m', h => by
    simp only [runN] at h
    split at h
    · next m1 e => exact Nat.le_trans (step_up e) (runN_up n h)
    · next e => exact absurd h (e _)
theorem Calls.drawn {P : Program} {f : FuncId} {args : Array Value} {w : World} {R : Ending → World → Prop} (h : Calls P f args w R) (hr : ∀ e w', R e w' → ∃ v, e = .returned v) :
    Calls P f args w fun e w' => R e w' ∧ w.drawn ≤ w'.drawn := by
  intro cs
  obtain ⟨e, w', fr, hR, hc, hf, hl⟩ := h cs
  obtain ⟨v, rfl⟩ := hr _ _ hR
  refine ⟨_, w', fr, ⟨hR, ?_⟩, hc, hf, hl⟩
  obtain ⟨n, hn⟩ : Steps P _ _ := hc
  exact runN_up n hn
theorem Keeps.growth {w w' : World} (k : Keeps Nil w w') (hd : w.drawn ≤ w'.drawn) : ∃ q os', w' = Sort.grow (w.drewN q) os' := by
  refine ⟨w'.drawn - w.drawn, w'.heap.extract w.heap.size w'.heap.size, ?_⟩
  obtain ⟨h1, h2, h3, h4, h5⟩ := k
  have hh : w'.heap = w.heap ++ w'.heap.extract w.heap.size w'.heap.size := by
    apply Array.ext_getElem?
    intro i
    rw [Array.getElem?_append]
    split
    · next hi => exact h5 i hi (fun e => e)
    · next hi =>
      rw [Array.getElem?_extract]
      by_cases hl : i < w'.heap.size
      · rw [if_pos (by omega), show w.heap.size + (i - w.heap.size) = i by omega]
      · rw [if_neg (by omega), Array.getElem?_eq_none (by omega)]
  obtain ⟨heap, tape, drawn, os, output⟩ := w
  obtain ⟨heap', tape', drawn', os', output'⟩ := w'
  simp only at h1 h2 h3 hd hh
  subst h1 h2 h3
  simp only [Sort.grow, World.drewN, World.mk.injEq, true_and, and_true]
  exact ⟨hh, by omega⟩
end Go.Proofs.YtefpbljekfkefaaGreat

/- Package tree: the closure of sorted. -/
namespace Go.Proofs.YtefpbljekfkefaaGreat
open Go.RowKit PT

/-- how sorted compares two blocks -/
def cmpF (f : UInt64 → UInt64) (x y : UInt64) : Int := cmpK (sizeF f x) x (sizeF f y) y

set_option maxRecDepth 100000 in
set_option maxHeartbeats 4000000 in
theorem sorted1_any {w : World} {a : Option Addr} {f : UInt64 → UInt64} {N B : Nat} (h : Reads (.pointer a) f N w) (hB : Bx w Nil B #[.pointer a] 153) (x y : UInt64) :
    Calls Tryz.prog 161 #[.int .u64 (x.toNat : Int), .int .u64 (y.toNat : Int), .pointer (some ⟨B, 0, none⟩)] w fun e w' => e = .returned (.int .i64 (cmpF f x y)) ∧ Keeps Nil w w' := by
  obtain ⟨c, hc⟩ : ∃ c, c = cmpF f x y := ⟨_, rfl⟩
  obtain ⟨sx, hsx⟩ : ∃ s, s = sizeF f x := ⟨_, rfl⟩
  obtain ⟨sy, hsy⟩ : ∃ s, s = sizeF f y := ⟨_, rfl⟩
  have hc2 : c = cmpK sx x sy y := by rw [hc, hsx, hsy]; rfl
  rw [← hc]
  have HC := Lib.hid (And.intro hc2.symm (And.intro hsx.symm hsy.symm))
  have hT := Lib.hid h
  replace hB := Lib.hid hB
  clear h hc hsx hsy hc2
  have hst := Lib.hid (Step.refl Nil w)
  go_enter Tryz.func161, Tryz.ntmps161
  have c_B_0 := hB.out.cell 0 _ rfl
  have f_B_0 := hB.out.frz 0
  have l_B := hB.out.lt
  go_wp2_with fail
  clear c_B_0 f_B_0 l_B
  obtain ⟨W1, hW1⟩ : ∃ W, W = w.drew := ⟨_, rfl⟩
  replace hW1 := Lib.hid hW1
  have kn : Keeps Nil w W1 := by rw [hW1.out]; exact keeps_drew _
  replace hst := Lib.hid (hst.out.nil kn)
  replace hB := Lib.hid (hB.out.nil kn)
  clear kn
  refine wp_region_held_drew (S := fun w' => w'.cell? ⟨B, 0, none⟩ = some (.pointer a)) (by kernel_rfl) (by rw [← hW1.out]; exact hB.out.cell 0 _ rfl) (fun hHeld => ?_)
  rw [← hW1.out] at hHeld ⊢
  refine wpAnyH_take (i := 0) (oi := _) (v := ?m1_v) rfl (by kernel_rfl) (by kernel_rfl) (by kernel_rfl) (fun _ _ _ h => h) (Or.inl ⟨by kernel_rfl, ?m1_h⟩) hHeld ?m1_r
  case m1_h => (intro w hSw; (try dsimp only at hSw); go_simp; try with_reducible rfl)
  try simp only [Act.put, List.getElem_toArray, List.getElem_cons_zero, List.setIfInBounds_toArray, List.set_cons_zero, List.set_cons_succ]
  refine wpAnyH_take (i := 1) (oi := _) (v := ?m2_v) rfl (by kernel_rfl) (by kernel_rfl) (by kernel_rfl) (fun _ _ _ h => h) (Or.inl ⟨by kernel_rfl, ?m2_h⟩) hHeld ?m2_r
  case m2_h => (intro w hSw; (try dsimp only at hSw); go_simp; try with_reducible rfl)
  try simp only [Act.put, List.getElem_toArray, List.getElem_cons_succ, List.getElem_cons_zero, List.setIfInBounds_toArray, List.set_cons_zero, List.set_cons_succ]
  refine wpAnyH_take (i := 3) (oi := _) (v := ?m3_v) rfl (by kernel_rfl) (by kernel_rfl) (by kernel_rfl) (fun _ _ _ h => h) (Or.inl ⟨by kernel_rfl, ?m3_h⟩) hHeld ?m3_r
  case m3_h => (intro w hSw; (try dsimp only at hSw); go_simp; try with_reducible rfl)
  try simp only [Act.put, List.getElem_toArray, List.getElem_cons_succ, List.getElem_cons_zero, List.setIfInBounds_toArray, List.set_cons_zero, List.set_cons_succ]
  refine wpAnyH_take (i := 4) (oi := _) (v := ?m4_v) rfl (by kernel_rfl) (by kernel_rfl) (by kernel_rfl) (fun _ _ _ h => h) (Or.inl ⟨by kernel_rfl, ?m4_h⟩) hHeld ?m4_r
  case m4_h => (intro w hSw; (try dsimp only at hSw); go_simp; try with_reducible rfl)
  try simp only [Act.put, List.getElem_toArray, List.getElem_cons_succ, List.getElem_cons_zero, List.setIfInBounds_toArray, List.set_cons_zero, List.set_cons_succ]
  refine wpAnyH_ready (rs := [2]) (by kernel_rfl) (by simp) ?_
  refine (AllReadyH.cons (o := _) rfl (fun K hK => ?_) AllReadyH.nil)
  go_simp
  refine (key_any (hT.out.keeps hst.out.keeps) x _ rfl).mono ?_
  rintro _ W2 ⟨rfl, kn⟩
  rw [HC.out.2.1]
  replace hst := Lib.hid (hst.out.nil kn)
  replace hB := Lib.hid (hB.out.nil kn)
  clear kn
  refine hK.out _ _ (hB.out.cell 0 _ rfl) (fun hHeld => ?_)
  clear hK K
  try simp only [Act.put, List.getElem_toArray, List.getElem_cons_succ, List.getElem_cons_zero, List.setIfInBounds_toArray, List.set_cons_zero, List.set_cons_succ]
  refine wpAnyH_ready (rs := [5]) (by kernel_rfl) (by simp) ?_
  refine (AllReadyH.cons (o := _) rfl (fun K hK => ?_) AllReadyH.nil)
  go_simp
  refine (key_any (hT.out.keeps hst.out.keeps) y _ rfl).mono ?_
  rintro _ W3 ⟨rfl, kn⟩
  rw [HC.out.2.2]
  replace hst := Lib.hid (hst.out.nil kn)
  replace hB := Lib.hid (hB.out.nil kn)
  clear kn
  refine hK.out _ _ (hB.out.cell 0 _ rfl) (fun hHeld => ?_)
  clear hK K
  try simp only [Act.put, List.getElem_toArray, List.getElem_cons_succ, List.getElem_cons_zero, List.setIfInBounds_toArray, List.set_cons_zero, List.set_cons_succ]
  refine wpAnyH_ready (rs := [6]) (by kernel_rfl) (by simp) ?_
  refine (AllReadyH.cons (o := _) rfl (fun K hK => ?_) AllReadyH.nil)
  go_simp
  refine (compare_any _ sx x sy y).mono ?_
  rintro _ W4 ⟨rfl, kn⟩
  rw [HC.out.1]
  replace hst := Lib.hid (hst.out.nil kn)
  replace hB := Lib.hid (hB.out.nil kn)
  clear kn
  refine hK.out _ _ (hB.out.cell 0 _ rfl) (fun hHeld => ?_)
  clear hK K
  try simp only [Act.put, List.getElem_toArray, List.getElem_cons_succ, List.getElem_cons_zero, List.setIfInBounds_toArray, List.set_cons_zero, List.set_cons_succ]
  refine wpAnyH_take (i := 7) (oi := _) (v := ?m5_v) rfl (by kernel_rfl) (by kernel_rfl) (by kernel_rfl) (fun _ _ _ h => h) (Or.inl ⟨by kernel_rfl, ?m5_h⟩) hHeld ?m5_r
  case m5_h => (intro w hSw; (try dsimp only at hSw); go_simp; try with_reducible rfl)
  try simp only [Act.put, List.getElem_toArray, List.getElem_cons_succ, List.getElem_cons_zero, List.setIfInBounds_toArray, List.set_cons_zero, List.set_cons_succ]
  refine wpAnyH_done (by kernel_rfl) ?_ _
  clear hHeld
  have c_B_0 := hB.out.cell 0 _ rfl
  have f_B_0 := hB.out.frz 0
  have l_B := hB.out.lt
  go_wp2_with fail
  go_ret
  clear c_B_0 f_B_0 l_B
  exact ⟨rfl, hst.out.keeps⟩
end Go.Proofs.YtefpbljekfkefaaGreat

/- slices.SortFunc and slices.SortedFunc at words. -/
namespace Go.Proofs.YtefpbljekfkefaaGreat
open Go.RowKit Go.Shelf Go.Sort PT

def srtU_ren : Go.Shelf.Ren := ⟨fun | 6 => 184 | 15 => 194 | 14 => 193 | 28 => 204 | 29 => 205 | 20 => 196 | 21 => 197 | 22 => 198 | 23 => 199 | 24 => 200 | 25 => 201 | 26 => 202 | 27 => 203 | 46 => 206 | 47 => 207 | 48 => 208 | 49 => 209 | 50 => 210 | 57 => 211 | n => n, fun | 22 => 27 | 24 => 25 | 25 => 210 | 3 => 3 | 39 => 111 | 0 => 0 | 53 => 221 | 55 => 25 | 4 => 4 | 46 => 242 | 45 => 241 | 50 => 246 | 5 => 5 | 9 => 9 | 66 => 249 | 70 => 252 | 76 => 254 | 77 => 255 | n => n, fun | n => n⟩
theorem srtU : Go.Proofs.SlLaysF.n6 Tryz.prog srtU_ren where
  mixed := by kernel_rfl
  f6 := ⟨Tryz.f184.name, by decide, Tryz.func184.trans (congrArg some (by kernel_rfl))⟩
  f14 := ⟨Tryz.f193.name, by decide, Tryz.func193.trans (congrArg some (by kernel_rfl))⟩
  f15 := Tryz.func194.trans (congrArg some (by kernel_rfl))
  f20 := ⟨Tryz.f196.name, by decide, Tryz.func196.trans (congrArg some (by kernel_rfl))⟩
  f21 := ⟨Tryz.f197.name, by decide, Tryz.func197.trans (congrArg some (by kernel_rfl))⟩
  f22 := ⟨Tryz.f198.name, by decide, Tryz.func198.trans (congrArg some (by kernel_rfl))⟩
  f23 := ⟨Tryz.f199.name, by decide, Tryz.func199.trans (congrArg some (by kernel_rfl))⟩
  f24 := ⟨Tryz.f200.name, by decide, Tryz.func200.trans (congrArg some (by kernel_rfl))⟩
  f25 := ⟨Tryz.f201.name, by decide, Tryz.func201.trans (congrArg some (by kernel_rfl))⟩
  f26 := ⟨Tryz.f202.name, by decide, Tryz.func202.trans (congrArg some (by kernel_rfl))⟩
  f27 := ⟨Tryz.f203.name, by decide, Tryz.func203.trans (congrArg some (by kernel_rfl))⟩
  f28 := Tryz.func204.trans (congrArg some (by kernel_rfl))
  f29 := Tryz.func205.trans (congrArg some (by kernel_rfl))
  f46 := ⟨Tryz.f206.name, by decide, Tryz.func206.trans (congrArg some (by kernel_rfl))⟩
  f47 := Tryz.func207.trans (congrArg some (by kernel_rfl))
  f48 := Tryz.func208.trans (congrArg some (by kernel_rfl))
  f49 := ⟨Tryz.f209.name, by decide, Tryz.func209.trans (congrArg some (by kernel_rfl))⟩
  f50 := ⟨Tryz.f210.name, by decide, Tryz.func210.trans (congrArg some (by kernel_rfl))⟩
  f57 := ⟨Tryz.f211.name, by decide, Tryz.func211.trans (congrArg some (by kernel_rfl))⟩
  t0 := Tryz.underlying0
  a0 := Tryz.isAgg0
  z0 := Tryz.sizeOf0
  v0 := Tryz.zeroValue0
  t3 := Tryz.underlying3
  a3 := Tryz.isAgg3
  z3 := Tryz.sizeOf3
  v3 := Tryz.zeroValue3
  t4 := Tryz.underlying4
  a4 := Tryz.isAgg4
  z4 := Tryz.sizeOf4
  v4 := Tryz.zeroValue4
  t5 := Tryz.underlying5
  a5 := Tryz.isAgg5
  z5 := Tryz.sizeOf5
  v5 := Tryz.zeroValue5
  t9 := Tryz.underlying9
  a9 := Tryz.isAgg9
  z9 := Tryz.sizeOf9
  v9 := Tryz.zeroValue9
  t22 := Tryz.underlying27
  a22 := Tryz.isAgg27
  z22 := Tryz.sizeOf27
  v22 := Tryz.zeroValue27
  a24 := Tryz.isAgg25
  z24 := Tryz.sizeOf25
  t25 := Tryz.underlying210
  a25 := Tryz.isAgg210
  z25 := Tryz.sizeOf210
  v25 := Tryz.zeroValue210
  t39 := Tryz.underlying111
  a39 := Tryz.isAgg111
  z39 := Tryz.sizeOf111
  v39 := Tryz.zeroValue111
  t45 := Tryz.underlying241
  a45 := Tryz.isAgg241
  z45 := Tryz.sizeOf241
  v45 := Tryz.zeroValue241
  t46 := Tryz.underlying242
  a46 := Tryz.isAgg242
  z46 := Tryz.sizeOf242
  v46 := Tryz.zeroValue242
  t50 := Tryz.underlying246
  a50 := Tryz.isAgg246
  z50 := Tryz.sizeOf246
  v50 := Tryz.zeroValue246
  t53 := Tryz.underlying221
  a53 := Tryz.isAgg221
  z53 := Tryz.sizeOf221
  v53 := Tryz.zeroValue221
  t55 := Tryz.underlying25
  a55 := Tryz.isAgg25
  z55 := Tryz.sizeOf25
  v55 := Tryz.zeroValue25
  t66 := Tryz.underlying249
  a66 := Tryz.isAgg249
  z66 := Tryz.sizeOf249
  v66 := Tryz.zeroValue249
  t70 := Tryz.underlying252
  a70 := Tryz.isAgg252
  z70 := Tryz.sizeOf252
  v70 := Tryz.zeroValue252
  t76 := Tryz.underlying254
  a76 := Tryz.isAgg254
  z76 := Tryz.sizeOf254
  v76 := Tryz.zeroValue254
  t77 := Tryz.underlying255
  a77 := Tryz.isAgg255
  z77 := Tryz.sizeOf255
  v77 := Tryz.zeroValue255

abbrev encV (x : UInt64) : Value := .int .u64 (x.toNat : Int)
/-- a list sorted by 'cmp' -/
def sortF (cf : UInt64 → UInt64 → Int) (l : List UInt64) : List UInt64 := l.mergeSort fun x y => !(ltOf cf) y x
theorem sortF_length (cf : UInt64 → UInt64 → Int) (l : List UInt64) : (sortF cf l).length = l.length := by unfold sortF; exact List.length_mergeSort _
theorem sortWorld_keeps (w : World) (blk off m : Nat) (dk : Array UInt64) (os : Array Obj) : Keeps (fun k => k = blk) w (sortWorld encV w blk off m dk os) := by
  refine ⟨rfl, rfl, rfl, ?_, fun k hk hne => ?_⟩
  · simp [sortWorld, Sort.grow, putRow, mapBlock, Sort.ahead]
  · simp only [sortWorld, Sort.grow, putRow, mapBlock, Sort.ahead]
    rw [Array.getElem?_append_left (by simpa using hk), Array.getElem?_modify, if_neg (fun e => hne e.symm)]
theorem SortFunc_own {W : World} {base : Nat} {v : Value} {l : List UInt64} (h : Own kU W base v l) (hlen : l.length < 4294967296) {cf : UInt64 → UInt64 → Int} (hO : SWO (ltOf cf)) (hT : ∀ x y, (ltOf cf) x y = false → (ltOf cf) y x = false → x = y)
    {g : Nat} {cb : Array Value} (eg : ∀ args w, (callFunc g args).run Tryz.prog w = .ok (.enter g args) w)
    (hcmp : ∀ W', Keeps (fun k => v.ownBlock = some k) W W' → ∀ x y : UInt64, Calls Tryz.prog g (#[encV x, encV y] ++ cb) W' fun e W2 => e = .returned (.int .i64 (cf x y)) ∧ Keeps Nil W' W2) :
    Calls Tryz.prog 184 #[v, .func (.func g) #[] cb] W fun e W' => e = .returned (.tuple #[]) ∧ View kU (fun k => k < base) W' v (sortF cf l) ∧ Keeps (fun k => v.ownBlock = some k) W W' := by
  have hv := h.view (S := fun k => k < base) (fun k hk e => absurd e (Nat.not_lt.2 hk))
  by_cases hl : l.length = 0
  · have e0 : l = [] := List.eq_nil_of_length_eq_zero hl
    subst e0
    obtain ⟨a, cap, rfl, _⟩ := hv.val
    refine (AnyF.slices_SortFunc_none { srtU with } a cap _ W).mono ?_
    rintro e W' ⟨rfl, rfl⟩
    exact ⟨rfl, by simpa [sortF] using hv, Keeps.refl _ _⟩
  · rcases store_wfU v l h with rfl | ⟨b, cap, rfl⟩
    · obtain ⟨_, _, e, _⟩ := hv.val
      simp only [Value.slice.injEq] at e
      exact absurd e.2.1.symm hl
    · obtain ⟨_, h1, h2, h3, h4, _⟩ := hv.at
      have hH : Holds encV W b 0 l.toArray := fun j hj => by
        have hj' : j < l.length := by simpa using hj
        obtain ⟨c1, c2⟩ := Own.cellU h j hj'
        rw [Nat.zero_add]
        refine ⟨?_, c2⟩
        rw [c1, getElem!_pos l.toArray j hj]
        simp [hj']
      have hL : CmpLays1 Tryz.prog g cb encV cf b 0 l.toArray.size W := fun m os dk hs x y => by
        have k := sortWorld_keeps W b 0 m dk os
        have hc := hcmp _ (k.mono (fun i _ e => by rw [e]; rfl)) x y
        refine (Calls.drawn hc (fun e w' h => ⟨_, h.1⟩)).mono ?_
        rintro e w' ⟨⟨rfl, kn⟩, hd⟩
        exact ⟨rfl, kn.growth hd⟩
      have hcon := Any.slices_SortFunc_total srtU encV (fun _ => rfl) cf hO g cb b 0 cap l.toArray W eg hL hH h3 (by simp; omega) hT
      rw [show l.toArray.size = l.length by simp] at hcon
      refine Calls.mono hcon ?_
      rintro e W' ⟨rfl, n, os, rfl⟩
      have hs : (l.toArray.toList.mergeSort fun x y => !(ltOf cf) y x).toArray.size = l.toArray.size := by simp
      have hW := holds_sortWorld encV W b 0 n l.toArray (l.toArray.toList.mergeSort fun x y => !(ltOf cf) y x).toArray os h3 hH hs
      have hk := sortWorld_keeps W b 0 n (l.toArray.toList.mergeSort fun x y => !(ltOf cf) y x).toArray os
      refine ⟨rfl, .inr ⟨b, 0, cap, by rw [sortF_length], by rw [sortF_length]; exact h1, h2, Nat.lt_of_lt_of_le h3 hk.size, h4, fun i j hj hi => ?_⟩, hk.mono (fun i _ e => by rw [e]; rfl)⟩
      have hku : kU.size = 1 := rfl
      have hj0 : j = 0 := by rw [hku] at hj; omega
      subst hj0
      rw [hku]
      have hi2 : i < l.length := by rw [sortF_length] at hi; exact hi
      obtain ⟨c1, _⟩ := hW i (by simpa using hi2)
      rw [show 0 + (i * 1 + 0) = 0 + i by omega, c1, List.getElem?_eq_getElem hi]
      rw [getElem!_pos _ i (by simpa using hi2)]
      rfl
set_option maxRecDepth 100000 in
set_option maxHeartbeats 2000000 in
theorem SortedFunc_any {w : World} {gf : Nat} {lb : Array Value} {xs : List UInt64} {N : Nat} {Sp : List UInt64 → Prop} {R : Nat → Prop}
    (eg : ∀ args w, (callFunc gf args).run Tryz.prog w = .ok (.enter gf args) w) (hR : ∀ k, R k → k < w.heap.size) (hNl : N < 4294967296)
    (hseq : ∀ w', Keeps Nil w w' → SeqStopsK Fence.wide 3 Tryz.prog gf lb encU1 (KeptOn R) (fun ys => ys = xs) Sp N w') (hlen : xs.length < 4294967296)
    {cf : UInt64 → UInt64 → Int} (hO : SWO (ltOf cf)) (hT : ∀ x y, (ltOf cf) x y = false → (ltOf cf) y x = false → x = y)
    {g : Nat} {cb : Array Value} (eg2 : ∀ args w, (callFunc g args).run Tryz.prog w = .ok (.enter g args) w)
    (hcmp : ∀ W', Keeps Nil w W' → ∀ x y : UInt64, Calls Tryz.prog g (#[encV x, encV y] ++ cb) W' fun e W2 => e = .returned (.int .i64 (cf x y)) ∧ Keeps Nil W' W2) :
    Calls Tryz.prog 159 #[.func (.func gf) #[] lb, .func (.func g) #[] cb] w fun e w' => ∃ v, e = .returned v ∧ View kU (fun k => k < w.heap.size) w' v (sortF cf xs) ∧ Keeps Nil w w' := by
  have hc := Lib.hid (Collect_any eg hR hNl hseq)
  have HO := Lib.hid (And.intro hO hT)
  have HC := Lib.hid hcmp
  have HE := Lib.hid eg2
  clear hseq eg hR hNl hO hT hcmp eg2
  go_enter Tryz.func159, Tryz.ntmps159
  go_wp2_with fail
  refine hc.out.mono ?_
  rintro _ W1 ⟨v, rfl, ho, kn⟩
  have HO1 := Lib.hid (And.intro ho kn)
  clear ho kn
  go_wp2_with fail
  refine (SortFunc_own HO1.out.1 hlen HO.out.1 HO.out.2 HE.out (fun W' k => HC.out W' (HO1.out.2.trans k (fun i hi e => absurd (HO1.out.1.block e).1 (by omega))))).mono ?_
  rintro _ W2 ⟨rfl, hv, k2⟩
  have HV := Lib.hid (And.intro hv k2)
  clear hv k2
  go_wp2_with fail
  go_ret
  exact ⟨_, rfl, HV.out.1, HO1.out.2.trans HV.out.2 (fun i hi e => absurd (HO1.out.1.block e).1 (by omega))⟩
theorem View.blk {S : Nat → Prop} {w : World} {v : Value} {l : List UInt64} (h : View kU S w v l) {k : Nat} (hk : v.ownBlock = some k) : k < w.heap.size := by
  rcases h with ⟨rfl, _⟩ | ⟨b, off, cap, rfl, _, _, h3, _⟩
  · cases hk
  · cases hk; exact h3
end Go.Proofs.YtefpbljekfkefaaGreat

/- Package tree: sorted. -/
namespace Go.Proofs.YtefpbljekfkefaaGreat
open Go.RowKit Go.Sort PT

theorem ltOf_cmpF (f : UInt64 → UInt64) (x y : UInt64) : ltOf (cmpF f) x y = ltF szU f x y := by
  unfold ltOf cmpF
  exact cmpK_lt _ _ _ _
theorem swo_cmpF (f : UInt64 → UInt64) : SWO (ltOf (cmpF f)) where
  irrefl x := by rw [ltOf_cmpF]; exact (ltF_ord szU f).irr x
  trans x y z h1 h2 := by rw [ltOf_cmpF] at *; exact (ltF_ord szU f).trans _ _ _ h1 h2
  ntrans x y z h1 h2 := by
    rw [ltOf_cmpF] at *
    cases h : ltF szU f x z with
    | false => rfl
    | true =>
      have h3 := ltK_iff.1 h
      have a1 : ¬ _ := fun e => by rw [ltF, ltK_iff.2 e] at h1; cases h1
      have a2 : ¬ _ := fun e => by rw [ltF, ltK_iff.2 e] at h2; cases h2
      omega
theorem tot_cmpF (f : UInt64 → UInt64) (x y : UInt64) (h1 : ltOf (cmpF f) x y = false) (h2 : ltOf (cmpF f) y x = false) : x = y := by
  rw [ltOf_cmpF] at h1 h2
  have a1 : ¬ _ := fun e => by rw [ltF, ltK_iff.2 e] at h1; cases h1
  have a2 : ¬ _ := fun e => by rw [ltF, ltK_iff.2 e] at h2; cases h2
  unfold keyF at a1 a2
  dsimp only at a1 a2
  exact UInt64.toNat_inj.1 (by omega)

set_option maxRecDepth 100000 in
set_option maxHeartbeats 4000000 in
theorem sorted_any {S : Nat → Prop} {w : World} {a : Option Addr} {f : UInt64 → UInt64} {N : Nat} {R : Nat → Prop} {v : Value} {l : List UInt64} (h : ReadsK R (.pointer a) f N w) (hR : ∀ k, R k → k < w.heap.size) (hv : View kU S w v l) (hlen : l.length < 4294967296) :
    Calls Tryz.prog 105 #[.pointer a, v] w fun e w' => ∃ v', e = .returned v' ∧ View kU (fun k => k < w.heap.size) w' v' (sortF (cmpF f) l) ∧ Keeps Nil w w' := by
  have HR := Lib.hid (And.intro h hR)
  have HV := Lib.hid hv
  have HLN := Lib.hid hlen
  obtain ⟨al, cl, rfl, _⟩ := hv.val
  obtain ⟨v, hvv⟩ : ∃ v, v = Value.slice al l.length cl := ⟨_, rfl⟩
  have hone : v.oneCell' = true := by rw [hvv]; rfl
  rw [← hvv] at HV ⊢
  clear h hR hv hlen hvv
  have hst := Lib.hid (Step.refl Nil w)
  go_enter Tryz.func105, Tryz.ntmps105
  obtain ⟨W1, hW1⟩ : ∃ W, W = w.alloc (.cells #[.pointer a] 153) := ⟨_, rfl⟩
  obtain ⟨B1, eB1⟩ : ∃ B, B = w.heap.size := ⟨_, rfl⟩
  replace hW1 := Lib.hid hW1
  replace eB1 := Lib.hid eB1
  go_wp2_with fail
  rw [← hW1.out]
  try rw [← eB1.out]
  have k1 : Keeps Nil w W1 := by rw [hW1.out]; exact alloc_keeps _ _
  have e0B1 : B1 = w.heap.size := by rw [eB1.out]
  have hB1 := Lib.hid (show Bx W1 Nil B1 #[.pointer a] 153 by rw [hW1.out]; exact Bx.new Nil.lt _ _ e0B1)
  have gB1 := Lib.hid (show w.heap.size ≤ B1 by rw [e0B1]; exact hst.out.keeps.size)
  replace hst := Lib.hid (hst.out.nil k1)
  clear k1 e0B1
  refine (Values_any v hone W1).mono ?_
  rintro _ W2 ⟨rfl, hw⟩
  have kn : Keeps Nil W1 W2 := by rw [hw]; exact alloc_keeps _ _
  have hBv := Lib.hid (show Bx W2 Nil W1.heap.size #[v] 27 by rw [hw]; exact Bx.new Nil.lt _ _ rfl)
  obtain ⟨bv, ebv⟩ : ∃ b, b = W1.heap.size := ⟨_, rfl⟩
  rw [← ebv] at hBv ⊢
  clear hw ebv
  replace hst := Lib.hid (hst.out.nil kn)
  replace hB1 := Lib.hid (hB1.out.nil kn)
  clear kn
  have c_B1_0 := hB1.out.cell 0 _ rfl
  have f_B1_0 := hB1.out.frz 0
  have l_B1 := hB1.out.lt
  go_wp2_with fail
  clear c_B1_0 f_B1_0 l_B1
  have hsz0 := Lib.hid hst.out.keeps.size
  refine (SortedFunc_any (xs := l) (N := l.length) (Sp := fun pre => ∃ k, k ≤ l.length ∧ pre = l.take k) (R := valR bv v) (enters_of Tryz.func185 (by kernel_rfl) rfl) (fun k hk => hk.elim (fun e => by rw [e]; exact hBv.out.lt) (fun e => Nat.lt_of_lt_of_le (HV.out.blk e) hst.out.keeps.size)) HLN.out (fun w2 k2 => values_stops 3 (by omega) bv (HV.out.keeps_nil (hst.out.keeps.trans' k2)) HLN.out (hBv.out.nil k2).lt ((hBv.out.nil k2).cell 0 _ rfl)) HLN.out (swo_cmpF f) (tot_cmpF f) (enters_of Tryz.func161 (by kernel_rfl) rfl) (fun W2 k2 x y => sorted1_any (HR.out.1.keeps HR.out.2 (hst.out.keeps.trans' k2)).reads (hB1.out.nil k2) x y)).mono ?_
  rintro _ W3 ⟨v9, rfl, hv9, kn⟩
  have HV9 := Lib.hid (And.intro hv9 kn)
  clear hv9
  replace hst := Lib.hid (hst.out.nil kn)
  replace hB1 := Lib.hid (hB1.out.nil kn)
  clear kn
  have c_B1_0 := hB1.out.cell 0 _ rfl
  have f_B1_0 := hB1.out.frz 0
  have l_B1 := hB1.out.lt
  go_wp2_with fail
  go_ret
  clear c_B1_0 f_B1_0 l_B1
  exact ⟨_, rfl, HV9.out.1.shut (fun g hg e => Nat.lt_of_lt_of_le e hsz0.out), hst.out.keeps⟩
end Go.Proofs.YtefpbljekfkefaaGreat

/- Package tree: Check. -/
namespace Go.Proofs.YtefpbljekfkefaaGreat
open Go.RowKit PT

/-- is it the tree of a list? -/
def checkT (f : UInt64 → UInt64) (T : Tr) : Bool := allP f (putsT T) && f 32 == T.root

set_option maxRecDepth 100000 in
set_option maxHeartbeats 4000000 in
theorem Check_any {w : World} {t n : Nat} {S S2 : Nat → Prop} {f : UInt64 → UInt64} {v : Value} {l : List UInt64} {T : Tr} (hT0 : TxF w t f n S) (hv : View kU S2 w v l) (hlen : l.length < 4294967296) (hh : T.Heap mixU) (hl : T.list = sortF (cmpF f) l) :
    Calls Tryz.prog 48 #[.pointer (some ⟨t, 0, none⟩), v] w fun e w' => e = .returned (.bool (checkT f T)) ∧ Keeps Nil w w' := by
  have hT := Lib.hid hT0.reads
  have HF := Lib.hid hT0
  have HV := Lib.hid hv
  have HT := Lib.hid (And.intro hlen (And.intro hh hl))
  clear hT0 hv hlen hh hl
  cases hb : allP f (putsT T) with
  | false =>
    have HB := Lib.hid hb
    have HA := Lib.hid (show checkT f T = false by unfold checkT; rw [hb]; rfl)
    clear hb
    have hst := Lib.hid (Step.refl Nil w)
    go_enter Tryz.func48, Tryz.ntmps48
    obtain ⟨W1, hW1⟩ : ∃ W, W = w.alloc (.cells #[.pointer (some ⟨t, 0, none⟩)] 24) := ⟨_, rfl⟩
    obtain ⟨B1, eB1⟩ : ∃ B, B = w.heap.size := ⟨_, rfl⟩
    replace hW1 := Lib.hid hW1
    replace eB1 := Lib.hid eB1
    obtain ⟨W2, hW2⟩ : ∃ W, W = W1.alloc (.cells #[.bool true] 4) := ⟨_, rfl⟩
    obtain ⟨B2, eB2⟩ : ∃ B, B = w.heap.size + 1 := ⟨_, rfl⟩
    replace hW2 := Lib.hid hW2
    replace eB2 := Lib.hid eB2
    go_wp2_with fail
    rw [← hW1.out]
    rw [← hW2.out]
    try rw [← eB2.out]
    try rw [← eB1.out]
    have k1 : Keeps Nil w W1 := by rw [hW1.out]; exact alloc_keeps _ _
    have e0B1 : B1 = w.heap.size := by rw [eB1.out]
    have hB1 := Lib.hid (show Bx W1 Nil B1 #[.pointer (some ⟨t, 0, none⟩)] 24 by rw [hW1.out]; exact Bx.new Nil.lt _ _ e0B1)
    have gB1 := Lib.hid (show w.heap.size ≤ B1 by rw [e0B1]; exact hst.out.keeps.size)
    replace hst := Lib.hid (hst.out.nil k1)
    clear k1 e0B1
    have k2 : Keeps Nil W1 W2 := by rw [hW2.out]; exact alloc_keeps _ _
    have e0B2 : B2 = W1.heap.size := by rw [eB2.out, hW1.out]; simp []
    have hB2 := Lib.hid (show Bx W2 Nil B2 #[.bool true] 4 by rw [hW2.out]; exact Bx.new Nil.lt _ _ e0B2)
    have gB2 := Lib.hid (show w.heap.size ≤ B2 by rw [e0B2]; exact hst.out.keeps.size)
    have nB1B2 := Lib.hid (show B1 < B2 by rw [e0B2]; exact hB1.out.lt)
    replace hst := Lib.hid (hst.out.nil k2)
    replace hB1 := Lib.hid (hB1.out.nil k2)
    clear k2 e0B2
    have hB2o := Lib.hid hB2.out.lt
    refine (sorted_any (HF.out.nil hst.out.keeps).readsK (HF.out.nil hst.out.keeps).lt (HV.out.keeps_nil hst.out.keeps) HT.out.1).mono ?_
    rintro _ W3 ⟨v9, rfl, hv9, kn⟩
    have HV9 := Lib.hid hv9
    clear hv9
    replace hst := Lib.hid (hst.out.nil kn)
    replace hB1 := Lib.hid (hB1.out.nil kn)
    replace hB2 := Lib.hid (hB2.out.nil kn)
    clear kn
    have c_B1_0 := hB1.out.cell 0 _ rfl
    have f_B1_0 := hB1.out.frz 0
    have l_B1 := hB1.out.lt
    have c_B2_0 := hB2.out.cell 0 _ rfl
    have f_B2_0 := hB2.out.frz 0
    have l_B2 := hB2.out.lt
    go_wp2_with fail
    clear c_B1_0 f_B1_0 l_B1 c_B2_0 f_B2_0 l_B2
    refine (built_any (P := fun k => k = B2) (J := ToldC W3 t B2 B1 n f S) (la := #[]) (lb := #[.pointer (some ⟨B2, 0, none⟩), .pointer (some ⟨B1, 0, none⟩)]) (enters_of Tryz.func106 (by kernel_rfl) rfl) (fun W ps h => h.2.2.2) (fun W W' ps h k => h.nil k) (fun W ps x y h => by have := check1_any nB1B2.out x y h; simpa using this) (t := T) (show View kU _ _ _ T.list by rw [HT.out.2.2]; exact HV9.out.shut (fun g hg e => by rw [e]; exact hB2o.out)) HT.out.2.1 _ [] ⟨⟨hB2.out.1, fun e => Nat.lt_irrefl _ (Nat.lt_of_lt_of_le (HF.out.lt _ e) gB2.out)⟩, ⟨hB1.out.1, fun e => Nat.lt_irrefl _ (Nat.lt_of_lt_of_le (HF.out.lt _ e) gB1.out)⟩, HF.out.nil hst.out.keeps, Keeps.refl _ _⟩).mono ?_
    rintro _ W4 ⟨rfl, hJ⟩
    have HJ := Lib.hid hJ
    clear hJ
    replace hst := Lib.hid (Step.of_nil (S := Nil) (hst.out.keeps.trans HJ.out.2.2.2 (fun i hi e => absurd gB2.out (by rw [← e]; omega))))
    replace hB1 := Lib.hid (show Bx W4 Nil B1 #[.pointer (some ⟨t, 0, none⟩)] 24 from ⟨HJ.out.2.1.1, fun e => e⟩)
    replace hB2 := Lib.hid (show Bx W4 Nil B2 #[.bool false] 4 from ⟨by have := HJ.out.1.1; rw [List.nil_append, HB.out] at this; exact this, fun e => e⟩)
    have c_B1_0 := hB1.out.cell 0 _ rfl
    have f_B1_0 := hB1.out.frz 0
    have l_B1 := hB1.out.lt
    have c_B2_0 := hB2.out.cell 0 _ rfl
    have f_B2_0 := hB2.out.frz 0
    have l_B2 := hB2.out.lt
    go_wp2_with fail
    go_ret
    clear c_B1_0 f_B1_0 l_B1 c_B2_0 f_B2_0 l_B2
    exact ⟨by rw [HA.out]; rfl, hst.out.keeps⟩
  | true =>
    have HB := Lib.hid hb
    by_cases hq : f 32 = T.root
    · have HQ := Lib.hid hq
      have HA := Lib.hid (show checkT f T = true by unfold checkT; rw [hb, hq]; simp)
      clear hb hq
      have hst := Lib.hid (Step.refl Nil w)
      go_enter Tryz.func48, Tryz.ntmps48
      obtain ⟨W1, hW1⟩ : ∃ W, W = w.alloc (.cells #[.pointer (some ⟨t, 0, none⟩)] 24) := ⟨_, rfl⟩
      obtain ⟨B1, eB1⟩ : ∃ B, B = w.heap.size := ⟨_, rfl⟩
      replace hW1 := Lib.hid hW1
      replace eB1 := Lib.hid eB1
      obtain ⟨W2, hW2⟩ : ∃ W, W = W1.alloc (.cells #[.bool true] 4) := ⟨_, rfl⟩
      obtain ⟨B2, eB2⟩ : ∃ B, B = w.heap.size + 1 := ⟨_, rfl⟩
      replace hW2 := Lib.hid hW2
      replace eB2 := Lib.hid eB2
      go_wp2_with fail
      rw [← hW1.out]
      rw [← hW2.out]
      try rw [← eB2.out]
      try rw [← eB1.out]
      have k1 : Keeps Nil w W1 := by rw [hW1.out]; exact alloc_keeps _ _
      have e0B1 : B1 = w.heap.size := by rw [eB1.out]
      have hB1 := Lib.hid (show Bx W1 Nil B1 #[.pointer (some ⟨t, 0, none⟩)] 24 by rw [hW1.out]; exact Bx.new Nil.lt _ _ e0B1)
      have gB1 := Lib.hid (show w.heap.size ≤ B1 by rw [e0B1]; exact hst.out.keeps.size)
      replace hst := Lib.hid (hst.out.nil k1)
      clear k1 e0B1
      have k2 : Keeps Nil W1 W2 := by rw [hW2.out]; exact alloc_keeps _ _
      have e0B2 : B2 = W1.heap.size := by rw [eB2.out, hW1.out]; simp []
      have hB2 := Lib.hid (show Bx W2 Nil B2 #[.bool true] 4 by rw [hW2.out]; exact Bx.new Nil.lt _ _ e0B2)
      have gB2 := Lib.hid (show w.heap.size ≤ B2 by rw [e0B2]; exact hst.out.keeps.size)
      have nB1B2 := Lib.hid (show B1 < B2 by rw [e0B2]; exact hB1.out.lt)
      replace hst := Lib.hid (hst.out.nil k2)
      replace hB1 := Lib.hid (hB1.out.nil k2)
      clear k2 e0B2
      have hB2o := Lib.hid hB2.out.lt
      refine (sorted_any (HF.out.nil hst.out.keeps).readsK (HF.out.nil hst.out.keeps).lt (HV.out.keeps_nil hst.out.keeps) HT.out.1).mono ?_
      rintro _ W3 ⟨v9, rfl, hv9, kn⟩
      have HV9 := Lib.hid hv9
      clear hv9
      replace hst := Lib.hid (hst.out.nil kn)
      replace hB1 := Lib.hid (hB1.out.nil kn)
      replace hB2 := Lib.hid (hB2.out.nil kn)
      clear kn
      have c_B1_0 := hB1.out.cell 0 _ rfl
      have f_B1_0 := hB1.out.frz 0
      have l_B1 := hB1.out.lt
      have c_B2_0 := hB2.out.cell 0 _ rfl
      have f_B2_0 := hB2.out.frz 0
      have l_B2 := hB2.out.lt
      go_wp2_with fail
      clear c_B1_0 f_B1_0 l_B1 c_B2_0 f_B2_0 l_B2
      refine (built_any (P := fun k => k = B2) (J := ToldC W3 t B2 B1 n f S) (la := #[]) (lb := #[.pointer (some ⟨B2, 0, none⟩), .pointer (some ⟨B1, 0, none⟩)]) (enters_of Tryz.func106 (by kernel_rfl) rfl) (fun W ps h => h.2.2.2) (fun W W' ps h k => h.nil k) (fun W ps x y h => by have := check1_any nB1B2.out x y h; simpa using this) (t := T) (show View kU _ _ _ T.list by rw [HT.out.2.2]; exact HV9.out.shut (fun g hg e => by rw [e]; exact hB2o.out)) HT.out.2.1 _ [] ⟨⟨hB2.out.1, fun e => Nat.lt_irrefl _ (Nat.lt_of_lt_of_le (HF.out.lt _ e) gB2.out)⟩, ⟨hB1.out.1, fun e => Nat.lt_irrefl _ (Nat.lt_of_lt_of_le (HF.out.lt _ e) gB1.out)⟩, HF.out.nil hst.out.keeps, Keeps.refl _ _⟩).mono ?_
      rintro _ W4 ⟨rfl, hJ⟩
      have HJ := Lib.hid hJ
      clear hJ
      replace hst := Lib.hid (Step.of_nil (S := Nil) (hst.out.keeps.trans HJ.out.2.2.2 (fun i hi e => absurd gB2.out (by rw [← e]; omega))))
      replace hB1 := Lib.hid (show Bx W4 Nil B1 #[.pointer (some ⟨t, 0, none⟩)] 24 from ⟨HJ.out.2.1.1, fun e => e⟩)
      replace hB2 := Lib.hid (show Bx W4 Nil B2 #[.bool true] 4 from ⟨by have := HJ.out.1.1; rw [List.nil_append, HB.out] at this; exact this, fun e => e⟩)
      have c_B1_0 := hB1.out.cell 0 _ rfl
      have f_B1_0 := hB1.out.frz 0
      have l_B1 := hB1.out.lt
      have c_B2_0 := hB2.out.cell 0 _ rfl
      have f_B2_0 := hB2.out.frz 0
      have l_B2 := hB2.out.lt
      go_wp2_with fail
      clear c_B1_0 f_B1_0 l_B1 c_B2_0 f_B2_0 l_B2
      refine (hRoot_any (hT.out.keeps hst.out.keeps)).mono ?_
      rintro _ W5 ⟨rfl, kn⟩
      replace hst := Lib.hid (hst.out.nil kn)
      replace hB1 := Lib.hid (hB1.out.nil kn)
      replace hB2 := Lib.hid (hB2.out.nil kn)
      clear kn
      have d1 : ((((f 32).toNat : Int) : Int) == ((T.root.toNat : Int) : Int)) = true := (same_u64 (a := (f 32)) (b := T.root) (HQ.out)).2
      have c_B1_0 := hB1.out.cell 0 _ rfl
      have f_B1_0 := hB1.out.frz 0
      have l_B1 := hB1.out.lt
      have c_B2_0 := hB2.out.cell 0 _ rfl
      have f_B2_0 := hB2.out.frz 0
      have l_B2 := hB2.out.lt
      go_wp2_with fail
      go_ret
      clear c_B1_0 f_B1_0 l_B1 c_B2_0 f_B2_0 l_B2
      exact ⟨by rw [HA.out]; rfl, hst.out.keeps⟩
    · have HQ := Lib.hid hq
      have HA := Lib.hid (show checkT f T = false by unfold checkT; rw [hb]; simp [hq])
      clear hb hq
      have hst := Lib.hid (Step.refl Nil w)
      go_enter Tryz.func48, Tryz.ntmps48
      obtain ⟨W1, hW1⟩ : ∃ W, W = w.alloc (.cells #[.pointer (some ⟨t, 0, none⟩)] 24) := ⟨_, rfl⟩
      obtain ⟨B1, eB1⟩ : ∃ B, B = w.heap.size := ⟨_, rfl⟩
      replace hW1 := Lib.hid hW1
      replace eB1 := Lib.hid eB1
      obtain ⟨W2, hW2⟩ : ∃ W, W = W1.alloc (.cells #[.bool true] 4) := ⟨_, rfl⟩
      obtain ⟨B2, eB2⟩ : ∃ B, B = w.heap.size + 1 := ⟨_, rfl⟩
      replace hW2 := Lib.hid hW2
      replace eB2 := Lib.hid eB2
      go_wp2_with fail
      rw [← hW1.out]
      rw [← hW2.out]
      try rw [← eB2.out]
      try rw [← eB1.out]
      have k1 : Keeps Nil w W1 := by rw [hW1.out]; exact alloc_keeps _ _
      have e0B1 : B1 = w.heap.size := by rw [eB1.out]
      have hB1 := Lib.hid (show Bx W1 Nil B1 #[.pointer (some ⟨t, 0, none⟩)] 24 by rw [hW1.out]; exact Bx.new Nil.lt _ _ e0B1)
      have gB1 := Lib.hid (show w.heap.size ≤ B1 by rw [e0B1]; exact hst.out.keeps.size)
      replace hst := Lib.hid (hst.out.nil k1)
      clear k1 e0B1
      have k2 : Keeps Nil W1 W2 := by rw [hW2.out]; exact alloc_keeps _ _
      have e0B2 : B2 = W1.heap.size := by rw [eB2.out, hW1.out]; simp []
      have hB2 := Lib.hid (show Bx W2 Nil B2 #[.bool true] 4 by rw [hW2.out]; exact Bx.new Nil.lt _ _ e0B2)
      have gB2 := Lib.hid (show w.heap.size ≤ B2 by rw [e0B2]; exact hst.out.keeps.size)
      have nB1B2 := Lib.hid (show B1 < B2 by rw [e0B2]; exact hB1.out.lt)
      replace hst := Lib.hid (hst.out.nil k2)
      replace hB1 := Lib.hid (hB1.out.nil k2)
      clear k2 e0B2
      have hB2o := Lib.hid hB2.out.lt
      refine (sorted_any (HF.out.nil hst.out.keeps).readsK (HF.out.nil hst.out.keeps).lt (HV.out.keeps_nil hst.out.keeps) HT.out.1).mono ?_
      rintro _ W3 ⟨v9, rfl, hv9, kn⟩
      have HV9 := Lib.hid hv9
      clear hv9
      replace hst := Lib.hid (hst.out.nil kn)
      replace hB1 := Lib.hid (hB1.out.nil kn)
      replace hB2 := Lib.hid (hB2.out.nil kn)
      clear kn
      have c_B1_0 := hB1.out.cell 0 _ rfl
      have f_B1_0 := hB1.out.frz 0
      have l_B1 := hB1.out.lt
      have c_B2_0 := hB2.out.cell 0 _ rfl
      have f_B2_0 := hB2.out.frz 0
      have l_B2 := hB2.out.lt
      go_wp2_with fail
      clear c_B1_0 f_B1_0 l_B1 c_B2_0 f_B2_0 l_B2
      refine (built_any (P := fun k => k = B2) (J := ToldC W3 t B2 B1 n f S) (la := #[]) (lb := #[.pointer (some ⟨B2, 0, none⟩), .pointer (some ⟨B1, 0, none⟩)]) (enters_of Tryz.func106 (by kernel_rfl) rfl) (fun W ps h => h.2.2.2) (fun W W' ps h k => h.nil k) (fun W ps x y h => by have := check1_any nB1B2.out x y h; simpa using this) (t := T) (show View kU _ _ _ T.list by rw [HT.out.2.2]; exact HV9.out.shut (fun g hg e => by rw [e]; exact hB2o.out)) HT.out.2.1 _ [] ⟨⟨hB2.out.1, fun e => Nat.lt_irrefl _ (Nat.lt_of_lt_of_le (HF.out.lt _ e) gB2.out)⟩, ⟨hB1.out.1, fun e => Nat.lt_irrefl _ (Nat.lt_of_lt_of_le (HF.out.lt _ e) gB1.out)⟩, HF.out.nil hst.out.keeps, Keeps.refl _ _⟩).mono ?_
      rintro _ W4 ⟨rfl, hJ⟩
      have HJ := Lib.hid hJ
      clear hJ
      replace hst := Lib.hid (Step.of_nil (S := Nil) (hst.out.keeps.trans HJ.out.2.2.2 (fun i hi e => absurd gB2.out (by rw [← e]; omega))))
      replace hB1 := Lib.hid (show Bx W4 Nil B1 #[.pointer (some ⟨t, 0, none⟩)] 24 from ⟨HJ.out.2.1.1, fun e => e⟩)
      replace hB2 := Lib.hid (show Bx W4 Nil B2 #[.bool true] 4 from ⟨by have := HJ.out.1.1; rw [List.nil_append, HB.out] at this; exact this, fun e => e⟩)
      have c_B1_0 := hB1.out.cell 0 _ rfl
      have f_B1_0 := hB1.out.frz 0
      have l_B1 := hB1.out.lt
      have c_B2_0 := hB2.out.cell 0 _ rfl
      have f_B2_0 := hB2.out.frz 0
      have l_B2 := hB2.out.lt
      go_wp2_with fail
      clear c_B1_0 f_B1_0 l_B1 c_B2_0 f_B2_0 l_B2
      refine (hRoot_any (hT.out.keeps hst.out.keeps)).mono ?_
      rintro _ W5 ⟨rfl, kn⟩
      replace hst := Lib.hid (hst.out.nil kn)
      replace hB1 := Lib.hid (hB1.out.nil kn)
      replace hB2 := Lib.hid (hB2.out.nil kn)
      clear kn
      have d1 : ((((f 32).toNat : Int) : Int) == ((T.root.toNat : Int) : Int)) = false := (unlike_u64 (a := (f 32)) (b := T.root) (HQ.out)).2
      have c_B1_0 := hB1.out.cell 0 _ rfl
      have f_B1_0 := hB1.out.frz 0
      have l_B1 := hB1.out.lt
      have c_B2_0 := hB2.out.cell 0 _ rfl
      have f_B2_0 := hB2.out.frz 0
      have l_B2 := hB2.out.lt
      go_wp2_with fail
      go_ret
      clear c_B1_0 f_B1_0 l_B1 c_B2_0 f_B2_0 l_B2
      exact ⟨by rw [HA.out]; rfl, hst.out.keeps⟩
end Go.Proofs.YtefpbljekfkefaaGreat

/- Package tree: Build. -/
namespace Go.Proofs.YtefpbljekfkefaaGreat
open Go.RowKit PT

def stAll (n : Nat) (f : UInt64 → UInt64) (ps : List Put) : UInt64 → UInt64 := ps.foldl (fun g p => PT.stF n g p.1 p.2) f
theorem stAll_add (n : Nat) (f : UInt64 → UInt64) (ps : List Put) (x y : UInt64) : stAll n f (ps ++ [(x, y)]) = PT.stF n (stAll n f ps) x y := by simp [stAll]
/-- words have been stored, in turn -/
def ToldB (w0 : World) (t n : Nat) (f : UInt64 → UInt64) (S : Nat → Prop) (W : World) (ps : List Put) : Prop := ∃ S', TxF W t (stAll n f ps) n S' ∧ Step S S' w0 W
theorem ToldB.nil {w0 W W' : World} {t n : Nat} {f : UInt64 → UInt64} {S : Nat → Prop} {ps : List Put} (h : ToldB w0 t n f S W ps) (k : Keeps Nil W W') : ToldB w0 t n f S W' ps := by
  obtain ⟨S', h1, h2⟩ := h
  exact ⟨S', h1.nil k, h2.nil k⟩
theorem ToldB.put {w0 W : World} {t n : Nat} {f : UInt64 → UInt64} {S : Nat → Prop} {ps : List Put} (h : ToldB w0 t n f S W ps) (x y : UInt64) :
    Calls Tryz.prog 36 #[.pointer (some ⟨t, 0, none⟩), .int .u64 (x.toNat : Int), .int .u64 (y.toNat : Int)] W fun e W' => e = .returned (.tuple #[]) ∧ ToldB w0 t n f S W' (ps ++ [(x, y)]) := by
  obtain ⟨S', h1, h2⟩ := h
  refine (h1.store x y _ _ rfl rfl).mono ?_
  rintro e w' ⟨rfl, S2, h3, h4⟩
  exact ⟨rfl, S2, by rw [stAll_add]; exact h3, h2.trans h4⟩

set_option maxRecDepth 100000 in
set_option maxHeartbeats 4000000 in
theorem Build_any {w : World} {t n : Nat} {S S2 : Nat → Prop} {f : UInt64 → UInt64} {v : Value} {l : List UInt64} {T : Tr} (hT0 : TxF w t f n S) (hv : View kU S2 w v l) (hlen : l.length < 4294967296) (hh : T.Heap mixU) (hl : T.list = sortF (cmpF f) l) :
    Calls Tryz.prog 53 #[.pointer (some ⟨t, 0, none⟩), v] w fun e w' => e = .returned (.tuple #[]) ∧ ∃ S', TxF w' t (PT.stF n (stAll n f (putsT T)) 32 T.root) n S' ∧ Step S S' w w' := by
  have hT := Lib.hid hT0
  have HV := Lib.hid hv
  have HT := Lib.hid (And.intro hlen (And.intro hh hl))
  obtain ⟨rt, hrt⟩ : ∃ r, r = T.root := ⟨_, rfl⟩
  have HRT := Lib.hid hrt
  clear hT0 hv hlen hh hl hrt
  have hst := Lib.hid (Step.refl S w)
  go_enter Tryz.func53, Tryz.ntmps53
  go_wp2_with fail
  refine (sorted_any hT.out.readsK hT.out.lt HV.out HT.out.1).mono ?_
  have hlt0 := Lib.hid hT.out.lt
  rintro _ W1 ⟨v9, rfl, hv9, kn⟩
  have HV9 := Lib.hid hv9
  clear hv9
  replace hst := Lib.hid (hst.out.nil kn)
  replace hT := Lib.hid (hT.out.nil kn)
  clear kn
  go_wp2_with fail
  refine (built_any (P := S) (J := ToldB W1 t n f S) (la := #[.pointer (some ⟨t, 0, none⟩)]) (lb := #[]) (enters_of Tryz.func36 (by kernel_rfl) rfl) (fun W ps h => h.elim fun _ h => h.2.keeps) (fun W W' ps h k => h.nil k) (fun W ps x y h => by have := h.put x y; simpa using this) (t := T) (show View kU S _ _ T.list by rw [HT.out.2.2]; exact HV9.out.shut (fun g hg e => hlt0.out g e)) HT.out.2.1 _ [] ⟨S, hT.out, Step.refl _ _⟩).mono ?_
  rintro _ W2 ⟨rfl, hJ⟩
  obtain ⟨S9, hT9, k9⟩ := hJ
  rw [List.nil_append] at hT9
  replace hT := Lib.hid hT9
  replace hst := Lib.hid (hst.out.trans k9)
  clear hT9 k9
  rw [← HRT.out]
  go_wp2_with fail
  refine (plantF_any hT.out rt _ rfl).mono ?_
  rintro _ W3 ⟨rfl, S1, hT2, kn⟩
  replace hst := Lib.hid (hst.out.trans kn)
  replace hT := Lib.hid hT2
  clear kn hT2
  go_wp2_with fail
  go_end0
  exact ⟨rfl, _, by rw [← HRT.out]; exact hT.out, hst.out⟩
end Go.Proofs.YtefpbljekfkefaaGreat

/- append(v, l...): all of another slice, whatever it is. -/
namespace Go.Proofs.YtefpbljekfkefaaGreat
open Go.RowKit

theorem Own.valN {α : Type} {K : Kind α} {w : World} {base : Nat} {v : Value} {l : List α} (h : Own K w base v l) : ∃ a c, v = .slice a l.length c := by
  rcases h.2 with ⟨rfl, h0⟩ | ⟨g, cap, cur, rfl, _⟩
  · exact ⟨none, 0, by rw [h0]⟩
  · exact ⟨_, _, rfl⟩
theorem wpList_append_any {α : Type} (K : Kind α) {w : World} {S : Nat → Prop} {ops : Array Oper} {rest : List Oper} {o : Oper} {a : Act} {Q : Exit → Act → World → Prop} (hgd : o.guard = none) (s x : Operand)
    (ho : o.op = .call { callee := .builtin .append, args := #[s, x], argTypes := #[K.slice, K.slice] })
    {base : Nat} {v v2 : Value} {l l2 : List α} (hown : Own K w base v l) (hs : a.eval s = v) (hx : a.eval x = v2) (hv : View K S w v2 l2) (n : Nat) (hnn : l.length + l2.length = n) (hn : n * K.bytes ≤ 140737488355328) (hbase : base ≤ w.heap.size) (hb1 : 0 < K.bytes)
    (h : ∀ v' w', Own K w' base v' (l ++ l2) → Keeps (fun k => v.ownBlock = some k) w w' → (∀ g, v'.ownBlock = some g → v.ownBlock = some g ∨ w.heap.size ≤ g) → (∃ a c, v' = .slice a n c) → wpList Tryz.prog ops Q rest (a.put o.dst v') w') :
    wpList Tryz.prog ops Q (o :: rest) a w := by
  subst hnn
  by_cases h0 : 0 < l2.length
  · refine wpList_append_all K hgd s x ho hown hs hx hv h0 hn hbase hb1 (fun v' w' h1 h2 ⟨g, cap, e, hg⟩ => h v' w' h1 h2 (fun g' hg' => ?_) ⟨_, _, e⟩)
    subst e
    simp only [Value.ownBlock, Option.some.injEq] at hg'
    subst hg'
    exact hg
  · obtain rfl : l2 = [] := List.eq_nil_of_length_eq_zero (by omega)
    obtain ⟨a2, c2, rfl, _⟩ := hv.val
    refine wpList_append_zero K hgd s x ho hown hs a2 c2 hx ?_
    obtain ⟨a1, c1, e⟩ := hown.valN
    exact h v w (by rw [List.append_nil]; exact hown) (Keeps.refl _ _) (fun g hg => .inl hg) ⟨a1, c1, by simpa using e⟩
theorem Keeps.transN {S S' : Nat → Prop} {a b c : World} (h : Keeps S a b) (k : Keeps S' b c) (hS : ∀ i, i < a.heap.size → S' i → S i) : Keeps S a c := h.trans k hS
/-- a slice value's length -/
def sliceN : Value → Nat
  | .slice _ n _ => n
  | _ => 0
end Go.Proofs.YtefpbljekfkefaaGreat
