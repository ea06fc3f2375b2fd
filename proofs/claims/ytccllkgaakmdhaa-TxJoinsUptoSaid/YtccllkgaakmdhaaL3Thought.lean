/- carracklaw03.thought. -/
import Derived.Test.YtccllkgaakmdhaaL3Filled
import Derived.Test.YtccllkgaakmdhaaMem
namespace Go.Proofs.Ytccllkgaakmdhaa
open Go.RowKit

/-- what is thought of behind stores, in turn -/
def thP (ws : List UInt64) (k : List Put) : List Put := k.foldl (fun acc x => txStore ws acc x.1 x.2) []
theorem thP_snoc (ws : List UInt64) (k : List Put) (x : Put) : thP ws (k ++ [x]) = txStore ws (thP ws k) x.1 x.2 := by simp [thP]
theorem thP_take {ws : List UInt64} {l : List Put} {k : Nat} {x : Put} (h : l[k]? = some x) : thP ws (l.take (k + 1)) = txStore ws (thP ws (l.take k)) x.1 x.2 := by rw [take_succ' h, thP_snoc]
theorem storeP_length (l : List Put) (off v : UInt64) : (storeP l off v).length ≤ l.length + 1 := by
  induction l with
  | nil => simp [storeP]
  | cons x l ih => simp only [storeP]; split <;> simp; omega
theorem txStore_length (ws : List UInt64) (l : List Put) (off v : UInt64) : (txStore ws l off v).length ≤ l.length + 1 := by
  unfold txStore; split
  · exact storeP_length l off v
  · omega
theorem foldl_store_length (ws : List UInt64) (k : List Put) : ∀ acc : List Put, (k.foldl (fun acc x => txStore ws acc x.1 x.2) acc).length ≤ acc.length + k.length := by
  induction k with
  | nil => intro acc; simp
  | cons x k ih =>
    intro acc
    have h1 := ih (txStore ws acc x.1 x.2)
    have h2 := txStore_length ws acc x.1 x.2
    simp only [List.foldl_cons, List.length_cons]
    omega
theorem thP_length (ws : List UInt64) (k : List Put) : (thP ws k).length ≤ k.length := by
  have := foldl_store_length ws k []
  simpa [thP] using this

set_option maxRecDepth 100000 in
set_option maxHeartbeats 4000000 in
theorem thought_any {w : World} {vl vk : Value} {l k : List Put} (h : Look kP w vl l) (h2 : Look kP w vk k) :
    Calls Try.prog 27 #[vl, vk] w fun e w' =>
      ∃ s t b o cap vP S, e = .returned (.tuple #[.pointer (some ⟨s, 0, none⟩), .pointer (some ⟨t, 0, none⟩), .agg #[.slice (some ⟨b, o, none⟩) 10 cap, vP]]) ∧ Mem w' s t (thP (fillW 10 l) (k.take 40)) (fillW 10 l) S ∧
        View kU S w' (.slice (some ⟨b, o, none⟩) 10 cap) (fillW 10 l) ∧ View kP S w' vP (thP (fillW 10 l) (k.take 40)) ∧ Keeps Nil w w' ∧ (∀ j, S j → w.heap.size ≤ j) := by
  obtain ⟨a, lcap, rfl, hlm⟩ := h2.val
  obtain ⟨al, llcap, rfl, _⟩ := h.val
  obtain ⟨n, hn⟩ : ∃ n, n = k.length := ⟨_, rfl⟩
  rw [← hn] at h2 ⊢
  have hnm : n ≤ 9223372036854775807 := by unfold maxLen at hlm; omega
  have HN := Lib.hid hn
  clear hn hlm
  obtain ⟨w1, hw1⟩ : ∃ w1, w1 = w.alloc (.cells #[.slice none 0 0, .slice none 0 0] 28) := ⟨_, rfl⟩
  have hK1 : Keeps Nil w w1 := by rw [hw1]; exact (Keeps.refl Nil w).alloc _
  have HB := Lib.hid (show w1.heap[w.heap.size]? = some (.cells #[.slice none 0 0, .slice none 0 0] 28 (0, 0)) by rw [hw1]; exact heap_new w _)
  have hsz1 : w1.heap.size = w.heap.size + 1 := by rw [hw1]; simp
  have HS1 := Lib.hid hsz1
  have HW := Lib.hid hw1
  have HV := Lib.hid (h2.keeps_nil hK1)
  have HF := Lib.hid (filled_any (h.keeps_nil hK1))
  clear hw1 h h2 hsz1
  go_enter Try.func27, Try.ntmps27
  go_wp2_with fail
  rw [← HW.out]
  refine HF.out.mono ?_
  rintro e w2 ⟨p, q, b, o, cap, rfl, hs, hv, hK2, hp, hq⟩
  have H2 := Lib.hid (And.intro hs (And.intro hv (And.intro hp hq)))
  have HM := Lib.hid (Mem.new hs)
  clear hs hv hp hq
  go_wp2_with fail
  refine HM.out.mono ?_
  rintro e w3 ⟨t, S0, rfl, hm, hK3, hS0, ht⟩
  have H3 := Lib.hid (And.intro hm hS0)
  clear hm hS0 HM HF
  go_wp2_with fail
  obtain ⟨m, hm⟩ : ∃ m, m = w3.heap.size := ⟨_, rfl⟩
  obtain ⟨w4, hw4⟩ : ∃ w4, w4 = w3.alloc (.cells #[.slice (some ⟨b, o, none⟩) 10 cap, .slice none 0 0] 28) := ⟨_, rfl⟩
  have hK4 : Keeps Nil w3 w4 := by rw [hw4]; exact (Keeps.refl Nil w3).alloc _
  have HX0 := Lib.hid (show w4.heap[m]? = some (.cells #[.slice (some ⟨b, o, none⟩) 10 cap, .slice none 0 0] 28 (0, 0)) by rw [hw4, hm]; exact heap_new w3 _)
  have hm4 : m < w4.heap.size := getElem?_lt HX0.out
  rw [← hw4, ← hm]
  have hKw3 := hK1.trans' (hK2.trans' hK3)
  have hmS : ¬ S0 m := fun e => by have := H3.out.1.lt e; omega
  have hwS : ∀ j, S0 j → w.heap.size < j := fun j hj => by
    have h1 := H2.out; have h2 := HS1.out
    rcases H3.out.2 j hj with rfl | rfl | e
    · omega
    · omega
    · have := hK2.size; omega
  have hmw : w.heap.size < m := by have := hKw3.size; have := HS1.out; have := hK2.size; have := hK3.size; omega
  have HD := Lib.hid (And.intro hm (And.intro hw4 (And.intro hmS (And.intro hwS hmw))))
  have HL0 : Hid (View kU S0 w4 (.slice (some ⟨b, o, none⟩) 10 cap) (fillW 10 l)) :=
    (H2.out.2.1.step (hK3.trans' hK4).of_nil (fun g hg => by rcases H3.out.2 g hg with rfl | rfl | e; exact .inl (.inl rfl); exact .inl (.inr rfl); exact .inr e))
  have HM0 := Lib.hid (H3.out.1.keeps_nil hK4)
  have hKw4 := hKw3.trans' hK4
  clear hm hw4 hmS hwS hmw
  go_loopw [11] (fun i wr => ∃ j : Nat, j ≤ n ∧ j ≤ 40 ∧ i = .int .i64 (j : Int) ∧ Hid (∃ S vP, Mem wr p t (thP (fillW 10 l) (k.take j)) (fillW 10 l) S ∧ Step (fun g => S0 g ∨ g = m) S w4 wr ∧ View kU S wr (.slice (some ⟨b, o, none⟩) 10 cap) (fillW 10 l) ∧ View kP S wr vP (thP (fillW 10 l) (k.take j)) ∧
      wr.heap[m]? = some (.cells #[.slice (some ⟨b, o, none⟩) 10 cap, vP] 28 (0, 0)) ∧ ¬ S m)) (fun i _ => 40 - (intOf i).toNat)
  case atStart => exact ⟨0, by omega, by omega, rfl, S0, _, HM0.out, ⟨Keeps.refl _ _, fun _ e => .inl (.inl e)⟩, HL0.out, .inl ⟨rfl, rfl⟩, HX0.out, HD.out.2.2.1⟩
  case round =>
    obtain ⟨j, hj, hj2, rfl, HH⟩ := hrel
    obtain ⟨S, vP, r1, r2, r3, r4, r5, r6⟩ := HH.out
    obtain ⟨aP, cP, rfl, hPm⟩ := r4.val
    obtain ⟨nP, hnP⟩ : ∃ nP, nP = (thP (fillW 10 l) (k.take j)).length := ⟨_, rfl⟩
    have hplen : (thP (fillW 10 l) (k.take j)).length ≤ 40 := by have := thP_length (fillW 10 l) (k.take j); have := List.length_take_le j k; omega
    have hKr := r2.keeps
    clear HH
    by_cases hlt : j < n ∧ j < 40
    · obtain ⟨hlt1, hlt2⟩ := hlt
      obtain ⟨x, hx⟩ : ∃ x, k[j]? = some x := ⟨k[j]'(by have := HN.out; omega), by have := HN.out; simp⟩
      obtain ⟨b2, o2, cap3, hv, _, _, hb2, _, hcell⟩ := HV.out.pos (by have := HN.out; omega)
      simp only [Value.slice.injEq] at hv
      obtain ⟨rfl, hn2, rfl⟩ := hv
      have HN2 := Lib.hid hn2
      obtain ⟨y1, y2⟩ := View.cellP hcell j x hx
      have hb2S : ¬ (S0 b2 ∨ b2 = m) := fun e => by
        have h1 := HS1.out
        have h2 := HD.out.1
        have h3 := hK2.size
        have h4 := hK3.size
        rcases e with e | e
        · have := HD.out.2.2.2.1 b2 e; omega
        · omega
      have hb24 : b2 < w4.heap.size := by have := (hK2.trans' (hK3.trans' hK4)).size; omega
      have y1' := (hKr.cell hb24 hb2S (o2 + j * 2)).trans (((hK2.trans' (hK3.trans' hK4)).cell hb2 (fun e => e) _).trans y1)
      have y2' := (hKr.cell hb24 hb2S (o2 + j * 2 + 1)).trans (((hK2.trans' (hK3.trans' hK4)).cell hb2 (fun e => e) _).trans y2)
      have HX := Lib.hid hx
      have HR := Lib.hid ((r1.keeps_nil (keeps_drew wr)).store x.1 x.2 (by omega) _ _ rfl rfl)
      have R := Lib.hid (And.intro r1 (And.intro r2 (And.intro r3 (And.intro r4 (And.intro r5 (And.intro r6 hnP))))))
      clear hn2 y1 y2 hcell hx r1 r2 r3 r4 r5 r6 hnP
      go_wp2_with fail
      go_still_tail 11, (by kernel_rfl)
      change wpList _ _ _ _ _ wr.drew
      go_wp2_with fail
      refine HR.out.mono ?_
      rintro e w5 ⟨rfl, S5, hm5, hst5⟩
      obtain ⟨r1, r2, r3, r4, r5, r6, hnP⟩ := R.out
      have hb2w : b2 < wr.drew.heap.size := Nat.lt_of_lt_of_le hb24 hKr.size
      have hb2S' : ¬ S b2 := r2.out hb24 hb2S
      have z1 := (hst5.keeps.cell hb2w hb2S' (o2 + j * 2)).trans y1'
      have z2 := (hst5.keeps.cell hb2w hb2S' (o2 + j * 2 + 1)).trans y2'
      have q5 := hst5.keeps.at (show wr.drew.heap[m]? = _ from r5) r6
      have c0 : w5.cell? ⟨m, 0, none⟩ = some (.slice (some ⟨b, o, none⟩) 10 cap) := by simp [World.cell?, q5]
      have c1 : w5.cell? ⟨m, 1, none⟩ = some (.slice aP (thP (fillW 10 l) (k.take j)).length cP) := by simp [World.cell?, q5]
      have v5 := ((r3.keeps_nil (keeps_drew wr)).steps hst5).keeps_nil (keeps_drew w5)
      have v5' : View kU S5 w5.drew (.slice (some ⟨b, o, none⟩) (fillW 10 l).length cap) (fillW 10 l) := by rw [fillW_length]; exact v5
      have HR2 := Lib.hid (rTxStore_any v5' (((r4.keeps_nil (keeps_drew wr)).steps hst5).keeps_nil (keeps_drew w5)) (fun g hg => hm5.lt hg) (by omega) x.1 x.2 _ _ rfl rfl)
      rw [fillW_length] at HR2
      have hm5w : m < w5.heap.size := getElem?_lt q5
      have R5 := Lib.hid (And.intro hm5 (And.intro hst5 (And.intro q5 v5)))
      clear hm5 hst5 q5 v5 v5' r1 r2 r3 r4 r5 r6 hnP y1' y2' hPm
      go_wp2_with fail
      go_still_tail 11, (by kernel_rfl)
      change wpList _ _ _ _ _ w5.drew
      go_wp2_with fail
      refine HR2.out.mono ?_
      rintro e w6 ⟨vP', rfl, hv6, hK6⟩
      obtain ⟨aP', cP', rfl, _⟩ := hv6.val
      obtain ⟨hm5, hst5, q5, v5⟩ := R5.out
      have q6 := hK6.at (show w5.drew.heap[m]? = _ from q5) (fun e => e)
      have c0 : w6.cell? ⟨m, 0, none⟩ = some (.slice (some ⟨b, o, none⟩) 10 cap) := by simp [World.cell?, q6]
      have c1 : w6.cell? ⟨m, 1, none⟩ = some (.slice aP (thP (fillW 10 l) (k.take j)).length cP) := by simp [World.cell?, q6]
      have f0 : w6.frozen? ⟨m, 0, none⟩ = false := by simp [World.frozen?, q6]
      have f1 : w6.frozen? ⟨m, 1, none⟩ = false := by simp [World.frozen?, q6]
      have R6 := Lib.hid (And.intro hv6 (And.intro hK6 q6))
      clear hm5 hst5 q5 v5 hv6 hK6 q6
      go_wp2_with fail
      go_roundw
      case rel =>
        obtain ⟨hm5, hst5, q5, v5⟩ := R5.out
        obtain ⟨hv6, hK6, q6⟩ := R6.out
        obtain ⟨r1, r2, r3, r4, r5, r6, hnP⟩ := R.out
        refine ⟨j + 1, by omega, by omega, by go_num, ?_⟩
        rw [thP_take HX.out]
        have hst : Step (fun g => S0 g ∨ g = m) S5 w4 w6 := ((r2.nil (keeps_drew wr)).trans hst5).nil ((keeps_drew w5).trans' hK6)
        have hm5S : ¬ S5 m := fun e => (hst5.grow m e).elim r6 (fun e => by have : m < wr.drew.heap.size := getElem?_lt r5; omega)
        have hset : Keeps (fun i => i = m) w6 _ := (keeps_setCell w6 ⟨m, 0, none⟩ (.slice (some ⟨b, o, none⟩) 10 cap)).trans' (keeps_setCell _ ⟨m, 1, none⟩ (.slice aP' (txStore (fillW 10 l) (thP (fillW 10 l) (k.take j)) x.1 x.2).length cP'))
        have hno : ∀ g, S5 g → ¬ (g = m) := fun g hg e => hm5S (by rw [← e]; exact hg)
        exact ⟨S5, _, (hm5.keeps_nil ((keeps_drew w5).trans' hK6)).keeps hset hno, ⟨hst.keeps.trans hset (fun i _ e => .inr e), hst.grow⟩, (v5.keeps_nil hK6).box q6 (noU _ _ _ _ _ _) hset, hv6.box q6 (noP _ _ _ _ _ _) hset, heap_setCell_eq (heap_setCell_eq q6 0 _) 1 _, hm5S⟩
      case measure => simp [intOf]; omega
    · have ht : k.take j = k.take 40 := take_min k j 40 (by have := HN.out; omega) hj2 (by have := HN.out; omega)
      have c0 : wr.cell? ⟨m, 0, none⟩ = some (.slice (some ⟨b, o, none⟩) 10 cap) := by simp [World.cell?, r5]
      have c1 : wr.cell? ⟨m, 1, none⟩ = some (.slice aP (thP (fillW 10 l) (k.take j)).length cP) := by simp [World.cell?, r5]
      have hwS : ¬ (S0 w.heap.size ∨ w.heap.size = m) := fun e => by
        have h2 := HD.out.2.2.2.2
        rcases e with e | e
        · have := HD.out.2.2.2.1 _ e; omega
        · omega
      have qb := hKr.at ((hK2.trans' (hK3.trans' hK4)).at HB.out (fun e => e)) hwS
      have d0 : wr.cell? ⟨w.heap.size, 0, none⟩ = some (.slice none 0 0) := by simp [World.cell?, qb]
      have d1 : wr.cell? ⟨w.heap.size, 1, none⟩ = some (.slice none 0 0) := by simp [World.cell?, qb]
      have f0 : wr.frozen? ⟨w.heap.size, 0, none⟩ = false := by simp [World.frozen?, qb]
      have f1 : wr.frozen? ⟨w.heap.size, 1, none⟩ = false := by simp [World.frozen?, qb]
      have R := Lib.hid (And.intro r1 (And.intro r2 (And.intro r3 (And.intro r4 (And.intro r5 (And.intro r6 (And.intro ht qb)))))))
      clear r1 r2 r3 r4 r5 r6 hnP ht qb
      by_cases h1 : j < n
      · have h2 : ¬ j < 40 := by omega
        clear hlt
        go_wp2_with fail
        go_region
        all_goals go_wp2_with fail
        all_goals
          obtain ⟨r1, r2, r3, r4, r5, r6, ht, qb⟩ := R.out
          have hfb := heap_setCell_eq (heap_setCell_eq qb 0 (.slice (some ⟨b, o, none⟩) 10 cap)) 1 (.slice aP (thP (fillW 10 l) (k.take j)).length cP)
          have hset : Keeps (fun i => i = w.heap.size) wr _ := (keeps_setCell wr ⟨w.heap.size, 0, none⟩ (.slice (some ⟨b, o, none⟩) 10 cap)).trans' (keeps_setCell _ ⟨w.heap.size, 1, none⟩ (.slice aP (thP (fillW 10 l) (k.take j)).length cP))
          have hSw : ∀ g, S g → w.heap.size < g := fun g hg => (r2.grow g hg).elim (fun e => e.elim (HD.out.2.2.2.1 g) (fun e => by have := HD.out.2.2.2.2; omega)) (fun e => by have := hKw4.size; have := HD.out.2.2.2.2; omega)
          have hno : ∀ g, S g → ¬ (g = w.heap.size) := fun g hg e => by have := hSw g hg; omega
          have hKf : Keeps Nil w wr := hKw4.trans r2.keeps (fun i hi e => by
            rcases e with e | e
            · have := HD.out.2.2.2.1 i e; omega
            · have := HD.out.2.2.2.2; omega)
          refine bodyPost_ret (results_tmp2_row rfl rfl hfb Try.underlying28 rfl (by kernel_rfl)) rfl ?_
          rw [← ht]
          exact ⟨p, t, b, o, cap, _, S, rfl, (r1.keeps hset hno).keeps_nil ⟨rfl, rfl, rfl, Nat.le_refl _, fun _ _ _ => rfl⟩, (r3.box qb (noU _ _ _ _ _ _) hset).keeps_nil ⟨rfl, rfl, rfl, Nat.le_refl _, fun _ _ _ => rfl⟩, (r4.box qb (noP _ _ _ _ _ _) hset).keeps_nil ⟨rfl, rfl, rfl, Nat.le_refl _, fun _ _ _ => rfl⟩, (hKf.trans hset (fun i hi e => by omega)).trans' ⟨rfl, rfl, rfl, Nat.le_refl _, fun _ _ _ => rfl⟩, fun g hg => by have := hSw g hg; omega⟩
      · clear hlt
        go_wp2_with fail
        go_region
        all_goals go_wp2_with fail
        all_goals
          obtain ⟨r1, r2, r3, r4, r5, r6, ht, qb⟩ := R.out
          have hfb := heap_setCell_eq (heap_setCell_eq qb 0 (.slice (some ⟨b, o, none⟩) 10 cap)) 1 (.slice aP (thP (fillW 10 l) (k.take j)).length cP)
          have hset : Keeps (fun i => i = w.heap.size) wr _ := (keeps_setCell wr ⟨w.heap.size, 0, none⟩ (.slice (some ⟨b, o, none⟩) 10 cap)).trans' (keeps_setCell _ ⟨w.heap.size, 1, none⟩ (.slice aP (thP (fillW 10 l) (k.take j)).length cP))
          have hSw : ∀ g, S g → w.heap.size < g := fun g hg => (r2.grow g hg).elim (fun e => e.elim (HD.out.2.2.2.1 g) (fun e => by have := HD.out.2.2.2.2; omega)) (fun e => by have := hKw4.size; have := HD.out.2.2.2.2; omega)
          have hno : ∀ g, S g → ¬ (g = w.heap.size) := fun g hg e => by have := hSw g hg; omega
          have hKf : Keeps Nil w wr := hKw4.trans r2.keeps (fun i hi e => by
            rcases e with e | e
            · have := HD.out.2.2.2.1 i e; omega
            · have := HD.out.2.2.2.2; omega)
          refine bodyPost_ret (results_tmp2_row rfl rfl hfb Try.underlying28 rfl (by kernel_rfl)) rfl ?_
          rw [← ht]
          exact ⟨p, t, b, o, cap, _, S, rfl, (r1.keeps hset hno).keeps_nil ⟨rfl, rfl, rfl, Nat.le_refl _, fun _ _ _ => rfl⟩, (r3.box qb (noU _ _ _ _ _ _) hset).keeps_nil ⟨rfl, rfl, rfl, Nat.le_refl _, fun _ _ _ => rfl⟩, (r4.box qb (noP _ _ _ _ _ _) hset).keeps_nil ⟨rfl, rfl, rfl, Nat.le_refl _, fun _ _ _ => rfl⟩, (hKf.trans hset (fun i hi e => by omega)).trans' ⟨rfl, rfl, rfl, Nat.le_refl _, fun _ _ _ => rfl⟩, fun g hg => by have := hSw g hg; omega⟩

end Go.Proofs.Ytccllkgaakmdhaa
