/- carrackref03.Store. -/
import Derived.Test.YtccllkgaakmdhaaRef3
namespace Go.Proofs.Ytccllkgaakmdhaa
open Go.RowKit

/-- what the walk wants to know behind the two stores into the copy -/
theorem hit_facts {w : World} {base g cap j : Nat} {l : List Put} {x : Put} (h : Own kP w base (.slice (some ⟨g, 0, none⟩) (0 + l.length) cap) ([] ++ l)) (hx : l[j]? = some x) :
    w.cell? ⟨g, j * 2, none⟩ = some (.int .u64 ↑x.1.toNat) ∧ w.cell? ⟨g, j * 2 + 1, none⟩ = some (.int .u64 ↑x.2.toNat) ∧ (w.frozen? ⟨g, j * 2, none⟩ = false ∧ w.frozen? ⟨g, j * 2 + 1, none⟩ = false) ∧ Hid (Own kP w base (.slice (some ⟨g, 0, none⟩) l.length cap) l) := by
  rw [Nat.zero_add, List.nil_append] at h
  obtain ⟨h1, h2, h3⟩ := h.cellP j x hx
  exact ⟨h1, h2, ⟨h3 _, h3 _⟩, h⟩

/-- the two blocks of a call: what they hold, as the walk wants it -/
theorem box_facts {w2 w3 : World} {n : Nat} {A B C D : Value} (h : w2.heap[n]? = some (.cells #[A, B] 28 (0, 0)) ∧ w2.heap[n + 1]? = some (.cells #[C, D] 28 (0, 0))) (hk : Keeps Nil w2 w3) :
    w3.cell? ⟨n, 0, none⟩ = some A ∧ w3.cell? ⟨n, 1, none⟩ = some B ∧ w3.cell? ⟨n + 1, 0, none⟩ = some C ∧ w3.cell? ⟨n + 1, 1, none⟩ = some D ∧ w3.frozen? ⟨n + 1, 0, none⟩ = false ∧ w3.frozen? ⟨n + 1, 1, none⟩ = false ∧ Hid (w3.heap[n]? = some (.cells #[A, B] 28 (0, 0)) ∧ w3.heap[n + 1]? = some (.cells #[C, D] 28 (0, 0))) := by
  have h1 := hk.at h.1 (fun e => e)
  have h2 := hk.at h.2 (fun e => e)
  exact ⟨by simp [World.cell?, h1], by simp [World.cell?, h1], by simp [World.cell?, h2], by simp [World.cell?, h2], by simp [World.frozen?, h2], by simp [World.frozen?, h2], h1, h2⟩
theorem copy_facts {w2 w3 : World} {n : Nat} {A B C D : Value} (hsz : w2.heap.size = n + 2) (h : w2.heap[n]? = some (.cells #[A, B] 28 (0, 0)) ∧ w2.heap[n + 1]? = some (.cells #[C, D] 28 (0, 0)))
    (hK : Keeps (fun k => (Value.slice (some ⟨n + 2, 0, none⟩) 0 0).ownBlock = some k) (w2.alloc (.cells #[] 38)) w3) :
    w3.cell? ⟨n, 0, none⟩ = some A ∧ w3.cell? ⟨n, 1, none⟩ = some B ∧ w3.cell? ⟨n + 1, 0, none⟩ = some C ∧ w3.cell? ⟨n + 1, 1, none⟩ = some D ∧ w3.frozen? ⟨n + 1, 0, none⟩ = false ∧ w3.frozen? ⟨n + 1, 1, none⟩ = false ∧ Hid (Keeps Nil w2 w3 ∧ (w3.heap[n]? = some (.cells #[A, B] 28 (0, 0)) ∧ w3.heap[n + 1]? = some (.cells #[C, D] 28 (0, 0)))) := by
  have hk : Keeps Nil w2 w3 := ((Keeps.refl Nil w2).alloc (.cells #[] 38)).trans hK (fun i hi e => by
    have e' : n + 2 = i := by simpa [Value.ownBlock] using e
    have hi' : i < w2.heap.size := hi
    omega)
  obtain ⟨a, b, c, d, e, f, H⟩ := box_facts h hk
  exact ⟨a, b, c, d, e, f, hk, H⟩

theorem app_facts {w4 w5 : World} {n g m cap : Nat} {A B C D : Value} (h : w4.heap[n]? = some (.cells #[A, B] 28 (0, 0)) ∧ w4.heap[n + 1]? = some (.cells #[C, D] 28 (0, 0)))
    (hK : Keeps (fun k => (Value.slice (some ⟨g, 0, none⟩) m cap).ownBlock = some k) w4 w5) (hg : n + 2 ≤ g) :
    w5.cell? ⟨n, 0, none⟩ = some A ∧ w5.cell? ⟨n, 1, none⟩ = some B ∧ w5.cell? ⟨n + 1, 0, none⟩ = some C ∧ w5.cell? ⟨n + 1, 1, none⟩ = some D ∧ w5.frozen? ⟨n + 1, 0, none⟩ = false ∧ w5.frozen? ⟨n + 1, 1, none⟩ = false ∧
      Hid (Keeps (fun k => k = g) w4 w5 ∧ w5.heap[n]? = some (.cells #[A, B] 28 (0, 0)) ∧ w5.heap[n + 1]? = some (.cells #[C, D] 28 (0, 0))) := by
  have hk : Keeps (fun k => k = g) w4 w5 := hK.mono (fun i _ e => by simpa [Value.ownBlock] using e.symm)
  have h1 := hk.at h.1 (by omega)
  have h2 := hk.at h.2 (by omega)
  exact ⟨by simp [World.cell?, h1], by simp [World.cell?, h1], by simp [World.cell?, h2], by simp [World.cell?, h2], by simp [World.frozen?, h2], by simp [World.frozen?, h2], hk, h1, h2⟩

/-- the end of carrackref03.Store, where a word is thought of -/
theorem store_end {S : Nat → Prop} {w w4 w5 : World} {fn : Func} {tmps : Array Value} {T0 : Value} {C D : Value} {ws : List UInt64} {l l' : List Put} {off v : UInt64} {g n cap : Nat} {u : Tmp}
    (hfn : fn.results = #[.cell u 28]) (ht : tmps.getD u undef = .pointer (some ⟨w.heap.size + 1, 0, none⟩))
    (hb : w4.heap[w.heap.size + 1]? = some (.cells #[C, D] 28 (0, 0))) (hOwn : Own kP w5 (w.heap.size + 2) (.slice (some ⟨g, 0, none⟩) n cap) l') (hK : Keeps Nil w w4) (hS : ∀ k, S k → k < w.heap.size) (hg : w.heap.size + 2 ≤ g)
    (h5 : Keeps (fun k => k = g) w4 w5) (hl : txStore ws l off v = l') :
    bodyPost Try.prog fn (fun e w' => ∃ vP', e = .returned (.agg #[T0, vP']) ∧ View kP S w' vP' (txStore ws l off v) ∧ Keeps Nil w w') .ret { tmps := tmps, defers := [] }
      ((w5.setCell ⟨w.heap.size + 1, 0, none⟩ T0).setCell ⟨w.heap.size + 1, 1, none⟩ (.slice (some ⟨g, 0, none⟩) n cap)) := by
  have hb5 := h5.at hb (by omega)
  have hfb := heap_setCell_eq (heap_setCell_eq hb5 0 T0) 1 (.slice (some ⟨g, 0, none⟩) n cap)
  have hK5 : Keeps Nil w w5 := hK.trans h5 (fun i hi e => by omega)
  have hKf := (hK5.setNew (a := ⟨w.heap.size + 1, 0, none⟩) (by simp) T0).setNew (a := ⟨w.heap.size + 1, 1, none⟩) (by simp) (.slice (some ⟨g, 0, none⟩) n cap)
  refine bodyPost_ret (results_row hfn ht hfb Try.underlying28 rfl (by kernel_rfl)) rfl ?_
  refine ⟨_, rfl, ?_, hKf⟩
  rw [hl]
  have hne : ∀ g', (Value.slice (some ⟨g, 0, none⟩) n cap).ownBlock = some g' → ¬ (g' = w.heap.size + 1) := fun g' e => by simp only [Value.ownBlock, Option.some.injEq] at e; omega
  exact ((hOwn.keeps' (keeps_setCell w5 ⟨w.heap.size + 1, 0, none⟩ T0) hne).keeps' (keeps_setCell _ ⟨w.heap.size + 1, 1, none⟩ (.slice (some ⟨g, 0, none⟩) n cap)) hne).view (fun g' hg' e => by have := hS g' e; omega)

set_option maxRecDepth 100000 in
set_option maxHeartbeats 2000000 in
theorem rTxStore_any {S : Nat → Prop} {w : World} {b o cap : Nat} {vP : Value} {l : List Put} {ws : List UInt64} (h : View kU S w (.slice (some ⟨b, o, none⟩) ws.length cap) ws) (h2 : View kP S w vP l) (hS : ∀ k, S k → k < w.heap.size) (hsm : l.length < 4294967296)
    (off v : UInt64) (x y : Int) (hx : x = (off.toNat : Int)) (hy : y = (v.toNat : Int)) :
    Calls Try.prog 87 #[.agg #[.slice (some ⟨b, o, none⟩) ws.length cap, vP], .int .u64 x, .int .u64 y] w fun e w' =>
      ∃ vP', e = .returned (.agg #[.slice (some ⟨b, o, none⟩) ws.length cap, vP']) ∧ View kP S w' vP' (txStore ws l off v) ∧ Keeps Nil w w' := by
  subst hx hy
  obtain ⟨a2, cap2, hv, hlm⟩ := h2.val
  obtain ⟨w2, hw2⟩ : ∃ w2, w2 = (w.alloc (.cells #[.slice (some ⟨b, o, none⟩) ws.length cap, .slice a2 l.length cap2] 28)).alloc (.cells #[.slice none 0 0, .slice none 0 0] 28) := ⟨_, rfl⟩
  have hK : Keeps Nil w w2 := by rw [hw2]; exact ((Keeps.refl Nil w).alloc _).alloc _
  have hsz : w2.heap.size = w.heap.size + 2 := by rw [hw2]; simp
  have hmade : Own kP (w2.alloc (.cells #[] 38)) (w.heap.size + 2) (.slice (some ⟨w.heap.size + 2, 0, none⟩) 0 0) [] := by rw [← hsz]; exact Own.made kP w2 w2.heap.size (Nat.le_refl _)
  have hb1 : w2.heap[w.heap.size]? = some (.cells #[.slice (some ⟨b, o, none⟩) ws.length cap, .slice a2 l.length cap2] 28 (0, 0)) := by rw [hw2]; exact heap_old _ _ (heap_new w _)
  have hb2 : w2.heap[w.heap.size + 1]? = some (.cells #[.slice none 0 0, .slice none 0 0] 28 (0, 0)) := by
    rw [hw2]; simpa using heap_new (w.alloc (.cells #[.slice (some ⟨b, o, none⟩) ws.length cap, .slice a2 l.length cap2] 28)) (.cells #[.slice none 0 0, .slice none 0 0] 28)
  have hv1 := h.keeps_nil hK
  have hv2 := h2.keeps_nil hK
  have HR := Lib.hid (rLoad_any hv1 off _ rfl)
  have c0 : w2.cell? ⟨w.heap.size, 0, none⟩ = some (.slice (some ⟨b, o, none⟩) ws.length cap) := by simp [World.cell?, hb1]
  have c1 : w2.cell? ⟨w.heap.size, 1, none⟩ = some (.slice a2 l.length cap2) := by simp [World.cell?, hb1]
  have d0 : w2.cell? ⟨w.heap.size + 1, 0, none⟩ = some (.slice none 0 0) := by simp [World.cell?, hb2]
  have d1 : w2.cell? ⟨w.heap.size + 1, 1, none⟩ = some (.slice none 0 0) := by simp [World.cell?, hb2]
  have f0 : w2.frozen? ⟨w.heap.size + 1, 0, none⟩ = false := by simp [World.frozen?, hb2]
  have f1 : w2.frozen? ⟨w.heap.size + 1, 1, none⟩ = false := by simp [World.frozen?, hb2]
  have HW := Lib.hid hw2
  have HB := Lib.hid (And.intro hb1 hb2)
  clear hw2 hb1 hb2
  cases hin : inB ws off with
  | false =>
    have e1 : errV ws off = 1 := by simp [errV, hin]
    rw [e1] at HR
    have HI := Lib.hid hin
    subst hv
    clear e1 hin
    go_enter Try.func87, Try.ntmps87
    go_wp2_with fail
    rw [← HW.out]
    refine HR.out.mono ?_
    rintro e w' ⟨rfl, rfl⟩
    go_wp2_with fail
    have hfb := heap_setCell_eq (heap_setCell_eq HB.out.2 0 (.slice (some ⟨b, o, none⟩) ws.length cap)) 1 (.slice a2 l.length cap2)
    have hKf : Keeps Nil w ((w2.setCell ⟨w.heap.size + 1, 0, none⟩ (.slice (some ⟨b, o, none⟩) ws.length cap)).setCell ⟨w.heap.size + 1, 1, none⟩ (.slice a2 l.length cap2)) := (hK.setNew (by simp) _).setNew (by simp) _
    refine bodyPost_ret (results_row rfl rfl hfb Try.underlying28 rfl (by kernel_rfl)) rfl ?_
    exact ⟨_, rfl, by simpa [txStore, HI.out] using h2.keeps_nil hKf, hKf⟩
  | true =>
    have e1 : errV ws off = 0 := by simp [errV, hin]
    rw [e1] at HR
    have HI := Lib.hid hin
    clear e1 hin
    cases hl : loadP l off with
    | none =>
      have HL := Lib.hid (And.intro hl (atI_none hl 0))
      have HV := Lib.hid (And.intro h hv2)
      by_cases hp : 0 < l.length
      · obtain ⟨b2, o2, cap3, hv2', hc, hm, hb, _, hcell⟩ := h2.pos hp
        rw [hv2'] at hv
        simp only [Value.slice.injEq, true_and] at hv
        obtain ⟨rfl, rfl⟩ := hv
        subst hv2'
        have hv3 : View kP S (w2.alloc (.cells #[] 38)) (.slice (some ⟨b2, o2, none⟩) l.length cap3) l := hv2.keeps_nil ((Keeps.refl Nil w2).alloc _)
        have hwz : (0 + l.length) * kP.bytes ≤ 140737488355328 := by show (0 + l.length) * 16 ≤ _; omega
        clear hl hcell
        go_enter Try.func87, Try.ntmps87
        go_wp2_with fail
        rw [← HW.out]
        refine HR.out.mono ?_
        rintro e w' ⟨rfl, rfl⟩
        go_wp2_with (at_builtin; refine wpList_append_all kP rfl _ _ rfl hmade rfl rfl hv3 hp hwz (by simp; omega) (by decide) ?_; rintro _ w3 hown3 hK3 ⟨g, cap4, rfl, hg⟩; obtain ⟨c0, c1, d0, d1, f0, f1, HK3⟩ := copy_facts hsz HB.out hK3; have hgb := (hown3.block (k := g) rfl).1; clear hK3)
        refine (at_any (b := b) (o := o) (cap := cap) (n := ws.length) (HV.out.2.keeps_nil HK3.out.1) off _ rfl).mono ?_
        rintro e w4 ⟨rfl, hK4⟩
        rw [HL.out.2]
        obtain ⟨x0, x1, y0, y1, z0, z1, HX⟩ := box_facts HK3.out.2 hK4
        have hown4 : Own kP w4 (w.heap.size + 2) (.slice (some ⟨g, 0, none⟩) l.length cap4) l := by simpa using hown3.keeps_nil hK4
        have HK4 := Lib.hid hK4
        have hsz4 : w.heap.size + 2 ≤ w4.heap.size := by have := hK4.size; have := HK3.out.1.size; omega
        clear hK4 c0 c1 d0 d1 f0 f1
        go_wp2_with (at_builtin; refine wpList_append_put rfl _ _ rfl l.length rfl hown4 rfl (off, v) _ _ rfl rfl rfl hsm hsz4 ?_; rintro _ w5 hown5 hK5 ⟨g5, cap5, rfl, hg5⟩; obtain ⟨x0, x1, y0, y1, z0, z1, H5⟩ := app_facts HX.out hK5 hgb)
        have hgb5 := (hown5.block (k := g5) rfl).1
        exact store_end rfl rfl H5.out.2.2 (by simpa using hown5) ((hK.trans' (HK3.out.1.trans' HK4.out)).trans H5.out.1 (fun i hi e => by omega)) hS hgb5 (Keeps.refl _ _) (by simp [txStore, HI.out, storeP_new HL.out.1])
      · obtain rfl : l = [] := List.eq_nil_of_length_eq_zero (by omega)
        subst hv
        clear hl hp
        go_enter Try.func87, Try.ntmps87
        go_wp2_with fail
        have HW' := HW.out
        simp only [List.length_nil] at HW'
        rw [← HW']
        clear HW'
        refine HR.out.mono ?_
        rintro e w' ⟨rfl, rfl⟩
        go_wp2_with (at_builtin; refine wpList_append_zero kP rfl _ _ rfl hmade rfl _ _ rfl ?_)
        have hK3 : Keeps Nil w2 (w2.alloc (.cells #[] 38)) := (Keeps.refl Nil w2).alloc _
        refine (at_any (b := b) (o := o) (cap := cap) (n := ws.length) (HV.out.2.keeps_nil hK3) off _ rfl).mono ?_
        rintro e w4 ⟨rfl, hK4⟩
        rw [HL.out.2]
        obtain ⟨x0, x1, y0, y1, z0, z1, HX⟩ := box_facts HB.out (hK3.trans' hK4)
        have hown4 := hmade.keeps_nil hK4
        have HK4 := Lib.hid (hK3.trans' hK4)
        have hsz4 : w.heap.size + 2 ≤ w4.heap.size := by have := (hK3.trans' hK4).size; omega
        have hgb : w.heap.size + 2 ≤ w.heap.size + 2 := Nat.le_refl _
        clear hK4 c0 c1 d0 d1 f0 f1 hK3
        go_wp2_with (at_builtin; refine wpList_append_put rfl _ _ rfl 0 rfl hown4 rfl (off, v) _ _ rfl rfl rfl (by omega) hsz4 ?_; rintro _ w5 hown5 hK5 ⟨g5, cap5, rfl, hg5⟩; obtain ⟨x0, x1, y0, y1, z0, z1, H5⟩ := app_facts HX.out hK5 hgb)
        have hgb5 := (hown5.block (k := g5) rfl).1
        exact store_end rfl rfl H5.out.2.2 (by simpa using hown5) ((hK.trans' HK4.out).trans H5.out.1 (fun i hi e => by omega)) hS hgb5 (Keeps.refl _ _) (by simp [txStore, HI.out, storeP_new HL.out.1])
    | some u =>
      obtain ⟨j, h1, h2', h3, h4⟩ := atI_some hl 0
      obtain ⟨b2, o2, cap3, hv2', hc, hm, hb, _, hcell⟩ := h2.pos (by omega)
      rw [hv2'] at hv
      simp only [Value.slice.injEq, true_and] at hv
      obtain ⟨rfl, rfl⟩ := hv
      subst hv2'
      have hv3 : View kP S (w2.alloc (.cells #[] 38)) (.slice (some ⟨b2, o2, none⟩) l.length cap3) l := hv2.keeps_nil ((Keeps.refl Nil w2).alloc _)
      have hwz : (0 + l.length) * kP.bytes ≤ 140737488355328 := by show (0 + l.length) * 16 ≤ _; omega
      have hwp : 0 < l.length := by omega
      have HL := Lib.hid (And.intro hl (And.intro h2' (And.intro h3 h4)))
      have HV := Lib.hid (And.intro h hv2)
      clear hl h2' h3 h4 hcell
      go_enter Try.func87, Try.ntmps87
      go_wp2_with fail
      rw [← HW.out]
      refine HR.out.mono ?_
      rintro e w' ⟨rfl, rfl⟩
      go_wp2_with (at_builtin; refine wpList_append_all kP rfl _ _ rfl hmade rfl rfl hv3 hwp hwz (by simp; omega) (by decide) ?_; rintro _ w3 hown3 hK3 ⟨g, cap4, rfl, hg⟩; obtain ⟨c0, c1, d0, d1, f0, f1, HK3⟩ := copy_facts hsz HB.out hK3; clear hK3)
      have hV3 := HV.out.2.keeps_nil HK3.out.1
      refine (at_any (b := b) (o := o) (cap := cap) (n := ws.length) hV3 off _ rfl).mono ?_
      rintro e w4 ⟨rfl, hK4⟩
      rw [HL.out.2.1, Int.zero_add]
      obtain ⟨q1, q2, ⟨q3, q4⟩, Q⟩ := hit_facts (hown3.keeps_nil hK4) HL.out.2.2.1
      obtain ⟨x0, x1, y0, y1, z0, z1, HX⟩ := box_facts HK3.out.2 hK4
      have HK4 := Lib.hid hK4
      have hgb := (hown3.block (k := g) rfl).1
      have n1 : (g = w.heap.size) = False := by simp; omega
      have n2 : (w.heap.size = g) = False := by simp; omega
      have n3 : (g = w.heap.size + 1) = False := by simp; omega
      have n4 : (w.heap.size + 1 = g) = False := by simp; omega
      clear hK4 c0 c1 d0 d1 f0 f1
      go_wp2_with fail
      have hOwn := Q.out.setP j (off, v) (by omega)
      have hKw : Keeps Nil w w4 := hK.trans' (HK3.out.1.trans' HK4.out)
      exact store_end rfl rfl HX.out.2 hOwn hKw hS hgb ((keeps_setCell w4 ⟨g, j * 2, none⟩ _).trans' (keeps_setCell _ ⟨g, j * 2 + 1, none⟩ _)) (by simp [txStore, HI.out, HL.out.2.2.2])

end Go.Proofs.Ytccllkgaakmdhaa
