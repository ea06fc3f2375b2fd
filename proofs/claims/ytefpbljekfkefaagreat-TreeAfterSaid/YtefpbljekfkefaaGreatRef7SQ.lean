/- carrackref07: Size, less, Sorted. -/
import Derived.Test.YtefpbljekfkefaaGreatM28
import Derived.Test.YtefpbljekfkefaaGreatM24
import Derived.Test.YtefpbljekfkefaaGreatM07
namespace Go.Proofs.YtefpbljekfkefaaGreat
open Go.RowKit PT

theorem less_val (a b c d : UInt64) : ltK (a, b) (c, d) = (decide (a.toNat < c.toNat) || (a == c && decide (b.toNat < d.toNat))) := rfl
/-- a place in a sorted list -/
theorem sorted_put {f : UInt64 → UInt64} {A B : List UInt64} {x : UInt64} (hs : Sorted (ltF szU f) (A ++ B)) (hx : x ∉ A ++ B) (ha : ∀ y ∈ A, ltF szU f x y = false) (hb : ∀ y, B.head? = some y → ltF szU f x y = true) : Sorted (ltF szU f) (A ++ x :: B) := by
  have ho := ltF_ord szU f
  obtain ⟨h1, h2, h3⟩ := List.pairwise_append.1 hs
  have hA : ∀ y ∈ A, ltF szU f y x = true := fun y hy => by
    cases h : ltF szU f y x with
    | true => rfl
    | false => exact absurd (ho.tot _ _ h (ha y hy)) (fun e => hx (by rw [← e]; simp [hy]))
  have hB : ∀ y ∈ B, ltF szU f x y = true := fun y hy => by
    cases B with
    | nil => cases hy
    | cons z B =>
      have hz := hb z rfl
      rcases List.mem_cons.1 hy with rfl | hy
      · exact hz
      · exact ho.trans _ _ _ hz ((List.pairwise_cons.1 h2).1 y hy)
  exact List.pairwise_append.2 ⟨h1, List.pairwise_cons.2 ⟨hB, h2⟩, fun a h b hb' => by
    rcases List.mem_cons.1 hb' with rfl | hb'
    · exact hA a h
    · exact h3 a h b hb'⟩

set_option maxRecDepth 100000 in
set_option maxHeartbeats 4000000 in
theorem rSize_any {A B : Value} {f : UInt64 → UInt64} {w : World} (h : RReads (.agg #[A, B]) f w) (off : UInt64) (x : Int) (hx : x = (off.toNat : Int)) :
    Calls Tryz.prog 57 #[.agg #[A, B], .int .u64 x] w fun e w' => e = .returned (.int .u64 ((sizeF f off).toNat : Int)) ∧ Keeps Nil w w' := by
  subst hx
  obtain ⟨⟨gs, gu, go⟩, hg⟩ : ∃ g, g = unpackT (f off) := ⟨_, rfl⟩
  obtain ⟨ok, hok⟩ : ∃ g, g = isTag (f off) := ⟨_, rfl⟩
  have HR := Lib.hid h
  have HG := Lib.hid (And.intro hg hok)
  clear h hg hok
  have hst := Lib.hid (Step.refl Nil w)
  go_enter Tryz.func57, Tryz.ntmps57
  obtain ⟨W1, hW1⟩ : ∃ W, W = w.alloc (.cells #[A, B] 71) := ⟨_, rfl⟩
  obtain ⟨B1, eB1⟩ : ∃ B, B = w.heap.size := ⟨_, rfl⟩
  replace hW1 := Lib.hid hW1
  replace eB1 := Lib.hid eB1
  go_wp2_with fail
  rw [← hW1.out]
  try rw [← eB1.out]
  have k1 : Keeps Nil w W1 := by rw [hW1.out]; exact alloc_keeps _ _
  have e0B1 : B1 = w.heap.size := by rw [eB1.out]
  have hB1 := Lib.hid (show Bx W1 Nil B1 #[A, B] 71 by rw [hW1.out]; exact Bx.new Nil.lt _ _ e0B1)
  have gB1 := Lib.hid (show w.heap.size ≤ B1 by rw [e0B1]; exact hst.out.keeps.size)
  replace hst := Lib.hid (hst.out.nil k1)
  clear k1 e0B1
  refine ((HR.out.load _ hst.out.keeps off _ rfl)).mono ?_
  rintro _ W2 ⟨rfl, kn⟩
  replace hst := Lib.hid (hst.out.nil kn)
  replace hB1 := Lib.hid (hB1.out.nil kn)
  clear kn
  have c_B1_0 := hB1.out.cell 0 _ rfl
  have f_B1_0 := hB1.out.frz 0
  have c_B1_1 := hB1.out.cell 1 _ rfl
  have f_B1_1 := hB1.out.frz 1
  have l_B1 := hB1.out.lt
  go_wp2_with fail
  clear c_B1_0 f_B1_0 c_B1_1 f_B1_1 l_B1
  refine (rUnpack_any _ (f off)).mono ?_
  rintro _ W3 ⟨rfl, kn⟩
  rw [← HG.out.1, ← HG.out.2, TagV.cells_def]
  replace hst := Lib.hid (hst.out.nil kn)
  replace hB1 := Lib.hid (hB1.out.nil kn)
  clear kn
  have c_B1_0 := hB1.out.cell 0 _ rfl
  have f_B1_0 := hB1.out.frz 0
  have c_B1_1 := hB1.out.cell 1 _ rfl
  have f_B1_1 := hB1.out.frz 1
  have l_B1 := hB1.out.lt
  obtain ⟨W4, hW4⟩ : ∃ W, W = W3.alloc (.cells #[.int .u64 (gs.toNat : Int), .bool gu, .int .i64 go] 61) := ⟨_, rfl⟩
  obtain ⟨B2, eB2⟩ : ∃ B, B = W3.heap.size := ⟨_, rfl⟩
  replace hW4 := Lib.hid hW4
  replace eB2 := Lib.hid eB2
  go_wp2_with fail
  go_ret
  clear c_B1_0 f_B1_0 c_B1_1 f_B1_1 l_B1
  rw [← hW4.out]
  try rw [← eB2.out]
  have k2 : Keeps Nil W3 W4 := by rw [hW4.out]; exact alloc_keeps _ _
  have e0B2 : B2 = W3.heap.size := by rw [eB2.out]
  have hB2 := Lib.hid (show Bx W4 Nil B2 #[.int .u64 (gs.toNat : Int), .bool gu, .int .i64 go] 61 by rw [hW4.out]; exact Bx.new Nil.lt _ _ e0B2)
  have gB2 := Lib.hid (show w.heap.size ≤ B2 by rw [e0B2]; exact hst.out.keeps.size)
  have nB1B2 := Lib.hid (show B1 < B2 by rw [e0B2]; exact hB1.out.lt)
  replace hst := Lib.hid (hst.out.nil k2)
  replace hB1 := Lib.hid (hB1.out.nil k2)
  clear k2 e0B2
  exact ⟨by unfold sizeF; rw [← HG.out.1]; rfl, hst.out.keeps⟩
set_option maxRecDepth 100000 in
set_option maxHeartbeats 4000000 in
theorem rLess_any {A B : Value} {f : UInt64 → UInt64} {w : World} (h : RReads (.agg #[A, B]) f w) (a size off : UInt64) :
    Calls Tryz.prog 109 #[.agg #[A, B], .int .u64 (a.toNat : Int), .int .u64 (size.toNat : Int), .int .u64 (off.toNat : Int)] w fun e w' => e = .returned (.bool (ltK (keyF szU f a) (size, off))) ∧ Keeps Nil w w' := by
  obtain ⟨s, hs⟩ : ∃ g, g = sizeF f a := ⟨_, rfl⟩
  have hk : ltK (keyF szU f a) (size, off) = (decide (s.toNat < size.toNat) || (s == size && decide (a.toNat < off.toNat))) := by rw [hs]; rfl
  rw [hk]
  have HR := Lib.hid h
  have HS := Lib.hid hs
  clear h hs hk
  by_cases h1 : s.toNat < size.toNat
  · have H1 := Lib.hid h1
    clear h1
    have hst := Lib.hid (Step.refl Nil w)
    go_enter Tryz.func109, Tryz.ntmps109
    obtain ⟨W1, hW1⟩ : ∃ W, W = w.alloc (.cells #[A, B] 71) := ⟨_, rfl⟩
    obtain ⟨B1, eB1⟩ : ∃ B, B = w.heap.size := ⟨_, rfl⟩
    replace hW1 := Lib.hid hW1
    replace eB1 := Lib.hid eB1
    go_wp2_with fail
    rw [← hW1.out]
    try rw [← eB1.out]
    have k1 : Keeps Nil w W1 := by rw [hW1.out]; exact alloc_keeps _ _
    have e0B1 : B1 = w.heap.size := by rw [eB1.out]
    have hB1 := Lib.hid (show Bx W1 Nil B1 #[A, B] 71 by rw [hW1.out]; exact Bx.new Nil.lt _ _ e0B1)
    have gB1 := Lib.hid (show w.heap.size ≤ B1 by rw [e0B1]; exact hst.out.keeps.size)
    replace hst := Lib.hid (hst.out.nil k1)
    clear k1 e0B1
    refine (rSize_any (HR.out.keeps hst.out.keeps) a _ rfl).mono ?_
    rintro _ W2 ⟨rfl, kn⟩
    rw [← HS.out]
    replace hst := Lib.hid (hst.out.nil kn)
    replace hB1 := Lib.hid (hB1.out.nil kn)
    clear kn
    have d1 : decide (s.toNat < size.toNat) = true := decide_eq_true (H1.out)
    have c_B1_0 := hB1.out.cell 0 _ rfl
    have f_B1_0 := hB1.out.frz 0
    have c_B1_1 := hB1.out.cell 1 _ rfl
    have f_B1_1 := hB1.out.frz 1
    have l_B1 := hB1.out.lt
    go_wp2_with fail
    go_ret
    clear c_B1_0 f_B1_0 c_B1_1 f_B1_1 l_B1
    exact ⟨by rw [show (decide (s.toNat < size.toNat) || (s == size && decide (a.toNat < off.toNat))) = true by simp [H1.out]] <;> rfl, hst.out.keeps⟩
  · have H1 := Lib.hid h1
    clear h1
    by_cases h2 : s = size
    · have H2 := Lib.hid h2
      clear h2
      by_cases h3 : a.toNat < off.toNat
      · have H3 := Lib.hid h3
        clear h3
        have hst := Lib.hid (Step.refl Nil w)
        go_enter Tryz.func109, Tryz.ntmps109
        obtain ⟨W1, hW1⟩ : ∃ W, W = w.alloc (.cells #[A, B] 71) := ⟨_, rfl⟩
        obtain ⟨B1, eB1⟩ : ∃ B, B = w.heap.size := ⟨_, rfl⟩
        replace hW1 := Lib.hid hW1
        replace eB1 := Lib.hid eB1
        go_wp2_with fail
        rw [← hW1.out]
        try rw [← eB1.out]
        have k1 : Keeps Nil w W1 := by rw [hW1.out]; exact alloc_keeps _ _
        have e0B1 : B1 = w.heap.size := by rw [eB1.out]
        have hB1 := Lib.hid (show Bx W1 Nil B1 #[A, B] 71 by rw [hW1.out]; exact Bx.new Nil.lt _ _ e0B1)
        have gB1 := Lib.hid (show w.heap.size ≤ B1 by rw [e0B1]; exact hst.out.keeps.size)
        replace hst := Lib.hid (hst.out.nil k1)
        clear k1 e0B1
        refine (rSize_any (HR.out.keeps hst.out.keeps) a _ rfl).mono ?_
        rintro _ W2 ⟨rfl, kn⟩
        rw [← HS.out]
        replace hst := Lib.hid (hst.out.nil kn)
        replace hB1 := Lib.hid (hB1.out.nil kn)
        clear kn
        have d1 : decide (s.toNat < size.toNat) = false := decide_eq_false (H1.out)
        have d2 : (((s.toNat : Int) : Int) == ((size.toNat : Int) : Int)) = true := (same_u64 (a := s) (b := size) (H2.out)).2
        have d3 : decide (a.toNat < off.toNat) = true := decide_eq_true (H3.out)
        have c_B1_0 := hB1.out.cell 0 _ rfl
        have f_B1_0 := hB1.out.frz 0
        have c_B1_1 := hB1.out.cell 1 _ rfl
        have f_B1_1 := hB1.out.frz 1
        have l_B1 := hB1.out.lt
        go_wp2_with fail
        go_ret
        clear c_B1_0 f_B1_0 c_B1_1 f_B1_1 l_B1
        exact ⟨by rw [show (decide (s.toNat < size.toNat) || (s == size && decide (a.toNat < off.toNat))) = true by simp [H2.out, H3.out]] <;> rfl, hst.out.keeps⟩
      · have H3 := Lib.hid h3
        clear h3
        have hst := Lib.hid (Step.refl Nil w)
        go_enter Tryz.func109, Tryz.ntmps109
        obtain ⟨W1, hW1⟩ : ∃ W, W = w.alloc (.cells #[A, B] 71) := ⟨_, rfl⟩
        obtain ⟨B1, eB1⟩ : ∃ B, B = w.heap.size := ⟨_, rfl⟩
        replace hW1 := Lib.hid hW1
        replace eB1 := Lib.hid eB1
        go_wp2_with fail
        rw [← hW1.out]
        try rw [← eB1.out]
        have k1 : Keeps Nil w W1 := by rw [hW1.out]; exact alloc_keeps _ _
        have e0B1 : B1 = w.heap.size := by rw [eB1.out]
        have hB1 := Lib.hid (show Bx W1 Nil B1 #[A, B] 71 by rw [hW1.out]; exact Bx.new Nil.lt _ _ e0B1)
        have gB1 := Lib.hid (show w.heap.size ≤ B1 by rw [e0B1]; exact hst.out.keeps.size)
        replace hst := Lib.hid (hst.out.nil k1)
        clear k1 e0B1
        refine (rSize_any (HR.out.keeps hst.out.keeps) a _ rfl).mono ?_
        rintro _ W2 ⟨rfl, kn⟩
        rw [← HS.out]
        replace hst := Lib.hid (hst.out.nil kn)
        replace hB1 := Lib.hid (hB1.out.nil kn)
        clear kn
        have d1 : decide (s.toNat < size.toNat) = false := decide_eq_false (H1.out)
        have d2 : (((s.toNat : Int) : Int) == ((size.toNat : Int) : Int)) = true := (same_u64 (a := s) (b := size) (H2.out)).2
        have d3 : decide (a.toNat < off.toNat) = false := decide_eq_false (H3.out)
        have c_B1_0 := hB1.out.cell 0 _ rfl
        have f_B1_0 := hB1.out.frz 0
        have c_B1_1 := hB1.out.cell 1 _ rfl
        have f_B1_1 := hB1.out.frz 1
        have l_B1 := hB1.out.lt
        go_wp2_with fail
        go_ret
        clear c_B1_0 f_B1_0 c_B1_1 f_B1_1 l_B1
        exact ⟨by rw [show (decide (s.toNat < size.toNat) || (s == size && decide (a.toNat < off.toNat))) = false by simp [H2.out, H3.out]] <;> rfl, hst.out.keeps⟩
    · have H2 := Lib.hid h2
      clear h2
      have hst := Lib.hid (Step.refl Nil w)
      go_enter Tryz.func109, Tryz.ntmps109
      obtain ⟨W1, hW1⟩ : ∃ W, W = w.alloc (.cells #[A, B] 71) := ⟨_, rfl⟩
      obtain ⟨B1, eB1⟩ : ∃ B, B = w.heap.size := ⟨_, rfl⟩
      replace hW1 := Lib.hid hW1
      replace eB1 := Lib.hid eB1
      go_wp2_with fail
      rw [← hW1.out]
      try rw [← eB1.out]
      have k1 : Keeps Nil w W1 := by rw [hW1.out]; exact alloc_keeps _ _
      have e0B1 : B1 = w.heap.size := by rw [eB1.out]
      have hB1 := Lib.hid (show Bx W1 Nil B1 #[A, B] 71 by rw [hW1.out]; exact Bx.new Nil.lt _ _ e0B1)
      have gB1 := Lib.hid (show w.heap.size ≤ B1 by rw [e0B1]; exact hst.out.keeps.size)
      replace hst := Lib.hid (hst.out.nil k1)
      clear k1 e0B1
      refine (rSize_any (HR.out.keeps hst.out.keeps) a _ rfl).mono ?_
      rintro _ W2 ⟨rfl, kn⟩
      rw [← HS.out]
      replace hst := Lib.hid (hst.out.nil kn)
      replace hB1 := Lib.hid (hB1.out.nil kn)
      clear kn
      have d1 : decide (s.toNat < size.toNat) = false := decide_eq_false (H1.out)
      have d2 : (((s.toNat : Int) : Int) == ((size.toNat : Int) : Int)) = false := (unlike_u64 (a := s) (b := size) (H2.out)).2
      have c_B1_0 := hB1.out.cell 0 _ rfl
      have f_B1_0 := hB1.out.frz 0
      have c_B1_1 := hB1.out.cell 1 _ rfl
      have f_B1_1 := hB1.out.frz 1
      have l_B1 := hB1.out.lt
      go_wp2_with fail
      go_ret
      clear c_B1_0 f_B1_0 c_B1_1 f_B1_1 l_B1
      exact ⟨by rw [show (decide (s.toNat < size.toNat) || (s == size && decide (a.toNat < off.toNat))) = false by simp [H1.out, H2.out]] <;> rfl, hst.out.keeps⟩
set_option maxRecDepth 100000 in
set_option maxHeartbeats 4000000 in
theorem rSorted_any {A B : Value} {f : UInt64 → UInt64} {S : Nat → Prop} {w : World} {vl : Value} {l : List UInt64} (h : RReads (.agg #[A, B]) f w) (hv : View kU S w vl l) (hll : l.length ≤ 65535) (hn : l.Nodup) :
    Calls Tryz.prog 51 #[.agg #[A, B], vl] w fun e w' => ∃ v, e = .returned v ∧ View kU (fun k => k < w.heap.size) w' v (sortF (cmpF f) l) ∧ Keeps Nil w w' := by
  obtain ⟨al, cl, rfl, _⟩ := hv.val
  obtain ⟨N, hN⟩ : ∃ N, N = l.length := ⟨_, rfl⟩
  rw [← hN]
  have HR := Lib.hid h
  have HV := Lib.hid hv
  have HN := Lib.hid (And.intro hN hn)
  have hN6 : N ≤ 65535 := by omega
  clear h hv hN hn hll
  have hst := Lib.hid (Step.refl Nil w)
  go_enter Tryz.func51, Tryz.ntmps51
  obtain ⟨W1, hW1⟩ : ∃ W, W = w.alloc (.cells #[A, B] 71) := ⟨_, rfl⟩
  obtain ⟨B1, eB1⟩ : ∃ B, B = w.heap.size := ⟨_, rfl⟩
  replace hW1 := Lib.hid hW1
  replace eB1 := Lib.hid eB1
  go_wp2_with fail
  rw [← hW1.out]
  try rw [← eB1.out]
  have k1 : Keeps Nil w W1 := by rw [hW1.out]; exact alloc_keeps _ _
  have e0B1 : B1 = w.heap.size := by rw [eB1.out]
  have hB1 := Lib.hid (show Bx W1 Nil B1 #[A, B] 71 by rw [hW1.out]; exact Bx.new Nil.lt _ _ e0B1)
  have gB1 := Lib.hid (show w.heap.size ≤ B1 by rw [e0B1]; exact hst.out.keeps.size)
  replace hst := Lib.hid (hst.out.nil k1)
  clear k1 e0B1
  have c_B1_0 := hB1.out.cell 0 _ rfl
  have f_B1_0 := hB1.out.frz 0
  have c_B1_1 := hB1.out.cell 1 _ rfl
  have f_B1_1 := hB1.out.frz 1
  have l_B1 := hB1.out.lt
  go_wp2_with fail
  clear c_B1_0 f_B1_0 c_B1_1 f_B1_1 l_B1
  go_loopw [5, 6] (fun vo i wr => (∃ (k n : Nat) (O : List UInt64) (a : Option Addr) (c : Nat), k ≤ N ∧ n = k ∧ vo = .slice a n c ∧ i = .int .i64 (k : Int) ∧ Hid (Keeps Nil w wr) ∧ Hid (View kU (fun k => k < w.heap.size) wr (.slice a n c) O) ∧ Hid (n = O.length) ∧ Hid (Sorted (ltF szU f) O ∧ O.Perm (l.take k))) ∧ Hid (Bx wr Nil B1 #[A, B] 71)) (fun vo i _ => N - (intOf i).toNat)
  case atStart => exact ⟨⟨0, 0, [], none, 0, Nat.zero_le _, rfl, rfl, rfl, Lib.hid hst.out.keeps, Lib.hid (.inl ⟨rfl, rfl⟩), Lib.hid rfl, Lib.hid ⟨by simp [Sorted], by simp⟩⟩, hB1⟩
  case round =>
    clear hB1
    obtain ⟨hrel, hB1⟩ := hrel
    obtain ⟨k, n, O, a, c, hk, hnk, rfl, rfl, hK0, hvo, HO, HS⟩ := hrel
    replace hst := Lib.hid (Step.of_nil (S := Nil) hK0.out)
    clear hK0
    by_cases hlt : k < N
    · obtain ⟨gl, gol, cpl, e1, hcl, _, hgl, _, hcll⟩ := HV.out.pos (by rw [← HN.out.1]; omega)
      simp only [Value.slice.injEq] at e1
      obtain ⟨rfl, hn1, rfl⟩ := e1
      clear hn1
      obtain ⟨x, hx⟩ : ∃ x, l[k]? = some x := ⟨l[k]'(by rw [← HN.out.1]; exact hlt), by simp⟩
      obtain ⟨k1, hk1⟩ : ∃ q, q = k + 1 := ⟨_, rfl⟩
      have hn6 : n ≤ 65535 := by omega
      have hk6 : k ≤ 65535 := by omega
      have HX := Lib.hid hx
      have HCL := Lib.hid hcll
      have HGL := Lib.hid (And.intro hgl hcl)
      have HK := Lib.hid (And.intro hk1 (And.intro hlt hnk))
      have q_n : wrap64 ((n : Int) - 1) = (n : Int) - 1 := IntWalk.wrap64_in _ (by omega)
      have q_k1 : wrap64 ((k : Int) + 1) = (k1 : Int) := by rw [hk1]; exact wrap_step k 1 hk6 (by decide)
      clear hx hcll hgl hcl hk1 hnk
      have c_B1_0 := hB1.out.cell 0 _ rfl
      have f_B1_0 := hB1.out.frz 0
      have c_B1_1 := hB1.out.cell 1 _ rfl
      have f_B1_1 := hB1.out.frz 1
      have l_B1 := hB1.out.lt
      have e_x := (hst.out.keeps.cell HGL.out.1 (fun e => e) _).trans (View.cellX HCL.out k x HX.out)
      have l_gl := Nat.lt_of_lt_of_le HGL.out.1 hst.out.keeps.size
      go_wp2_with fail
      clear c_B1_0 f_B1_0 c_B1_1 f_B1_1 l_B1 e_x l_gl
      have c_B1_0 := hB1.out.cell 0 _ rfl
      have f_B1_0 := hB1.out.frz 0
      have c_B1_1 := hB1.out.cell 1 _ rfl
      have f_B1_1 := hB1.out.frz 1
      have l_B1 := hB1.out.lt
      have e_x := (hst.out.keeps.cell HGL.out.1 (fun e => e) _).trans (View.cellX HCL.out k x HX.out)
      have l_gl := Nat.lt_of_lt_of_le HGL.out.1 hst.out.keeps.size
      go_wp2_with fail
      clear c_B1_0 f_B1_0 c_B1_1 f_B1_1 l_B1 e_x l_gl
      go_loopw [7, 8] (fun av kv wr => (∃ (m0 at_ : Nat), m0 ≤ at_ ∧ at_ ≤ n ∧ av = .int .i64 (at_ : Int) ∧ kv = .int .i64 ((m0 : Int) - 1) ∧ Hid (Keeps Nil w wr) ∧ Hid (View kU (fun k => k < w.heap.size) wr (.slice a n c) O) ∧ Hid ((∀ j y, m0 ≤ j → j < at_ → O[j]? = some y → ltF szU f x y = false) ∧ ∀ y, O[at_]? = some y → ltF szU f x y = true)) ∧ Hid (Bx wr Nil B1 #[A, B] 71)) (fun av kv _ => (intOf kv + 1).toNat)
      case atStart => exact ⟨⟨n, n, Nat.le_refl _, Nat.le_refl _, rfl, rfl, Lib.hid hst.out.keeps, hvo, Lib.hid ⟨fun j y h1 h2 => by clear q_n q_k1; omega, fun y hy => by have := (List.getElem?_eq_some_iff.1 hy).1; have := HO.out; clear q_n q_k1; omega⟩⟩, hB1⟩
      case round =>
        clear hB1
        obtain ⟨hrel, hB1⟩ := hrel
        clear hst hvo q_n
        obtain ⟨m0, at_, hma, han, rfl, rfl, hK0, hvo, HI⟩ := hrel
        have hst := Lib.hid (Step.of_nil (S := Nil) hK0.out)
        clear hK0
        by_cases hm : 0 < m0
        · obtain ⟨m, rfl⟩ : ∃ q, m0 = q + 1 := ⟨m0 - 1, by clear q_k1; omega⟩
          have hm6 : m ≤ 65535 := by clear q_k1; omega
          obtain ⟨gb, go, cap, e1, hcp, _, _, _, _⟩ := hvo.out.pos (by rw [← HO.out]; clear q_k1; omega)
          simp only [Value.slice.injEq] at e1
          obtain ⟨rfl, hn1, rfl⟩ := e1
          clear hn1
          obtain ⟨y, hy⟩ : ∃ y, O[m]? = some y := ⟨O[m]'(by rw [← HO.out]; clear q_k1; omega), by simp⟩
          have HY := Lib.hid hy
          have hmn : m < n := by clear q_k1; omega
          have HMA := Lib.hid (And.intro hma han)
          clear hy hm
          rw [show (((m + 1 : Nat) : Int) - 1) = (m : Int) by clear q_k1; omega]
          have q_m : wrap64 ((m : Int) - 1) = (m : Int) - 1 := IntWalk.wrap64_in _ (by clear q_k1; omega)
          have q_m2 : IntKind.i64.wrap ((m : Int) - 1) = (m : Int) - 1 := by rw [IntWalk.i64_left]; exact q_m
          have hd0 : decide ((0 : Int) ≤ (m : Int)) = true := by simp
          cases hxy : ltF szU f x y with
          | true =>
            have HLT := Lib.hid (show ltK (keyF szU f x) (sizeF f y, y) = true from hxy)
            clear hxy
            have c_B1_0 := hB1.out.cell 0 _ rfl
            have f_B1_0 := hB1.out.frz 0
            have c_B1_1 := hB1.out.cell 1 _ rfl
            have f_B1_1 := hB1.out.frz 1
            have l_B1 := hB1.out.lt
            have e_x := (hst.out.keeps.cell HGL.out.1 (fun e => e) _).trans (View.cellX HCL.out k x HX.out)
            have l_gl := Nat.lt_of_lt_of_le HGL.out.1 hst.out.keeps.size
            have e_y := (View.cellX hvo.out.at.2.2.2.2.2 m y HY.out)
            have l_gb := hvo.out.at.2.2.2.1
            go_wp2_with fail
            clear c_B1_0 f_B1_0 c_B1_1 f_B1_1 l_B1 e_x l_gl e_y l_gb
            obtain ⟨W2, hW2⟩ : ∃ W, W = wr.drew := ⟨_, rfl⟩
            replace hW2 := Lib.hid hW2
            have kn : Keeps Nil wr W2 := by rw [hW2.out]; exact keeps_drew _
            replace hst := Lib.hid (hst.out.nil kn)
            replace hvo := Lib.hid (hvo.out.keeps_nil kn)
            replace hB1 := Lib.hid (hB1.out.nil kn)
            clear kn
            refine wp_region_held_drew (S := fun w' => w'.cell? ⟨B1, 0, none⟩ = some (A) ∧ w'.cell? ⟨B1, 1, none⟩ = some (B) ∧ w'.cell? ⟨gl, gol + k, none⟩ = some (.int .u64 (x.toNat : Int)) ∧ w'.cell? ⟨gb, go + m, none⟩ = some (.int .u64 (y.toNat : Int))) (by kernel_rfl) (by rw [← hW2.out]; exact ⟨hB1.out.cell 0 _ rfl, hB1.out.cell 1 _ rfl, (hst.out.keeps.cell HGL.out.1 (fun e => e) _).trans (View.cellX HCL.out k x HX.out), (View.cellX hvo.out.at.2.2.2.2.2 m y HY.out)⟩) (fun hHeld => ?_)
            rw [← hW2.out] at hHeld ⊢
            refine wpAnyH_take (i := 0) (oi := _) (v := ?m1_v) rfl (by kernel_rfl) (by kernel_rfl) (by kernel_rfl) (fun _ _ _ h => h) (Or.inl ⟨by kernel_rfl, ?m1_h⟩) hHeld ?m1_r
            case m1_h => (intro w hSw; (try dsimp only at hSw); go_simp; try with_reducible rfl)
            try simp only [Act.put, List.getElem_toArray, List.getElem_cons_zero, List.setIfInBounds_toArray, List.set_cons_zero, List.set_cons_succ]
            refine wpAnyH_take (i := 1) (oi := _) (v := ?m2_v) rfl (by kernel_rfl) (by kernel_rfl) (by kernel_rfl) (fun _ _ _ h => h) (Or.inl ⟨by kernel_rfl, ?m2_h⟩) hHeld ?m2_r
            case m2_h => (intro w hSw; (try dsimp only at hSw); go_simp; try with_reducible rfl)
            try simp only [Act.put, List.getElem_toArray, List.getElem_cons_succ, List.getElem_cons_zero, List.setIfInBounds_toArray, List.set_cons_zero, List.set_cons_succ]
            refine wpAnyH_take (i := 2) (oi := _) (v := ?m3_v) rfl (by kernel_rfl) (by kernel_rfl) (by kernel_rfl) (fun _ _ _ h => h) (Or.inl ⟨by kernel_rfl, ?m3_h⟩) hHeld ?m3_r
            case m3_h => (intro w hSw; (try dsimp only at hSw); go_simp; try with_reducible rfl)
            try simp only [Act.put, List.getElem_toArray, List.getElem_cons_succ, List.getElem_cons_zero, List.setIfInBounds_toArray, List.set_cons_zero, List.set_cons_succ]
            refine wpAnyH_take (i := 3) (oi := _) (v := ?m4_v) rfl (by kernel_rfl) (by kernel_rfl) (by kernel_rfl) (fun _ _ _ h => h) (Or.inl ⟨by kernel_rfl, ?m4_h⟩) hHeld ?m4_r
            case m4_h => (intro w hSw; (try dsimp only at hSw); go_simp; try with_reducible rfl)
            try simp only [Act.put, List.getElem_toArray, List.getElem_cons_succ, List.getElem_cons_zero, List.setIfInBounds_toArray, List.set_cons_zero, List.set_cons_succ]
            refine wpAnyH_take (i := 4) (oi := _) (v := ?m5_v) rfl (by kernel_rfl) (by kernel_rfl) (by kernel_rfl) (fun _ _ _ h => h) (Or.inl ⟨by kernel_rfl, ?m5_h⟩) hHeld ?m5_r
            case m5_h => (intro w hSw; (try dsimp only at hSw); go_simp; try with_reducible rfl)
            try simp only [Act.put, List.getElem_toArray, List.getElem_cons_succ, List.getElem_cons_zero, List.setIfInBounds_toArray, List.set_cons_zero, List.set_cons_succ]
            refine wpAnyH_take (i := 5) (oi := _) (v := ?m6_v) rfl (by kernel_rfl) (by kernel_rfl) (by kernel_rfl) (fun _ _ _ h => h) (Or.inl ⟨by kernel_rfl, ?m6_h⟩) hHeld ?m6_r
            case m6_h => (intro w hSw; (try dsimp only at hSw); go_simp; try with_reducible rfl)
            try simp only [Act.put, List.getElem_toArray, List.getElem_cons_succ, List.getElem_cons_zero, List.setIfInBounds_toArray, List.set_cons_zero, List.set_cons_succ]
            refine wpAnyH_take (i := 6) (oi := _) (v := ?m7_v) rfl (by kernel_rfl) (by kernel_rfl) (by kernel_rfl) (fun _ _ _ h => h) (Or.inl ⟨by kernel_rfl, ?m7_h⟩) hHeld ?m7_r
            case m7_h => (intro w hSw; (try dsimp only at hSw); go_simp; try with_reducible rfl)
            try simp only [Act.put, List.getElem_toArray, List.getElem_cons_succ, List.getElem_cons_zero, List.setIfInBounds_toArray, List.set_cons_zero, List.set_cons_succ]
            refine wpAnyH_take (i := 7) (oi := _) (v := ?m8_v) rfl (by kernel_rfl) (by kernel_rfl) (by kernel_rfl) (fun _ _ _ h => h) (Or.inl ⟨by kernel_rfl, ?m8_h⟩) hHeld ?m8_r
            case m8_h => (intro w hSw; (try dsimp only at hSw); go_simp; try with_reducible rfl)
            try simp only [Act.put, List.getElem_toArray, List.getElem_cons_succ, List.getElem_cons_zero, List.setIfInBounds_toArray, List.set_cons_zero, List.set_cons_succ]
            refine wpAnyH_take (i := 8) (oi := _) (v := ?m9_v) rfl (by kernel_rfl) (by kernel_rfl) (by kernel_rfl) (fun _ _ _ h => h) (Or.inl ⟨by kernel_rfl, ?m9_h⟩) hHeld ?m9_r
            case m9_h => (intro w hSw; (try dsimp only at hSw); go_simp; try with_reducible rfl)
            try simp only [Act.put, List.getElem_toArray, List.getElem_cons_succ, List.getElem_cons_zero, List.setIfInBounds_toArray, List.set_cons_zero, List.set_cons_succ]
            refine wpAnyH_take (i := 9) (oi := _) (v := ?m10_v) rfl (by kernel_rfl) (by kernel_rfl) (by kernel_rfl) (fun _ _ _ h => h) (Or.inl ⟨by kernel_rfl, ?m10_h⟩) hHeld ?m10_r
            case m10_h => (intro w hSw; (try dsimp only at hSw); go_simp; try with_reducible rfl)
            try simp only [Act.put, List.getElem_toArray, List.getElem_cons_succ, List.getElem_cons_zero, List.setIfInBounds_toArray, List.set_cons_zero, List.set_cons_succ]
            refine wpAnyH_take (i := 11) (oi := _) (v := ?m11_v) rfl (by kernel_rfl) (by kernel_rfl) (by kernel_rfl) (fun _ _ _ h => h) (Or.inl ⟨by kernel_rfl, ?m11_h⟩) hHeld ?m11_r
            case m11_h => (intro w hSw; (try dsimp only at hSw); go_simp; try with_reducible rfl)
            try simp only [Act.put, List.getElem_toArray, List.getElem_cons_succ, List.getElem_cons_zero, List.setIfInBounds_toArray, List.set_cons_zero, List.set_cons_succ]
            refine wpAnyH_take (i := 12) (oi := _) (v := ?m12_v) rfl (by kernel_rfl) (by kernel_rfl) (by kernel_rfl) (fun _ _ _ h => h) (Or.inl ⟨by kernel_rfl, ?m12_h⟩) hHeld ?m12_r
            case m12_h => (intro w hSw; (try dsimp only at hSw); go_simp; try with_reducible rfl)
            try simp only [Act.put, List.getElem_toArray, List.getElem_cons_succ, List.getElem_cons_zero, List.setIfInBounds_toArray, List.set_cons_zero, List.set_cons_succ]
            refine wpAnyH_take (i := 13) (oi := _) (v := ?m13_v) rfl (by kernel_rfl) (by kernel_rfl) (by kernel_rfl) (fun _ _ _ h => h) (Or.inl ⟨by kernel_rfl, ?m13_h⟩) hHeld ?m13_r
            case m13_h => (intro w hSw; (try dsimp only at hSw); go_simp; try with_reducible rfl)
            try simp only [Act.put, List.getElem_toArray, List.getElem_cons_succ, List.getElem_cons_zero, List.setIfInBounds_toArray, List.set_cons_zero, List.set_cons_succ]
            refine wpAnyH_take (i := 14) (oi := _) (v := ?m14_v) rfl (by kernel_rfl) (by kernel_rfl) (by kernel_rfl) (fun _ _ _ h => h) (Or.inl ⟨by kernel_rfl, ?m14_h⟩) hHeld ?m14_r
            case m14_h => (intro w hSw; (try dsimp only at hSw); go_simp; try with_reducible rfl)
            try simp only [Act.put, List.getElem_toArray, List.getElem_cons_succ, List.getElem_cons_zero, List.setIfInBounds_toArray, List.set_cons_zero, List.set_cons_succ]
            refine wpAnyH_ready (rs := [10]) (by kernel_rfl) (by simp) ?_
            refine (AllReadyH.cons (o := _) rfl (fun K hK => ?_) AllReadyH.nil)
            go_simp
            refine (rSize_any (HR.out.keeps hst.out.keeps) y _ rfl).mono ?_
            rintro _ W3 ⟨rfl, kn⟩
            replace hst := Lib.hid (hst.out.nil kn)
            replace hvo := Lib.hid (hvo.out.keeps_nil kn)
            replace hB1 := Lib.hid (hB1.out.nil kn)
            clear kn
            refine hK.out _ _ (⟨hB1.out.cell 0 _ rfl, hB1.out.cell 1 _ rfl, (hst.out.keeps.cell HGL.out.1 (fun e => e) _).trans (View.cellX HCL.out k x HX.out), (View.cellX hvo.out.at.2.2.2.2.2 m y HY.out)⟩) (fun hHeld => ?_)
            clear hK K
            try simp only [Act.put, List.getElem_toArray, List.getElem_cons_succ, List.getElem_cons_zero, List.setIfInBounds_toArray, List.set_cons_zero, List.set_cons_succ]
            refine wpAnyH_ready (rs := [15]) (by kernel_rfl) (by simp) ?_
            refine (AllReadyH.cons (o := _) rfl (fun K hK => ?_) AllReadyH.nil)
            go_simp
            refine (rLess_any (HR.out.keeps hst.out.keeps) x (sizeF f y) y).mono ?_
            rintro _ W4 ⟨rfl, kn⟩
            rw [HLT.out]
            replace hst := Lib.hid (hst.out.nil kn)
            replace hvo := Lib.hid (hvo.out.keeps_nil kn)
            replace hB1 := Lib.hid (hB1.out.nil kn)
            clear kn
            refine hK.out _ _ (⟨hB1.out.cell 0 _ rfl, hB1.out.cell 1 _ rfl, (hst.out.keeps.cell HGL.out.1 (fun e => e) _).trans (View.cellX HCL.out k x HX.out), (View.cellX hvo.out.at.2.2.2.2.2 m y HY.out)⟩) (fun hHeld => ?_)
            clear hK K
            try simp only [Act.put, List.getElem_toArray, List.getElem_cons_succ, List.getElem_cons_zero, List.setIfInBounds_toArray, List.set_cons_zero, List.set_cons_succ]
            refine wpAnyH_done (by kernel_rfl) ?_ _
            clear hHeld
            have c_B1_0 := hB1.out.cell 0 _ rfl
            have f_B1_0 := hB1.out.frz 0
            have c_B1_1 := hB1.out.cell 1 _ rfl
            have f_B1_1 := hB1.out.frz 1
            have l_B1 := hB1.out.lt
            have e_x := (hst.out.keeps.cell HGL.out.1 (fun e => e) _).trans (View.cellX HCL.out k x HX.out)
            have l_gl := Nat.lt_of_lt_of_le HGL.out.1 hst.out.keeps.size
            have e_y := (View.cellX hvo.out.at.2.2.2.2.2 m y HY.out)
            have l_gb := hvo.out.at.2.2.2.1
            go_wp2_with fail
            clear c_B1_0 f_B1_0 c_B1_1 f_B1_1 l_B1 e_x l_gl e_y l_gb
            go_roundw
            case rel => exact ⟨⟨m, m, by clear q_k1 q_m q_m2; have := HMA.out; omega, by clear q_k1 q_m q_m2; have := HMA.out; omega, rfl, rfl, Lib.hid hst.out.keeps, hvo, Lib.hid ⟨fun j y' h1 h2 hy' => by
              clear q_k1 q_m q_m2; omega, fun y' hy' => by rw [HY.out] at hy'; cases hy'; exact HLT.out⟩⟩, hB1⟩
            case measure => first | (simp [intOf]; done) | (simp [intOf]; (try clear q_k1 q_m q_m2); omega)
          | false =>
            have HLT := Lib.hid (show ltK (keyF szU f x) (sizeF f y, y) = false from hxy)
            clear hxy
            have c_B1_0 := hB1.out.cell 0 _ rfl
            have f_B1_0 := hB1.out.frz 0
            have c_B1_1 := hB1.out.cell 1 _ rfl
            have f_B1_1 := hB1.out.frz 1
            have l_B1 := hB1.out.lt
            have e_x := (hst.out.keeps.cell HGL.out.1 (fun e => e) _).trans (View.cellX HCL.out k x HX.out)
            have l_gl := Nat.lt_of_lt_of_le HGL.out.1 hst.out.keeps.size
            have e_y := (View.cellX hvo.out.at.2.2.2.2.2 m y HY.out)
            have l_gb := hvo.out.at.2.2.2.1
            go_wp2_with fail
            clear c_B1_0 f_B1_0 c_B1_1 f_B1_1 l_B1 e_x l_gl e_y l_gb
            obtain ⟨W2, hW2⟩ : ∃ W, W = wr.drew := ⟨_, rfl⟩
            replace hW2 := Lib.hid hW2
            have kn : Keeps Nil wr W2 := by rw [hW2.out]; exact keeps_drew _
            replace hst := Lib.hid (hst.out.nil kn)
            replace hvo := Lib.hid (hvo.out.keeps_nil kn)
            replace hB1 := Lib.hid (hB1.out.nil kn)
            clear kn
            refine wp_region_held_drew (S := fun w' => w'.cell? ⟨B1, 0, none⟩ = some (A) ∧ w'.cell? ⟨B1, 1, none⟩ = some (B) ∧ w'.cell? ⟨gl, gol + k, none⟩ = some (.int .u64 (x.toNat : Int)) ∧ w'.cell? ⟨gb, go + m, none⟩ = some (.int .u64 (y.toNat : Int))) (by kernel_rfl) (by rw [← hW2.out]; exact ⟨hB1.out.cell 0 _ rfl, hB1.out.cell 1 _ rfl, (hst.out.keeps.cell HGL.out.1 (fun e => e) _).trans (View.cellX HCL.out k x HX.out), (View.cellX hvo.out.at.2.2.2.2.2 m y HY.out)⟩) (fun hHeld => ?_)
            rw [← hW2.out] at hHeld ⊢
            refine wpAnyH_take (i := 0) (oi := _) (v := ?m15_v) rfl (by kernel_rfl) (by kernel_rfl) (by kernel_rfl) (fun _ _ _ h => h) (Or.inl ⟨by kernel_rfl, ?m15_h⟩) hHeld ?m15_r
            case m15_h => (intro w hSw; (try dsimp only at hSw); go_simp; try with_reducible rfl)
            try simp only [Act.put, List.getElem_toArray, List.getElem_cons_zero, List.setIfInBounds_toArray, List.set_cons_zero, List.set_cons_succ]
            refine wpAnyH_take (i := 1) (oi := _) (v := ?m16_v) rfl (by kernel_rfl) (by kernel_rfl) (by kernel_rfl) (fun _ _ _ h => h) (Or.inl ⟨by kernel_rfl, ?m16_h⟩) hHeld ?m16_r
            case m16_h => (intro w hSw; (try dsimp only at hSw); go_simp; try with_reducible rfl)
            try simp only [Act.put, List.getElem_toArray, List.getElem_cons_succ, List.getElem_cons_zero, List.setIfInBounds_toArray, List.set_cons_zero, List.set_cons_succ]
            refine wpAnyH_take (i := 2) (oi := _) (v := ?m17_v) rfl (by kernel_rfl) (by kernel_rfl) (by kernel_rfl) (fun _ _ _ h => h) (Or.inl ⟨by kernel_rfl, ?m17_h⟩) hHeld ?m17_r
            case m17_h => (intro w hSw; (try dsimp only at hSw); go_simp; try with_reducible rfl)
            try simp only [Act.put, List.getElem_toArray, List.getElem_cons_succ, List.getElem_cons_zero, List.setIfInBounds_toArray, List.set_cons_zero, List.set_cons_succ]
            refine wpAnyH_take (i := 3) (oi := _) (v := ?m18_v) rfl (by kernel_rfl) (by kernel_rfl) (by kernel_rfl) (fun _ _ _ h => h) (Or.inl ⟨by kernel_rfl, ?m18_h⟩) hHeld ?m18_r
            case m18_h => (intro w hSw; (try dsimp only at hSw); go_simp; try with_reducible rfl)
            try simp only [Act.put, List.getElem_toArray, List.getElem_cons_succ, List.getElem_cons_zero, List.setIfInBounds_toArray, List.set_cons_zero, List.set_cons_succ]
            refine wpAnyH_take (i := 4) (oi := _) (v := ?m19_v) rfl (by kernel_rfl) (by kernel_rfl) (by kernel_rfl) (fun _ _ _ h => h) (Or.inl ⟨by kernel_rfl, ?m19_h⟩) hHeld ?m19_r
            case m19_h => (intro w hSw; (try dsimp only at hSw); go_simp; try with_reducible rfl)
            try simp only [Act.put, List.getElem_toArray, List.getElem_cons_succ, List.getElem_cons_zero, List.setIfInBounds_toArray, List.set_cons_zero, List.set_cons_succ]
            refine wpAnyH_take (i := 5) (oi := _) (v := ?m20_v) rfl (by kernel_rfl) (by kernel_rfl) (by kernel_rfl) (fun _ _ _ h => h) (Or.inl ⟨by kernel_rfl, ?m20_h⟩) hHeld ?m20_r
            case m20_h => (intro w hSw; (try dsimp only at hSw); go_simp; try with_reducible rfl)
            try simp only [Act.put, List.getElem_toArray, List.getElem_cons_succ, List.getElem_cons_zero, List.setIfInBounds_toArray, List.set_cons_zero, List.set_cons_succ]
            refine wpAnyH_take (i := 6) (oi := _) (v := ?m21_v) rfl (by kernel_rfl) (by kernel_rfl) (by kernel_rfl) (fun _ _ _ h => h) (Or.inl ⟨by kernel_rfl, ?m21_h⟩) hHeld ?m21_r
            case m21_h => (intro w hSw; (try dsimp only at hSw); go_simp; try with_reducible rfl)
            try simp only [Act.put, List.getElem_toArray, List.getElem_cons_succ, List.getElem_cons_zero, List.setIfInBounds_toArray, List.set_cons_zero, List.set_cons_succ]
            refine wpAnyH_take (i := 7) (oi := _) (v := ?m22_v) rfl (by kernel_rfl) (by kernel_rfl) (by kernel_rfl) (fun _ _ _ h => h) (Or.inl ⟨by kernel_rfl, ?m22_h⟩) hHeld ?m22_r
            case m22_h => (intro w hSw; (try dsimp only at hSw); go_simp; try with_reducible rfl)
            try simp only [Act.put, List.getElem_toArray, List.getElem_cons_succ, List.getElem_cons_zero, List.setIfInBounds_toArray, List.set_cons_zero, List.set_cons_succ]
            refine wpAnyH_take (i := 8) (oi := _) (v := ?m23_v) rfl (by kernel_rfl) (by kernel_rfl) (by kernel_rfl) (fun _ _ _ h => h) (Or.inl ⟨by kernel_rfl, ?m23_h⟩) hHeld ?m23_r
            case m23_h => (intro w hSw; (try dsimp only at hSw); go_simp; try with_reducible rfl)
            try simp only [Act.put, List.getElem_toArray, List.getElem_cons_succ, List.getElem_cons_zero, List.setIfInBounds_toArray, List.set_cons_zero, List.set_cons_succ]
            refine wpAnyH_take (i := 9) (oi := _) (v := ?m24_v) rfl (by kernel_rfl) (by kernel_rfl) (by kernel_rfl) (fun _ _ _ h => h) (Or.inl ⟨by kernel_rfl, ?m24_h⟩) hHeld ?m24_r
            case m24_h => (intro w hSw; (try dsimp only at hSw); go_simp; try with_reducible rfl)
            try simp only [Act.put, List.getElem_toArray, List.getElem_cons_succ, List.getElem_cons_zero, List.setIfInBounds_toArray, List.set_cons_zero, List.set_cons_succ]
            refine wpAnyH_take (i := 11) (oi := _) (v := ?m25_v) rfl (by kernel_rfl) (by kernel_rfl) (by kernel_rfl) (fun _ _ _ h => h) (Or.inl ⟨by kernel_rfl, ?m25_h⟩) hHeld ?m25_r
            case m25_h => (intro w hSw; (try dsimp only at hSw); go_simp; try with_reducible rfl)
            try simp only [Act.put, List.getElem_toArray, List.getElem_cons_succ, List.getElem_cons_zero, List.setIfInBounds_toArray, List.set_cons_zero, List.set_cons_succ]
            refine wpAnyH_take (i := 12) (oi := _) (v := ?m26_v) rfl (by kernel_rfl) (by kernel_rfl) (by kernel_rfl) (fun _ _ _ h => h) (Or.inl ⟨by kernel_rfl, ?m26_h⟩) hHeld ?m26_r
            case m26_h => (intro w hSw; (try dsimp only at hSw); go_simp; try with_reducible rfl)
            try simp only [Act.put, List.getElem_toArray, List.getElem_cons_succ, List.getElem_cons_zero, List.setIfInBounds_toArray, List.set_cons_zero, List.set_cons_succ]
            refine wpAnyH_take (i := 13) (oi := _) (v := ?m27_v) rfl (by kernel_rfl) (by kernel_rfl) (by kernel_rfl) (fun _ _ _ h => h) (Or.inl ⟨by kernel_rfl, ?m27_h⟩) hHeld ?m27_r
            case m27_h => (intro w hSw; (try dsimp only at hSw); go_simp; try with_reducible rfl)
            try simp only [Act.put, List.getElem_toArray, List.getElem_cons_succ, List.getElem_cons_zero, List.setIfInBounds_toArray, List.set_cons_zero, List.set_cons_succ]
            refine wpAnyH_take (i := 14) (oi := _) (v := ?m28_v) rfl (by kernel_rfl) (by kernel_rfl) (by kernel_rfl) (fun _ _ _ h => h) (Or.inl ⟨by kernel_rfl, ?m28_h⟩) hHeld ?m28_r
            case m28_h => (intro w hSw; (try dsimp only at hSw); go_simp; try with_reducible rfl)
            try simp only [Act.put, List.getElem_toArray, List.getElem_cons_succ, List.getElem_cons_zero, List.setIfInBounds_toArray, List.set_cons_zero, List.set_cons_succ]
            refine wpAnyH_ready (rs := [10]) (by kernel_rfl) (by simp) ?_
            refine (AllReadyH.cons (o := _) rfl (fun K hK => ?_) AllReadyH.nil)
            go_simp
            refine (rSize_any (HR.out.keeps hst.out.keeps) y _ rfl).mono ?_
            rintro _ W3 ⟨rfl, kn⟩
            replace hst := Lib.hid (hst.out.nil kn)
            replace hvo := Lib.hid (hvo.out.keeps_nil kn)
            replace hB1 := Lib.hid (hB1.out.nil kn)
            clear kn
            refine hK.out _ _ (⟨hB1.out.cell 0 _ rfl, hB1.out.cell 1 _ rfl, (hst.out.keeps.cell HGL.out.1 (fun e => e) _).trans (View.cellX HCL.out k x HX.out), (View.cellX hvo.out.at.2.2.2.2.2 m y HY.out)⟩) (fun hHeld => ?_)
            clear hK K
            try simp only [Act.put, List.getElem_toArray, List.getElem_cons_succ, List.getElem_cons_zero, List.setIfInBounds_toArray, List.set_cons_zero, List.set_cons_succ]
            refine wpAnyH_ready (rs := [15]) (by kernel_rfl) (by simp) ?_
            refine (AllReadyH.cons (o := _) rfl (fun K hK => ?_) AllReadyH.nil)
            go_simp
            refine (rLess_any (HR.out.keeps hst.out.keeps) x (sizeF f y) y).mono ?_
            rintro _ W4 ⟨rfl, kn⟩
            rw [HLT.out]
            replace hst := Lib.hid (hst.out.nil kn)
            replace hvo := Lib.hid (hvo.out.keeps_nil kn)
            replace hB1 := Lib.hid (hB1.out.nil kn)
            clear kn
            refine hK.out _ _ (⟨hB1.out.cell 0 _ rfl, hB1.out.cell 1 _ rfl, (hst.out.keeps.cell HGL.out.1 (fun e => e) _).trans (View.cellX HCL.out k x HX.out), (View.cellX hvo.out.at.2.2.2.2.2 m y HY.out)⟩) (fun hHeld => ?_)
            clear hK K
            try simp only [Act.put, List.getElem_toArray, List.getElem_cons_succ, List.getElem_cons_zero, List.setIfInBounds_toArray, List.set_cons_zero, List.set_cons_succ]
            refine wpAnyH_done (by kernel_rfl) ?_ _
            clear hHeld
            have c_B1_0 := hB1.out.cell 0 _ rfl
            have f_B1_0 := hB1.out.frz 0
            have c_B1_1 := hB1.out.cell 1 _ rfl
            have f_B1_1 := hB1.out.frz 1
            have l_B1 := hB1.out.lt
            have e_x := (hst.out.keeps.cell HGL.out.1 (fun e => e) _).trans (View.cellX HCL.out k x HX.out)
            have l_gl := Nat.lt_of_lt_of_le HGL.out.1 hst.out.keeps.size
            have e_y := (View.cellX hvo.out.at.2.2.2.2.2 m y HY.out)
            have l_gb := hvo.out.at.2.2.2.1
            go_wp2_with fail
            clear c_B1_0 f_B1_0 c_B1_1 f_B1_1 l_B1 e_x l_gl e_y l_gb
            go_roundw
            case rel => exact ⟨⟨m, at_, by clear q_k1 q_m q_m2; have := HMA.out; omega, by clear q_k1 q_m q_m2; have := HMA.out; omega, rfl, rfl, Lib.hid hst.out.keeps, hvo, Lib.hid ⟨fun j y' h1 h2 hy' => by
              clear q_k1 q_m q_m2
              by_cases e : j = m
              · subst e; rw [HY.out] at hy'; cases hy'; exact HLT.out
              · exact HI.out.1 j y' (by omega) h2 hy', HI.out.2⟩⟩, hB1⟩
            case measure => first | (simp [intOf]; done) | (simp [intOf]; (try clear q_k1 q_m q_m2); omega)
        · obtain rfl : m0 = 0 := by clear q_k1; omega
          obtain ⟨A0, hA0⟩ : ∃ A, A = O.take at_ := ⟨_, rfl⟩
          obtain ⟨B0, hB0⟩ : ∃ A, A = O.drop at_ := ⟨_, rfl⟩
          obtain ⟨mb, hmb⟩ : ∃ q, q = n - at_ := ⟨_, rfl⟩
          obtain ⟨m2, hm2⟩ : ∃ q, q = at_ + 1 + mb := ⟨_, rfl⟩
          have hOab : O = A0 ++ B0 := by rw [hA0, hB0, List.take_append_drop]
          have hAl0 : A0.length = at_ := by rw [hA0, List.length_take, ← HO.out]; clear q_k1; omega
          have hBl0 : B0.length = mb := by rw [hB0, List.length_drop, ← HO.out, hmb]
          have hat6 : at_ ≤ 65535 := by clear q_k1; omega
          have hAl : ([] ++ A0).length < 4294967296 := by rw [List.nil_append, hAl0]; clear q_k1; omega
          have hsput : Sorted (ltF szU f) (A0 ++ x :: B0) ∧ (A0 ++ x :: B0).Perm (l.take k1) := by
              have hp : O.Perm (l.take k) := HS.out.2
              have htk : l.take k1 = l.take k ++ [x] := by rw [HK.out.1]; exact take_succ' HX.out
              have hxn : x ∉ O := fun e => by
                have h9 : (l.take k ++ [x]).Nodup := by rw [← htk]; exact HN.out.2.sublist (List.take_sublist _ _)
                exact (List.nodup_append.1 h9).2.2 x (hp.mem_iff.1 e) x (by simp) rfl
              refine ⟨sorted_put (by rw [← hOab]; exact HS.out.1) (by rw [← hOab]; exact hxn) (fun y hy => ?_) (fun y hy => ?_), ?_⟩
              · rw [hA0] at hy
                obtain ⟨j, hj, e⟩ := List.getElem_of_mem hy
                rw [List.length_take] at hj
                rw [List.getElem_take] at e
                exact HI.out.1 j y (Nat.zero_le _) (by clear q_k1; omega) (by rw [← e]; exact List.getElem?_eq_getElem _)
              · rw [hB0, List.head?_drop] at hy
                exact HI.out.2 y hy
              · rw [htk]
                refine List.perm_middle.trans ?_
                rw [← hOab]
                exact (List.Perm.cons x hp).trans (List.perm_append_singleton x (l.take k)).symm
          have HS2 := Lib.hid hsput
          have HM := Lib.hid (And.intro hm2 (And.intro hmb han))
          have HAB := Lib.hid (And.intro hOab (And.intro hAl0 hBl0))
          have hshut := hvo.out.shut (S' := fun k => wr.heap.size ≤ k) (fun g hg e => absurd e (Nat.not_le.2 hg))
          clear hm hA0 hB0 hmb hm2 hAl0 hBl0 hsput hOab
          by_cases hn0 : 0 < n
          · obtain ⟨gb, go, cap, e1, hcp, _, _, _, _⟩ := hvo.out.pos (by rw [← HO.out]; clear q_k1; omega)
            simp only [Value.slice.injEq] at e1
            obtain ⟨rfl, hn1, rfl⟩ := e1
            clear hn1
            have hnc : n ≤ c := by rw [HO.out]; exact hcp
            have hac : at_ ≤ c := by clear q_k1; omega
            have HVF := Lib.hid (hshut.front (A := A0) (B := B0) (m := at_) HAB.out.1 HAB.out.2.1.symm)
            obtain ⟨cb_, hcb⟩ : ∃ q, q = c - at_ := ⟨_, rfl⟩
            have q_cb := hcb.symm
            have q_mb := HM.out.2.1.symm
            by_cases hca : c = at_
            · have q_e : (c = at_) = True := eq_true hca
              have HVB := Lib.hid (show View kU (fun k => wr.heap.size ≤ k) wr (.slice (some ⟨gb, go, none⟩) mb cb_) B0 from hshut.none (by have h1 := HM.out; have h2 := HAB.out; clear q_k1; omega) (by rw [hcb]; exact Nat.sub_le _ _))
              clear hca hshut hcb hcp
              have hkr := Lib.hid (Keeps.refl (fun k => wr.heap.size ≤ k) wr)
              have c_B1_0 := hB1.out.cell 0 _ rfl
              have f_B1_0 := hB1.out.frz 0
              have c_B1_1 := hB1.out.cell 1 _ rfl
              have f_B1_1 := hB1.out.frz 1
              have l_B1 := hB1.out.lt
              have e_x := (hst.out.keeps.cell HGL.out.1 (fun e => e) _).trans (View.cellX HCL.out k x HX.out)
              have l_gl := Nat.lt_of_lt_of_le HGL.out.1 hst.out.keeps.size
              go_wp2_with (first | (at_builtin
                                    have szp := Lib.hid (show wr.heap.size ≤ wr.heap.size from hkr.out.size)
                                    obtain ⟨W2, hW2⟩ : ∃ W, W = wr.alloc (.cells #[] 25) := ⟨_, rfl⟩
                                    obtain ⟨B2, eB2⟩ : ∃ B, B = wr.heap.size := ⟨_, rfl⟩
                                    replace hW2 := Lib.hid hW2
                                    replace eB2 := Lib.hid eB2
                                    rw [← hW2.out]
                                    try rw [← eB2.out]
                                    have k2 : Keeps Nil wr W2 := by rw [hW2.out]; exact alloc_keeps _ _
                                    have e0B2 : B2 = wr.heap.size := by rw [eB2.out]
                                    have hB2 := Lib.hid (show Bx W2 Nil B2 #[] 25 by rw [hW2.out]; exact Bx.new Nil.lt _ _ e0B2)
                                    have gB2 := Lib.hid (show w.heap.size ≤ B2 by rw [e0B2]; exact hst.out.keeps.size)
                                    have nB1B2 := Lib.hid (show B1 < B2 by rw [e0B2]; exact hB1.out.lt)
                                    replace hst := Lib.hid (hst.out.nil k2)
                                    replace hkr := Lib.hid (hkr.out.trans' k2.of_nil)
                                    replace hB1 := Lib.hid (hB1.out.nil k2)
                                    clear k2 e0B2
                                    have hO3 := (show Own kU W2 B2 (.slice (some ⟨B2, 0, none⟩) 0 0) [] by rw [hW2.out, eB2.out]; exact Own.made kU _ _ (Nat.le_refl _))
                                    have hB3 := Nat.le_of_lt hB2.out.lt
                                    clear hB2
                                    have o_B2_B1 := nB1B2
                                    refine wpList_append_any kU rfl _ _ rfl hO3 rfl rfl (HVF.out.keeps hkr.out (fun _ e => e)) at_ (by rw [List.length_nil, Nat.zero_add]; exact HAB.out.2.1) (show at_ * 8 ≤ _ by clear q_k1; omega) hB3 (by decide) ?_
                                    rintro _ W3 ho3 kA3 hg3 ⟨a3, c3, rfl⟩
                                    have hst3 := Lib.hid (hst.out.own hO3 gB2.out kA3)
                                    have hB1_3 := Lib.hid (hB1.out.own hO3 kA3 (own_ne_old hO3 nB1B2.out))
                                    have ge_B2 := Lib.hid (show wr.heap.size ≤ B2 by rw [eB2.out]; exact szp.out)
                                    have gB_ := gB2
                                    have hkr_3 := Lib.hid (hkr.out.transN kA3 (fun i hi e => Nat.le_trans ge_B2.out (hO3.block e).1))
                                    replace ho3 := Lib.hid ho3
                                    have hs3 := Lib.hid (Nat.le_trans hB3 kA3.size)
                                    clear kA3 hg3 hO3 hB3
                                    clear hst; have hst := hst3; clear hst3
                                    clear hkr; have hkr := hkr_3; clear hkr_3
                                    have c_B1_0 := hB1_3.out.cell 0 _ rfl
                                    have f_B1_0 := hB1_3.out.frz 0
                                    have c_B1_1 := hB1_3.out.cell 1 _ rfl
                                    have f_B1_1 := hB1_3.out.frz 1
                                    have l_B1 := hB1_3.out.lt
                                    have e_x := (hst.out.keeps.cell HGL.out.1 (fun e => e) _).trans (View.cellX HCL.out k x HX.out)
                                    have l_gl := Nat.lt_of_lt_of_le HGL.out.1 hst.out.keeps.size)
                                 | (at_builtin
                                    refine wpList_append_one kU rfl _ _ rfl ho3.out rfl (x) _ rfl rfl hAl hs3.out ?_
                                    rintro _ W4 ho4 kA4 ⟨g4, cap4, rfl, hg4⟩
                                    have hst4 := Lib.hid (hst.out.own ho3.out gB2.out kA4)
                                    have hB1_3_4 := Lib.hid (hB1_3.out.own ho3.out kA4 (own_ne_old ho3.out o_B2_B1.out))
                                    have hkr_4 := Lib.hid (hkr.out.transN kA4 (fun i hi e => Nat.le_trans ge_B2.out (ho3.out.block e).1))
                                    replace ho4 := Lib.hid ho4
                                    have hs4 := Lib.hid (Nat.le_trans hs3.out kA4.size)
                                    clear kA4
                                    clear hst; have hst := hst4; clear hst4
                                    clear hkr; have hkr := hkr_4; clear hkr_4
                                    have c_B1_0 := hB1_3_4.out.cell 0 _ rfl
                                    have f_B1_0 := hB1_3_4.out.frz 0
                                    have c_B1_1 := hB1_3_4.out.cell 1 _ rfl
                                    have f_B1_1 := hB1_3_4.out.frz 1
                                    have l_B1 := hB1_3_4.out.lt
                                    have e_x := (hst.out.keeps.cell HGL.out.1 (fun e => e) _).trans (View.cellX HCL.out k x HX.out)
                                    have l_gl := Nat.lt_of_lt_of_le HGL.out.1 hst.out.keeps.size)
                                 | (at_builtin
                                    refine wpList_append_any kU rfl _ _ rfl ho4.out rfl rfl (HVB.out.keeps hkr.out (fun _ e => e)) m2 (by have h1 := HAB.out.2.1; have h2 := HAB.out.2.2; have h3 := HM.out; clear q_k1; simp; omega) (show m2 * 8 ≤ _ by have h3 := HM.out; clear q_k1; omega) hs4.out (by decide) ?_
                                    rintro _ W5 ho5 kA5 hg5 ⟨a5, c5, rfl⟩
                                    have hst5 := Lib.hid (hst.out.own ho4.out gB2.out kA5)
                                    have hB1_3_4_5 := Lib.hid (hB1_3_4.out.own ho4.out kA5 (own_ne_old ho4.out nB1B2.out))
                                    have hkr_5 := Lib.hid (hkr.out.transN kA5 (fun i hi e => Nat.le_trans ge_B2.out (ho4.out.block e).1))
                                    replace ho5 := Lib.hid ho5
                                    have hs5 := Lib.hid (Nat.le_trans hs4.out kA5.size)
                                    clear kA5 hg5
                                    clear hst; have hst := hst5; clear hst5
                                    clear hkr; have hkr := hkr_5; clear hkr_5
                                    have c_B1_0 := hB1_3_4_5.out.cell 0 _ rfl
                                    have f_B1_0 := hB1_3_4_5.out.frz 0
                                    have c_B1_1 := hB1_3_4_5.out.cell 1 _ rfl
                                    have f_B1_1 := hB1_3_4_5.out.frz 1
                                    have l_B1 := hB1_3_4_5.out.lt
                                    have e_x := (hst.out.keeps.cell HGL.out.1 (fun e => e) _).trans (View.cellX HCL.out k x HX.out)
                                    have l_gl := Nat.lt_of_lt_of_le HGL.out.1 hst.out.keeps.size))
              clear c_B1_0 f_B1_0 c_B1_1 f_B1_1 l_B1 e_x l_gl
              go_roundw
              case rel => exact ⟨⟨k1, m2, A0 ++ x :: B0, _, _, by clear q_k1; have := HK.out; omega, by clear q_k1; have := HK.out; have := HM.out; omega, rfl, by first | rfl | (rw [HK.out.1]; rfl) | (rw [HK.out.1]; simp), Lib.hid hst.out.keeps, Lib.hid (by have := ho5.out.view (S := (fun k => k < w.heap.size)) (fun g hg e => absurd e (Nat.not_lt.2 (Nat.le_trans gB_.out hg))); simpa using this), Lib.hid (by clear q_k1; have h1 := HM.out; have h2 := HO.out; have h3 := HAB.out.1; rw [h3] at h2; simp at h2 ⊢; omega), HS2⟩, hB1_3_4_5⟩
              case measure => first | (simp [intOf]; done) | (simp [intOf]; clear q_n q_k1; have := HK.out; omega) | (simp [intOf]; clear q_k1; have := HK.out; omega)
            · have q_e : (c = at_) = False := eq_false hca
              have HVB := Lib.hid (show View kU (fun k => wr.heap.size ≤ k) wr (.slice (some ⟨gb, go + at_, none⟩) mb cb_) B0 by rw [hcb]; exact hshut.back (A := A0) (B := B0) HAB.out.1 HAB.out.2.1.symm HAB.out.2.2.symm)
              clear hca hshut hcb hcp
              have hkr := Lib.hid (Keeps.refl (fun k => wr.heap.size ≤ k) wr)
              have c_B1_0 := hB1.out.cell 0 _ rfl
              have f_B1_0 := hB1.out.frz 0
              have c_B1_1 := hB1.out.cell 1 _ rfl
              have f_B1_1 := hB1.out.frz 1
              have l_B1 := hB1.out.lt
              have e_x := (hst.out.keeps.cell HGL.out.1 (fun e => e) _).trans (View.cellX HCL.out k x HX.out)
              have l_gl := Nat.lt_of_lt_of_le HGL.out.1 hst.out.keeps.size
              go_wp2_with (first | (at_builtin
                                    have szp := Lib.hid (show wr.heap.size ≤ wr.heap.size from hkr.out.size)
                                    obtain ⟨W2, hW2⟩ : ∃ W, W = wr.alloc (.cells #[] 25) := ⟨_, rfl⟩
                                    obtain ⟨B2, eB2⟩ : ∃ B, B = wr.heap.size := ⟨_, rfl⟩
                                    replace hW2 := Lib.hid hW2
                                    replace eB2 := Lib.hid eB2
                                    rw [← hW2.out]
                                    try rw [← eB2.out]
                                    have k2 : Keeps Nil wr W2 := by rw [hW2.out]; exact alloc_keeps _ _
                                    have e0B2 : B2 = wr.heap.size := by rw [eB2.out]
                                    have hB2 := Lib.hid (show Bx W2 Nil B2 #[] 25 by rw [hW2.out]; exact Bx.new Nil.lt _ _ e0B2)
                                    have gB2 := Lib.hid (show w.heap.size ≤ B2 by rw [e0B2]; exact hst.out.keeps.size)
                                    have nB1B2 := Lib.hid (show B1 < B2 by rw [e0B2]; exact hB1.out.lt)
                                    replace hst := Lib.hid (hst.out.nil k2)
                                    replace hkr := Lib.hid (hkr.out.trans' k2.of_nil)
                                    replace hB1 := Lib.hid (hB1.out.nil k2)
                                    clear k2 e0B2
                                    have hO3 := (show Own kU W2 B2 (.slice (some ⟨B2, 0, none⟩) 0 0) [] by rw [hW2.out, eB2.out]; exact Own.made kU _ _ (Nat.le_refl _))
                                    have hB3 := Nat.le_of_lt hB2.out.lt
                                    clear hB2
                                    have o_B2_B1 := nB1B2
                                    refine wpList_append_any kU rfl _ _ rfl hO3 rfl rfl (HVF.out.keeps hkr.out (fun _ e => e)) at_ (by rw [List.length_nil, Nat.zero_add]; exact HAB.out.2.1) (show at_ * 8 ≤ _ by clear q_k1; omega) hB3 (by decide) ?_
                                    rintro _ W3 ho3 kA3 hg3 ⟨a3, c3, rfl⟩
                                    have hst3 := Lib.hid (hst.out.own hO3 gB2.out kA3)
                                    have hB1_3 := Lib.hid (hB1.out.own hO3 kA3 (own_ne_old hO3 nB1B2.out))
                                    have ge_B2 := Lib.hid (show wr.heap.size ≤ B2 by rw [eB2.out]; exact szp.out)
                                    have gB_ := gB2
                                    have hkr_3 := Lib.hid (hkr.out.transN kA3 (fun i hi e => Nat.le_trans ge_B2.out (hO3.block e).1))
                                    replace ho3 := Lib.hid ho3
                                    have hs3 := Lib.hid (Nat.le_trans hB3 kA3.size)
                                    clear kA3 hg3 hO3 hB3
                                    clear hst; have hst := hst3; clear hst3
                                    clear hkr; have hkr := hkr_3; clear hkr_3
                                    have c_B1_0 := hB1_3.out.cell 0 _ rfl
                                    have f_B1_0 := hB1_3.out.frz 0
                                    have c_B1_1 := hB1_3.out.cell 1 _ rfl
                                    have f_B1_1 := hB1_3.out.frz 1
                                    have l_B1 := hB1_3.out.lt
                                    have e_x := (hst.out.keeps.cell HGL.out.1 (fun e => e) _).trans (View.cellX HCL.out k x HX.out)
                                    have l_gl := Nat.lt_of_lt_of_le HGL.out.1 hst.out.keeps.size)
                                 | (at_builtin
                                    refine wpList_append_one kU rfl _ _ rfl ho3.out rfl (x) _ rfl rfl hAl hs3.out ?_
                                    rintro _ W4 ho4 kA4 ⟨g4, cap4, rfl, hg4⟩
                                    have hst4 := Lib.hid (hst.out.own ho3.out gB2.out kA4)
                                    have hB1_3_4 := Lib.hid (hB1_3.out.own ho3.out kA4 (own_ne_old ho3.out o_B2_B1.out))
                                    have hkr_4 := Lib.hid (hkr.out.transN kA4 (fun i hi e => Nat.le_trans ge_B2.out (ho3.out.block e).1))
                                    replace ho4 := Lib.hid ho4
                                    have hs4 := Lib.hid (Nat.le_trans hs3.out kA4.size)
                                    clear kA4
                                    clear hst; have hst := hst4; clear hst4
                                    clear hkr; have hkr := hkr_4; clear hkr_4
                                    have c_B1_0 := hB1_3_4.out.cell 0 _ rfl
                                    have f_B1_0 := hB1_3_4.out.frz 0
                                    have c_B1_1 := hB1_3_4.out.cell 1 _ rfl
                                    have f_B1_1 := hB1_3_4.out.frz 1
                                    have l_B1 := hB1_3_4.out.lt
                                    have e_x := (hst.out.keeps.cell HGL.out.1 (fun e => e) _).trans (View.cellX HCL.out k x HX.out)
                                    have l_gl := Nat.lt_of_lt_of_le HGL.out.1 hst.out.keeps.size)
                                 | (at_builtin
                                    refine wpList_append_any kU rfl _ _ rfl ho4.out rfl rfl (HVB.out.keeps hkr.out (fun _ e => e)) m2 (by have h1 := HAB.out.2.1; have h2 := HAB.out.2.2; have h3 := HM.out; clear q_k1; simp; omega) (show m2 * 8 ≤ _ by have h3 := HM.out; clear q_k1; omega) hs4.out (by decide) ?_
                                    rintro _ W5 ho5 kA5 hg5 ⟨a5, c5, rfl⟩
                                    have hst5 := Lib.hid (hst.out.own ho4.out gB2.out kA5)
                                    have hB1_3_4_5 := Lib.hid (hB1_3_4.out.own ho4.out kA5 (own_ne_old ho4.out nB1B2.out))
                                    have hkr_5 := Lib.hid (hkr.out.transN kA5 (fun i hi e => Nat.le_trans ge_B2.out (ho4.out.block e).1))
                                    replace ho5 := Lib.hid ho5
                                    have hs5 := Lib.hid (Nat.le_trans hs4.out kA5.size)
                                    clear kA5 hg5
                                    clear hst; have hst := hst5; clear hst5
                                    clear hkr; have hkr := hkr_5; clear hkr_5
                                    have c_B1_0 := hB1_3_4_5.out.cell 0 _ rfl
                                    have f_B1_0 := hB1_3_4_5.out.frz 0
                                    have c_B1_1 := hB1_3_4_5.out.cell 1 _ rfl
                                    have f_B1_1 := hB1_3_4_5.out.frz 1
                                    have l_B1 := hB1_3_4_5.out.lt
                                    have e_x := (hst.out.keeps.cell HGL.out.1 (fun e => e) _).trans (View.cellX HCL.out k x HX.out)
                                    have l_gl := Nat.lt_of_lt_of_le HGL.out.1 hst.out.keeps.size))
              clear c_B1_0 f_B1_0 c_B1_1 f_B1_1 l_B1 e_x l_gl
              go_roundw
              case rel => exact ⟨⟨k1, m2, A0 ++ x :: B0, _, _, by clear q_k1; have := HK.out; omega, by clear q_k1; have := HK.out; have := HM.out; omega, rfl, by first | rfl | (rw [HK.out.1]; rfl) | (rw [HK.out.1]; simp), Lib.hid hst.out.keeps, Lib.hid (by have := ho5.out.view (S := (fun k => k < w.heap.size)) (fun g hg e => absurd e (Nat.not_lt.2 (Nat.le_trans gB_.out hg))); simpa using this), Lib.hid (by clear q_k1; have h1 := HM.out; have h2 := HO.out; have h3 := HAB.out.1; rw [h3] at h2; simp at h2 ⊢; omega), HS2⟩, hB1_3_4_5⟩
              case measure => first | (simp [intOf]; done) | (simp [intOf]; clear q_n q_k1; have := HK.out; omega) | (simp [intOf]; clear q_k1; have := HK.out; omega)
          · have e9 : at_ = 0 := by clear q_k1; omega
            have e8 : n = 0 := by clear q_k1; omega
            subst e9
            subst e8
            have hA9 : A0 = [] := List.eq_nil_of_length_eq_zero HAB.out.2.1
            have hB9 : B0 = [] := List.eq_nil_of_length_eq_zero (by rw [HAB.out.2.2, HM.out.2.1])
            have hO9 : O = [] := List.eq_nil_of_length_eq_zero HO.out.symm
            have HVF := Lib.hid (show View kU (fun k => wr.heap.size ≤ k) wr (.slice a 0 c) A0 by rw [hA9, ← hO9]; exact hshut)
            have HVF2 := Lib.hid (show View kU (fun k => wr.heap.size ≤ k) wr (.slice a 0 c) B0 by rw [hB9, ← hO9]; exact hshut)
            clear hA9 hB9 hO9 hshut hn0
            have hkr := Lib.hid (Keeps.refl (fun k => wr.heap.size ≤ k) wr)
            have c_B1_0 := hB1.out.cell 0 _ rfl
            have f_B1_0 := hB1.out.frz 0
            have c_B1_1 := hB1.out.cell 1 _ rfl
            have f_B1_1 := hB1.out.frz 1
            have l_B1 := hB1.out.lt
            have e_x := (hst.out.keeps.cell HGL.out.1 (fun e => e) _).trans (View.cellX HCL.out k x HX.out)
            have l_gl := Nat.lt_of_lt_of_le HGL.out.1 hst.out.keeps.size
            go_wp2_with (first | (at_builtin
                                  have szp := Lib.hid (show wr.heap.size ≤ wr.heap.size from hkr.out.size)
                                  obtain ⟨W2, hW2⟩ : ∃ W, W = wr.alloc (.cells #[] 25) := ⟨_, rfl⟩
                                  obtain ⟨B2, eB2⟩ : ∃ B, B = wr.heap.size := ⟨_, rfl⟩
                                  replace hW2 := Lib.hid hW2
                                  replace eB2 := Lib.hid eB2
                                  rw [← hW2.out]
                                  try rw [← eB2.out]
                                  have k2 : Keeps Nil wr W2 := by rw [hW2.out]; exact alloc_keeps _ _
                                  have e0B2 : B2 = wr.heap.size := by rw [eB2.out]
                                  have hB2 := Lib.hid (show Bx W2 Nil B2 #[] 25 by rw [hW2.out]; exact Bx.new Nil.lt _ _ e0B2)
                                  have gB2 := Lib.hid (show w.heap.size ≤ B2 by rw [e0B2]; exact hst.out.keeps.size)
                                  have nB1B2 := Lib.hid (show B1 < B2 by rw [e0B2]; exact hB1.out.lt)
                                  replace hst := Lib.hid (hst.out.nil k2)
                                  replace hkr := Lib.hid (hkr.out.trans' k2.of_nil)
                                  replace hB1 := Lib.hid (hB1.out.nil k2)
                                  clear k2 e0B2
                                  have hO3 := (show Own kU W2 B2 (.slice (some ⟨B2, 0, none⟩) 0 0) [] by rw [hW2.out, eB2.out]; exact Own.made kU _ _ (Nat.le_refl _))
                                  have hB3 := Nat.le_of_lt hB2.out.lt
                                  clear hB2
                                  have o_B2_B1 := nB1B2
                                  refine wpList_append_any kU rfl _ _ rfl hO3 rfl rfl (HVF.out.keeps hkr.out (fun _ e => e)) 0 (by rw [List.length_nil, Nat.zero_add]; exact HAB.out.2.1) (by decide) hB3 (by decide) ?_
                                  rintro _ W3 ho3 kA3 hg3 ⟨a3, c3, rfl⟩
                                  have hst3 := Lib.hid (hst.out.own hO3 gB2.out kA3)
                                  have hB1_3 := Lib.hid (hB1.out.own hO3 kA3 (own_ne_old hO3 nB1B2.out))
                                  have ge_B2 := Lib.hid (show wr.heap.size ≤ B2 by rw [eB2.out]; exact szp.out)
                                  have gB_ := gB2
                                  have hkr_3 := Lib.hid (hkr.out.transN kA3 (fun i hi e => Nat.le_trans ge_B2.out (hO3.block e).1))
                                  replace ho3 := Lib.hid ho3
                                  have hs3 := Lib.hid (Nat.le_trans hB3 kA3.size)
                                  clear kA3 hg3 hO3 hB3
                                  clear hst; have hst := hst3; clear hst3
                                  clear hkr; have hkr := hkr_3; clear hkr_3
                                  have c_B1_0 := hB1_3.out.cell 0 _ rfl
                                  have f_B1_0 := hB1_3.out.frz 0
                                  have c_B1_1 := hB1_3.out.cell 1 _ rfl
                                  have f_B1_1 := hB1_3.out.frz 1
                                  have l_B1 := hB1_3.out.lt
                                  have e_x := (hst.out.keeps.cell HGL.out.1 (fun e => e) _).trans (View.cellX HCL.out k x HX.out)
                                  have l_gl := Nat.lt_of_lt_of_le HGL.out.1 hst.out.keeps.size)
                               | (at_builtin
                                  refine wpList_append_one kU rfl _ _ rfl ho3.out rfl (x) _ rfl rfl hAl hs3.out ?_
                                  rintro _ W4 ho4 kA4 ⟨g4, cap4, rfl, hg4⟩
                                  have hst4 := Lib.hid (hst.out.own ho3.out gB2.out kA4)
                                  have hB1_3_4 := Lib.hid (hB1_3.out.own ho3.out kA4 (own_ne_old ho3.out o_B2_B1.out))
                                  have hkr_4 := Lib.hid (hkr.out.transN kA4 (fun i hi e => Nat.le_trans ge_B2.out (ho3.out.block e).1))
                                  replace ho4 := Lib.hid ho4
                                  have hs4 := Lib.hid (Nat.le_trans hs3.out kA4.size)
                                  clear kA4
                                  clear hst; have hst := hst4; clear hst4
                                  clear hkr; have hkr := hkr_4; clear hkr_4
                                  have c_B1_0 := hB1_3_4.out.cell 0 _ rfl
                                  have f_B1_0 := hB1_3_4.out.frz 0
                                  have c_B1_1 := hB1_3_4.out.cell 1 _ rfl
                                  have f_B1_1 := hB1_3_4.out.frz 1
                                  have l_B1 := hB1_3_4.out.lt
                                  have e_x := (hst.out.keeps.cell HGL.out.1 (fun e => e) _).trans (View.cellX HCL.out k x HX.out)
                                  have l_gl := Nat.lt_of_lt_of_le HGL.out.1 hst.out.keeps.size)
                               | (at_builtin
                                  refine wpList_append_any kU rfl _ _ rfl ho4.out rfl rfl (HVF2.out.keeps hkr.out (fun _ e => e)) m2 (by have h1 := HAB.out.2.1; have h2 := HAB.out.2.2; have h3 := HM.out; clear q_k1; simp; omega) (show m2 * 8 ≤ _ by have h3 := HM.out; clear q_k1; omega) hs4.out (by decide) ?_
                                  rintro _ W5 ho5 kA5 hg5 ⟨a5, c5, rfl⟩
                                  have hst5 := Lib.hid (hst.out.own ho4.out gB2.out kA5)
                                  have hB1_3_4_5 := Lib.hid (hB1_3_4.out.own ho4.out kA5 (own_ne_old ho4.out nB1B2.out))
                                  have hkr_5 := Lib.hid (hkr.out.transN kA5 (fun i hi e => Nat.le_trans ge_B2.out (ho4.out.block e).1))
                                  replace ho5 := Lib.hid ho5
                                  have hs5 := Lib.hid (Nat.le_trans hs4.out kA5.size)
                                  clear kA5 hg5
                                  clear hst; have hst := hst5; clear hst5
                                  clear hkr; have hkr := hkr_5; clear hkr_5
                                  have c_B1_0 := hB1_3_4_5.out.cell 0 _ rfl
                                  have f_B1_0 := hB1_3_4_5.out.frz 0
                                  have c_B1_1 := hB1_3_4_5.out.cell 1 _ rfl
                                  have f_B1_1 := hB1_3_4_5.out.frz 1
                                  have l_B1 := hB1_3_4_5.out.lt
                                  have e_x := (hst.out.keeps.cell HGL.out.1 (fun e => e) _).trans (View.cellX HCL.out k x HX.out)
                                  have l_gl := Nat.lt_of_lt_of_le HGL.out.1 hst.out.keeps.size))
            clear c_B1_0 f_B1_0 c_B1_1 f_B1_1 l_B1 e_x l_gl
            go_roundw
            case rel => exact ⟨⟨k1, m2, A0 ++ x :: B0, _, _, by clear q_k1; have := HK.out; omega, by clear q_k1; have := HK.out; have := HM.out; omega, rfl, by first | rfl | (rw [HK.out.1]; rfl) | (rw [HK.out.1]; simp), Lib.hid hst.out.keeps, Lib.hid (by have := ho5.out.view (S := (fun k => k < w.heap.size)) (fun g hg e => absurd e (Nat.not_lt.2 (Nat.le_trans gB_.out hg))); simpa using this), Lib.hid (by clear q_k1; have h1 := HM.out; have h2 := HO.out; have h3 := HAB.out.1; rw [h3] at h2; simp at h2 ⊢; omega), HS2⟩, hB1_3_4_5⟩
            case measure => first | (simp [intOf]; done) | (simp [intOf]; clear q_n q_k1; have := HK.out; omega) | (simp [intOf]; clear q_k1; have := HK.out; omega)
    · skip
      have c_B1_0 := hB1.out.cell 0 _ rfl
      have f_B1_0 := hB1.out.frz 0
      have c_B1_1 := hB1.out.cell 1 _ rfl
      have f_B1_1 := hB1.out.frz 1
      have l_B1 := hB1.out.lt
      go_wp2_with fail
      go_ret
      clear c_B1_0 f_B1_0 c_B1_1 f_B1_1 l_B1
      have hkN : k = N := by omega
      have hfin : sortF (cmpF f) l = O := sortF_eq HN.out.2 HS.out.1 (fun x => by have h9 := HS.out.2.mem_iff (a := x); rw [hkN, HN.out.1, List.take_length] at h9; exact h9)
      exact ⟨_, rfl, by rw [hfin]; exact hvo.out, hst.out.keeps⟩
end Go.Proofs.YtefpbljekfkefaaGreat
