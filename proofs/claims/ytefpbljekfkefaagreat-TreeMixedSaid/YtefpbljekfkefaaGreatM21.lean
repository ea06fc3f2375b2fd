/- TreeL, TreeB, TreeC, SeqL: merged. -/
import Derived.Test.YtefpbljekfkefaaGreatM20
import Derived.Test.YtefpbljekfkefaaGreatM12
/- Lists of offsets: slices.MaxFunc by ranks, slices.Index. -/
namespace Go.Proofs.YtefpbljekfkefaaGreat
open Go.RowKit PT

theorem View.cellX {w : World} {b off : Nat} {l : List UInt64} (h : ∀ i j, j < kU.size → i < l.length → w.cell? ⟨b, off + (i * kU.size + j), none⟩ = (l[i]?).bind (fun x => (kU.enc x)[j]?)) (i : Nat) (x : UInt64) (hx : l[i]? = some x) : w.cell? ⟨b, off + i, none⟩ = some (.int .u64 (x.toNat : Int)) := by
  have hi : i < l.length := (List.getElem?_eq_some_iff.1 hx).1
  rw [View.cellU h i hi, hx]; rfl

set_option maxRecDepth 100000 in
set_option maxHeartbeats 4000000 in
theorem built1_any (w : World) (a b : UInt64) : Calls Tryz.prog 156 #[.int .u64 (a.toNat : Int), .int .u64 (b.toNat : Int)] w fun e w' => e = .returned (.int .i64 (cmp1 (mixU a) (mixU b))) ∧ Keeps Nil w w' := by
  have hst := Lib.hid (Step.refl Nil w)
  go_enter Tryz.func156, Tryz.ntmps156
  go_wp2_with fail
  refine (wMix_any _ a _ rfl).mono ?_
  rintro _ _ ⟨rfl, rfl⟩
  obtain ⟨v1, zv1⟩ : ∃ v : UInt64, v = a * goldU := ⟨_, rfl⟩
  rw [← zv1]
  replace zv1 := Lib.hid zv1
  go_wp2_with fail
  refine (wMix_any _ b _ rfl).mono ?_
  rintro _ _ ⟨rfl, rfl⟩
  obtain ⟨v2, zv2⟩ : ∃ v : UInt64, v = b * goldU := ⟨_, rfl⟩
  rw [← zv2]
  replace zv2 := Lib.hid zv2
  go_wp2_with fail
  refine (Compare_any _ v1 v2).mono ?_
  rintro _ _ ⟨rfl, rfl⟩
  go_wp2_with fail
  go_ret
  exact ⟨by rw [zv1.out, zv2.out]; rfl, hst.out.keeps⟩
set_option maxRecDepth 100000 in
set_option maxHeartbeats 4000000 in
theorem MaxFunc_any {S : Nat → Prop} {w : World} {v : Value} {l : List UInt64} (h : View kU S w v l) (hn : 0 < l.length) :
    Calls Tryz.prog 155 #[v, .func (.func 156) #[] #[]] w fun e w' => ∃ m : UInt64, e = .returned (.int .u64 (m.toNat : Int)) ∧ m ∈ l ∧ (∀ y ∈ l, mixU y ≤ mixU m) ∧ Keeps Nil w w' := by
  obtain ⟨gb, go, cap, rfl, hc, hm, hb, _, hcell⟩ := h.pos hn
  obtain ⟨N, hN⟩ : ∃ N, N = l.length := ⟨_, rfl⟩
  have hNm : N ≤ 9223372036854775807 := by unfold maxLen at hm; omega
  have hN1 : 1 ≤ N := by omega
  rw [← hN]
  have HC := Lib.hid hcell
  have HGB := Lib.hid hb
  have HL := Lib.hid hN
  clear hcell hc hm hn h hN hb
  obtain ⟨x0, hx0⟩ : ∃ x, l[0]? = some x := ⟨l[0]'(by have := HL.out; omega), by have := HL.out; simp⟩
  have HX0 := Lib.hid hx0
  clear hx0
  have hst := Lib.hid (Step.refl Nil w)
  go_enter Tryz.func155, Tryz.ntmps155
  have e_0 : w.cell? ⟨gb, go, none⟩ = some (.int .u64 (x0.toNat : Int)) := by simpa using (hst.out.keeps.cell HGB.out (fun e => e) _).trans (View.cellX HC.out 0 _ HX0.out)
  go_wp2_with fail
  clear e_0
  go_wp2_with fail
  go_loopw [5, 6] (fun best i wr => ∃ (k : Nat) (m : UInt64), 1 ≤ k ∧ k ≤ N ∧ best = .int .u64 (m.toNat : Int) ∧ i = .int .i64 (k : Int) ∧ Hid (Keeps Nil w wr) ∧ Hid (m ∈ l ∧ ∀ j y, j < k → l[j]? = some y → mixU y ≤ mixU m)) (fun best i _ => N - (intOf i).toNat)
  case atStart => exact ⟨1, x0, by omega, hN1, rfl, rfl, Lib.hid hst.out.keeps, Lib.hid ⟨List.mem_of_getElem? HX0.out, fun j y hj hy => by
      obtain rfl : j = 0 := by omega
      rw [HX0.out] at hy; cases hy; exact UInt64.le_refl _⟩⟩
  case round =>
    obtain ⟨k, m, hk1, hk, rfl, rfl, hK0, HS⟩ := hrel
    replace hst := Lib.hid (Step.of_nil (S := Nil) hK0.out)
    clear hK0
    by_cases hlt : k < N
    · obtain ⟨x, hx⟩ : ∃ x, l[k]? = some x := ⟨l[k]'(by have := HL.out; omega), by have := HL.out; simp⟩
      have HX := Lib.hid hx
      clear hx
      obtain ⟨c, hcm⟩ : ∃ c, c = cmp1 (mixU x) (mixU m) := ⟨_, rfl⟩
      have HCM := Lib.hid hcm.symm
      by_cases hgt : (mixU m).toNat < (mixU x).toNat
      · have HGT := Lib.hid hgt
        have hd : decide (0 < c) = true := by rw [hcm]; unfold cmp1; rw [if_neg (by omega), if_pos hgt]; rfl
        clear hgt hcm
        have e_k := (hst.out.keeps.cell HGB.out (fun e => e) _).trans (View.cellX HC.out k _ HX.out)
        go_wp2_with fail
        clear e_k
        refine (built1_any _ x m).mono ?_
        rintro _ W1 ⟨rfl, kn⟩
        rw [HCM.out]
        replace hst := Lib.hid (hst.out.nil kn)
        clear kn
        have e_k := (hst.out.keeps.cell HGB.out (fun e => e) _).trans (View.cellX HC.out k _ HX.out)
        go_wp2_with fail
        clear e_k
        go_roundw
        case rel => exact ⟨k + 1, x, by omega, by omega, rfl, by go_num, Lib.hid hst.out.keeps, Lib.hid ⟨List.mem_of_getElem? HX.out, fun j y hj hy => by
          by_cases e : j = k
          · subst e; rw [HX.out] at hy; cases hy; exact UInt64.le_refl _
          · exact UInt64.le_trans (HS.out.2 j y (by omega) hy) (UInt64.le_of_lt (UInt64.lt_iff_toNat_lt.2 HGT.out))⟩⟩
        case measure => simp [intOf]; omega
      · have HGT := Lib.hid hgt
        have hd : decide (0 < c) = false := by
              rw [hcm]; unfold cmp1
              by_cases h9 : (mixU x).toNat < (mixU m).toNat
              · rw [if_pos h9]; rfl
              · rw [if_neg h9, if_neg hgt]; rfl
        clear hgt hcm
        have e_k := (hst.out.keeps.cell HGB.out (fun e => e) _).trans (View.cellX HC.out k _ HX.out)
        go_wp2_with fail
        clear e_k
        refine (built1_any _ x m).mono ?_
        rintro _ W1 ⟨rfl, kn⟩
        rw [HCM.out]
        replace hst := Lib.hid (hst.out.nil kn)
        clear kn
        have e_k := (hst.out.keeps.cell HGB.out (fun e => e) _).trans (View.cellX HC.out k _ HX.out)
        go_wp2_with fail
        clear e_k
        go_roundw
        case rel => exact ⟨k + 1, m, by omega, by omega, rfl, by go_num, Lib.hid hst.out.keeps, Lib.hid ⟨HS.out.1, fun j y hj hy => by
          by_cases e : j = k
          · subst e; rw [HX.out] at hy; cases hy; exact UInt64.le_iff_toNat_le.2 (Nat.not_lt.1 HGT.out)
          · exact HS.out.2 j y (by omega) hy⟩⟩
        case measure => simp [intOf]; omega
    · skip
      go_wp2_with fail
      go_ret
      refine ⟨m, rfl, HS.out.1, fun y hy => ?_, hst.out.keeps⟩
      obtain ⟨j, hj, e⟩ := List.getElem_of_mem hy
      exact HS.out.2 j y (by have := HL.out; omega) (by rw [← e]; exact List.getElem?_eq_getElem hj)
set_option maxRecDepth 100000 in
set_option maxHeartbeats 4000000 in
theorem IndexU_any {S : Nat → Prop} {w : World} {v : Value} {l A B : List UInt64} {x : UInt64} (h : View kU S w v l) (hl : l = A ++ x :: B) (hx : x ∉ A) :
    Calls Tryz.prog 158 #[v, .int .u64 (x.toNat : Int)] w fun e w' => e = .returned (.int .i64 (A.length : Int)) ∧ Keeps Nil w w' := by
  have hn : 0 < l.length := by rw [hl]; simp; omega
  have hxA : l[A.length]? = some x := by rw [hl]; simp
  have hAl : A.length < l.length := by rw [hl]; simp
  have hne : ∀ j y, j < A.length → l[j]? = some y → y ≠ x := fun j y hj hy e => by
    rw [hl, List.getElem?_append_left hj] at hy
    exact hx (by rw [← e]; exact List.mem_of_getElem? hy)
  obtain ⟨a, ha⟩ : ∃ a, a = A.length := ⟨_, rfl⟩
  rw [← ha] at hxA hAl hne ⊢
  have HXA := Lib.hid (And.intro hxA hne)
  clear hl hx hxA hne ha
  obtain ⟨gb, go, cap, rfl, hc, hm, hb, _, hcell⟩ := h.pos hn
  obtain ⟨N, hN⟩ : ∃ N, N = l.length := ⟨_, rfl⟩
  have hNm : N ≤ 9223372036854775807 := by unfold maxLen at hm; omega
  have hN1 : 1 ≤ N := by omega
  rw [← hN]
  have HC := Lib.hid hcell
  have HGB := Lib.hid hb
  have HL := Lib.hid hN
  clear hcell hc hm hn h hN hb
  have haN : a < N := by have := HL.out; omega
  clear hAl
  have hst := Lib.hid (Step.refl Nil w)
  go_enter Tryz.func158, Tryz.ntmps158
  go_wp2_with fail
  go_loopw [5, 8] (fun z i wr => ∃ k : Nat, k ≤ a ∧ i = .int .i64 (k : Int) ∧ Hid (Keeps Nil w wr)) (fun z i _ => N - (intOf i).toNat)
  case atStart => exact ⟨0, by omega, rfl, Lib.hid hst.out.keeps⟩
  case round =>
    obtain ⟨k, hk, rfl, hK0⟩ := hrel
    replace hst := Lib.hid (Step.of_nil (S := Nil) hK0.out)
    clear hK0
    obtain ⟨y, hy⟩ : ∃ y, l[k]? = some y := ⟨l[k]'(by have := HL.out; omega), by have := HL.out; simp⟩
    have HX := Lib.hid hy
    have hkN : k < N := by omega
    clear hy
    by_cases hka : k = a
    · have HE := Lib.hid (show y = x by have h1 := HX.out; have h2 := HXA.out.1; rw [hka, h2] at h1; exact (Option.some.inj h1).symm)
      have HKA := Lib.hid hka
      clear hka
      have d1 : (((x.toNat : Int) : Int) == ((y.toNat : Int) : Int)) = true := (same_u64 (a := x) (b := y) (HE.out.symm)).2
      have e_k := (hst.out.keeps.cell HGB.out (fun e => e) _).trans (View.cellX HC.out k _ HX.out)
      go_wp2_with fail
      go_ret
      clear e_k
      exact ⟨by rw [HKA.out]; rfl, hst.out.keeps⟩
    · have hka2 : k < a := by omega
      have HE := Lib.hid (HXA.out.2 k y hka2 HX.out)
      clear hka
      have d1 : (((x.toNat : Int) : Int) == ((y.toNat : Int) : Int)) = false := (unlike_u64 (a := x) (b := y) (fun e => HE.out e.symm)).2
      have e_k := (hst.out.keeps.cell HGB.out (fun e => e) _).trans (View.cellX HC.out k _ HX.out)
      go_wp2_with fail
      clear e_k
      go_roundw
      case rel => exact ⟨k + 1, by omega, by go_num, Lib.hid hst.out.keeps⟩
      case measure => simp [intOf]; omega
end Go.Proofs.YtefpbljekfkefaaGreat

/- Package tree: built. -/
namespace Go.Proofs.YtefpbljekfkefaaGreat
open Go.RowKit PT

/-- the words of a tree's sons, in the turn in which they are told -/
def putsT : Tr → List Put
  | .nil => []
  | .node l x r => putsT l ++ (x + 8, l.root) :: (putsT r ++ [(x + 16, r.root)])
theorem View.front {S : Nat → Prop} {w : World} {b off n c m : Nat} {l A B : List UInt64} (h : View kU S w (.slice (some ⟨b, off, none⟩) n c) l) (hl : l = A ++ B) (hm : m = A.length) : View kU S w (.slice (some ⟨b, off, none⟩) m c) A := by
  obtain ⟨_, h1, h2, h3, h4, h5⟩ := h.at
  have hle : A.length ≤ l.length := by rw [hl]; simp
  refine .inr ⟨b, off, c, by rw [hm], by omega, h2, h3, h4, fun i j hj hi => ?_⟩
  rw [h5 i j hj (by omega), hl, List.getElem?_append_left hi]
theorem View.back {S : Nat → Prop} {w : World} {b off n c k m : Nat} {l A B : List UInt64} (h : View kU S w (.slice (some ⟨b, off, none⟩) n c) l) (hl : l = A ++ B) (hk : k = A.length) (hm : m = B.length) : View kU S w (.slice (some ⟨b, off + k, none⟩) m (c - k)) B := by
  obtain ⟨_, h1, h2, h3, h4, h5⟩ := h.at
  have hle : l.length = A.length + B.length := by rw [hl]; simp
  refine .inr ⟨b, off + k, c - k, by rw [hm], by omega, by omega, h3, h4, fun i j hj hi => ?_⟩
  have hs : kU.size = 1 := rfl
  have := h5 (i + k) j hj (by omega)
  rw [hs] at this ⊢
  rw [show off + k + (i * 1 + j) = off + ((i + k) * 1 + j) by omega, this, hl, hk, List.getElem?_append_right (by omega), Nat.add_sub_cancel]
theorem View.none {S : Nat → Prop} {w : World} {b off n c m c' : Nat} {l B : List UInt64} (h : View kU S w (.slice (some ⟨b, off, none⟩) n c) l) (hm : m = 0 ∧ B.length = 0) (hc : c' ≤ c) : View kU S w (.slice (some ⟨b, off, none⟩) m c') B := by
  obtain ⟨_, h1, h2, h3, h4, h5⟩ := h.at
  exact .inr ⟨b, off, c', by rw [hm.1, hm.2], by omega, by omega, h3, h4, fun i j _ hi => by omega⟩
theorem back_cap {cap a1 n a b m : Nat} (hca : cap = a1) (hc : n ≤ cap) (hm : m = n - a1) (hn : n = a + 1 + b) (h1 : a1 = a + 1) : m = 0 ∧ b = 0 := by omega
theorem back_len {n a b m a1 : Nat} (hl : n = a + 1 + b) (hm : m = n - a1) (h1 : a1 = a + 1) : m = b := by omega
theorem back_at {a1 a : Nat} {A : List UInt64} {x : UInt64} (ha : a = A.length) (h1 : a1 = a + 1) : a1 = (A ++ [x]).length := by simp; omega
theorem back_list (A B : List UInt64) (x : UInt64) : A ++ x :: B = A ++ [x] ++ B := by simp
theorem heap_top {l r : Tr} {x m : UInt64} (h : (Tr.node l x r).Heap mixU) (hm : m ∈ (Tr.node l x r).list) (hx : ∀ y ∈ (Tr.node l x r).list, mixU y ≤ mixU m) : m = x ∧ x ∉ l.list := by
  obtain ⟨h1, _⟩ := h
  refine ⟨?_, fun hxl => UInt64.lt_irrefl _ (h1 x (.inl hxl))⟩
  have h2 := hx x (by simp [Tr.list])
  simp only [Tr.list, List.mem_append, List.mem_cons] at hm
  rcases hm with hm | rfl | hm
  · exact absurd (UInt64.lt_of_le_of_lt h2 (h1 m (.inl hm))) (UInt64.lt_irrefl _)
  · rfl
  · exact absurd (UInt64.lt_of_le_of_lt h2 (h1 m (.inr hm))) (UInt64.lt_irrefl _)

set_option maxRecDepth 100000 in
set_option maxHeartbeats 4000000 in
theorem built_nil {J : World → List Put → Prop} {g : Nat} {la lb : Array Value} {al : Option Addr} {cl : Nat} {W : World} {ps : List Put} (hJ : J W ps) :
    Calls Tryz.prog 104 #[.slice al 0 cl, .func (.func g) la lb] W fun e W' => e = .returned (.int .u64 ((Tr.nil).root.toNat : Int)) ∧ J W' (ps ++ putsT .nil) := by
    rw [show (Tr.nil).root = 0 from rfl]
    have HJ := Lib.hid hJ
    clear hJ
    go_enter Tryz.func104, Tryz.ntmps104
    go_wp2_with fail
    go_ret
    exact ⟨rfl, by simpa [putsT] using HJ.out⟩
set_option maxRecDepth 100000 in
set_option maxHeartbeats 4000000 in
theorem built_node {P : Nat → Prop} {J : World → List Put → Prop} {w0 : World} {g : Nat} {la lb : Array Value}
    (eg : ∀ args w, (callFunc g args).run Tryz.prog w = .ok (.enter g args) w)
    (hK : ∀ W ps, J W ps → Keeps P w0 W) (hN : ∀ W W' ps, J W ps → Keeps Nil W W' → J W' ps)
    (hp : ∀ W ps (x y : UInt64), J W ps → Calls Tryz.prog g (la ++ (#[.int .u64 (x.toNat : Int), .int .u64 (y.toNat : Int)] ++ lb)) W fun e W' => e = .returned (.tuple #[]) ∧ J W' (ps ++ [(x, y)]))
    {l r : Tr} {x : UInt64} (ihl : ∀ {v : Value}, View kU P w0 v l.list → ∀ W ps, J W ps → Calls Tryz.prog 104 #[v, .func (.func g) la lb] W fun e W' => e = .returned (.int .u64 (l.root.toNat : Int)) ∧ J W' (ps ++ putsT l))
    (ihr : ∀ {v : Value}, View kU P w0 v r.list → ∀ W ps, J W ps → Calls Tryz.prog 104 #[v, .func (.func g) la lb] W fun e W' => e = .returned (.int .u64 (r.root.toNat : Int)) ∧ J W' (ps ++ putsT r))
    {v : Value} (h : View kU P w0 v (Tr.node l x r).list) (hh : (Tr.node l x r).Heap mixU) {W : World} {ps : List Put} (hJ : J W ps) :
    Calls Tryz.prog 104 #[v, .func (.func g) la lb] W fun e W' => e = .returned (.int .u64 ((Tr.node l x r).root.toNat : Int)) ∧ J W' (ps ++ putsT (Tr.node l x r)) := by
    rw [show (Tr.node l x r).root = x from rfl]
    have hlen : (Tr.node l x r).list.length = l.list.length + 1 + r.list.length := by simp [Tr.list]; omega
    obtain ⟨gb, go, cap, rfl, hc, hm, hb, _, _⟩ := h.pos (by omega)
    obtain ⟨N, hN'⟩ : ∃ N, N = (Tr.node l x r).list.length := ⟨_, rfl⟩
    obtain ⟨a, ha⟩ : ∃ a, a = l.list.length := ⟨_, rfl⟩
    obtain ⟨a1, ha1⟩ : ∃ a1, a1 = a + 1 := ⟨_, rfl⟩
    obtain ⟨m, hm'⟩ : ∃ m, m = N - a1 := ⟨_, rfl⟩
    obtain ⟨c1, hc1⟩ : ∃ c1, c1 = cap - a1 := ⟨_, rfl⟩
    rw [← hN'] at h hc ⊢
    have hNm : N ≤ 9223372036854775807 := by unfold maxLen at hm; omega
    have haN : a ≤ N := by omega
    have ha1N : a1 ≤ N := by omega
    have hacap : a ≤ cap := by omega
    have ha1cap : a1 ≤ cap := by omega
    have hnz : ((N : Int) == 0) = false := by simp; omega
    have hnz2 : (N = 0) = False := by simp; omega
    have q_a : wrap64 ((a : Int) + 1) = (a1 : Int) := by rw [ha1]; exact IntWalk.wrap64_in _ (by omega)
    have q_a2 : IntKind.i64.wrap ((a : Int) + 1) = (a1 : Int) := by rw [IntWalk.i64_left]; exact q_a
    have HV := Lib.hid h
    have HVl := Lib.hid (h.front (A := l.list) (B := x :: r.list) rfl ha)
    have hvr0 := (show View kU P w0 (.slice (some ⟨gb, go + a1, none⟩) m c1) r.list by rw [hc1]; exact h.back (back_list l.list r.list x) (back_at ha ha1) (back_len (hN'.trans (by rw [hlen, ha])) hm' ha1))
    have hvr1 : cap = a1 → View kU P w0 (.slice (some ⟨gb, go, none⟩) m c1) r.list := fun hca => h.none (back_cap hca hc hm' (hN'.trans (by rw [hlen, ha])) ha1) (by rw [hc1]; exact Nat.sub_le _ _)
    have HH := Lib.hid hh
    have HA := Lib.hid ha
    have HL := Lib.hid (And.intro hlen hN')
    have HJ := Lib.hid hJ
    have HK := Lib.hid hK
    have HNN := Lib.hid hN
    have HP := Lib.hid hp
    have IHL := Lib.hid (ihl HVl.out)
    have HC1 := Lib.hid hc1
    have q_m := hm'.symm
    have q_c := hc1.symm
    clear hK hN hp h hJ hh ha hlen hN' hc hm ihl hb hm' ha1 hc1
    by_cases hca : cap = a1
    · have IHR := Lib.hid (ihr (hvr1 hca))
      have q_e : (cap = a1) = True := eq_true hca
      clear hca ihr hvr0 hvr1
      go_enter Tryz.func104, Tryz.ntmps104
      go_wp2_with fail
      refine (MaxFunc_any (HV.out.keeps (HK.out _ _ HJ.out) (fun _ e => e)) (by have := HL.out.1; omega)).mono ?_
      rintro _ W1 ⟨m9, rfl, hm1, hm2, kn⟩
      obtain ⟨rfl, _⟩ := heap_top HH.out hm1 hm2
      clear hm1 hm2
      replace HJ := Lib.hid (HNN.out _ _ _ HJ.out kn)
      clear kn
      go_wp2_with fail
      refine (IndexU_any (A := l.list) (B := r.list) (HV.out.keeps (HK.out _ _ HJ.out) (fun _ e => e)) rfl (fun hxl => UInt64.lt_irrefl _ (HH.out.1 _ (.inl hxl)))).mono ?_
      rintro _ W2 ⟨rfl, kn⟩
      rw [← HA.out]
      replace HJ := Lib.hid (HNN.out _ _ _ HJ.out kn)
      clear kn
      obtain ⟨y1, zy1⟩ : ∃ y : UInt64, y = m9 + 8 := ⟨_, rfl⟩
      have q1 : IntKind.u64.wrap ((m9.toNat : Int) + 8) = (y1.toNat : Int) := by rw [zy1]; exact u64_add m9 8
      replace zy1 := Lib.hid zy1
      go_wp2_with fail
      refine (IHL.out _ _ HJ.out).mono ?_
      rintro _ W3 ⟨rfl, hJ⟩
      replace HJ := Lib.hid hJ
      clear hJ
      go_wp2_with fail
      refine (HP.out _ _ y1 (l.root) HJ.out).mono ?_
      rintro _ W4 ⟨rfl, hJ⟩
      replace HJ := Lib.hid hJ
      clear hJ
      obtain ⟨y2, zy2⟩ : ∃ y : UInt64, y = m9 + 16 := ⟨_, rfl⟩
      have q2 : IntKind.u64.wrap ((m9.toNat : Int) + 16) = (y2.toNat : Int) := by rw [zy2]; exact u64_add m9 16
      replace zy2 := Lib.hid zy2
      go_wp2_with fail
      refine (IHR.out _ _ HJ.out).mono ?_
      rintro _ W5 ⟨rfl, hJ⟩
      replace HJ := Lib.hid hJ
      clear hJ
      go_wp2_with fail
      refine (HP.out _ _ y2 (r.root) HJ.out).mono ?_
      rintro _ W6 ⟨rfl, hJ⟩
      replace HJ := Lib.hid hJ
      clear hJ
      go_wp2_with fail
      go_ret
      exact ⟨rfl, by have := HJ.out; rw [zy1.out, zy2.out] at this; simpa [putsT, List.append_assoc] using this⟩
    · have IHR := Lib.hid (ihr (hvr0))
      have q_e : (cap = a1) = False := eq_false hca
      clear hca ihr hvr0 hvr1
      go_enter Tryz.func104, Tryz.ntmps104
      go_wp2_with fail
      refine (MaxFunc_any (HV.out.keeps (HK.out _ _ HJ.out) (fun _ e => e)) (by have := HL.out.1; omega)).mono ?_
      rintro _ W1 ⟨m9, rfl, hm1, hm2, kn⟩
      obtain ⟨rfl, _⟩ := heap_top HH.out hm1 hm2
      clear hm1 hm2
      replace HJ := Lib.hid (HNN.out _ _ _ HJ.out kn)
      clear kn
      go_wp2_with fail
      refine (IndexU_any (A := l.list) (B := r.list) (HV.out.keeps (HK.out _ _ HJ.out) (fun _ e => e)) rfl (fun hxl => UInt64.lt_irrefl _ (HH.out.1 _ (.inl hxl)))).mono ?_
      rintro _ W2 ⟨rfl, kn⟩
      rw [← HA.out]
      replace HJ := Lib.hid (HNN.out _ _ _ HJ.out kn)
      clear kn
      obtain ⟨y1, zy1⟩ : ∃ y : UInt64, y = m9 + 8 := ⟨_, rfl⟩
      have q1 : IntKind.u64.wrap ((m9.toNat : Int) + 8) = (y1.toNat : Int) := by rw [zy1]; exact u64_add m9 8
      replace zy1 := Lib.hid zy1
      go_wp2_with fail
      refine (IHL.out _ _ HJ.out).mono ?_
      rintro _ W3 ⟨rfl, hJ⟩
      replace HJ := Lib.hid hJ
      clear hJ
      go_wp2_with fail
      refine (HP.out _ _ y1 (l.root) HJ.out).mono ?_
      rintro _ W4 ⟨rfl, hJ⟩
      replace HJ := Lib.hid hJ
      clear hJ
      obtain ⟨y2, zy2⟩ : ∃ y : UInt64, y = m9 + 16 := ⟨_, rfl⟩
      have q2 : IntKind.u64.wrap ((m9.toNat : Int) + 16) = (y2.toNat : Int) := by rw [zy2]; exact u64_add m9 16
      replace zy2 := Lib.hid zy2
      go_wp2_with fail
      refine (IHR.out _ _ HJ.out).mono ?_
      rintro _ W5 ⟨rfl, hJ⟩
      replace HJ := Lib.hid hJ
      clear hJ
      go_wp2_with fail
      refine (HP.out _ _ y2 (r.root) HJ.out).mono ?_
      rintro _ W6 ⟨rfl, hJ⟩
      replace HJ := Lib.hid hJ
      clear hJ
      go_wp2_with fail
      go_ret
      exact ⟨rfl, by have := HJ.out; rw [zy1.out, zy2.out] at this; simpa [putsT, List.append_assoc] using this⟩
theorem built_any {P : Nat → Prop} {J : World → List Put → Prop} {w0 : World} {g : Nat} {la lb : Array Value}
    (eg : ∀ args w, (callFunc g args).run Tryz.prog w = .ok (.enter g args) w)
    (hK : ∀ W ps, J W ps → Keeps P w0 W) (hN : ∀ W W' ps, J W ps → Keeps Nil W W' → J W' ps)
    (hp : ∀ W ps (x y : UInt64), J W ps → Calls Tryz.prog g (la ++ (#[.int .u64 (x.toNat : Int), .int .u64 (y.toNat : Int)] ++ lb)) W fun e W' => e = .returned (.tuple #[]) ∧ J W' (ps ++ [(x, y)])) :
    ∀ {t : Tr} {v : Value}, View kU P w0 v t.list → t.Heap mixU → ∀ W ps, J W ps →
      Calls Tryz.prog 104 #[v, .func (.func g) la lb] W fun e W' => e = .returned (.int .u64 (t.root.toNat : Int)) ∧ J W' (ps ++ putsT t) := by
  intro t
  induction t with
  | nil =>
    intro v h _ W ps hJ
    obtain ⟨al, cl, rfl, _⟩ := h.val
    exact built_nil hJ
  | node l x r ihl ihr =>
    intro v h hh W ps hJ
    exact built_node eg hK hN hp (fun hv => ihl hv hh.2.1) (fun hv => ihr hv hh.2.2) h hh hJ
end Go.Proofs.YtefpbljekfkefaaGreat

/- Package tree: the closure of Check. -/
namespace Go.Proofs.YtefpbljekfkefaaGreat
open Go.RowKit PT

/-- are all these words as told? -/
def allP (f : UInt64 → UInt64) (ps : List Put) : Bool := ps.all (fun p => f p.1 == p.2)
theorem allP_add (f : UInt64 → UInt64) (ps : List Put) (x y : UInt64) : allP f (ps ++ [(x, y)]) = (allP f ps && f x == y) := by simp [allP]
/-- Check's closure has been told some words -/
def ToldC (w0 : World) (t Bs Bt n : Nat) (f : UInt64 → UInt64) (S : Nat → Prop) (W : World) (ps : List Put) : Prop :=
  Bx W S Bs #[.bool (allP f ps)] 4 ∧ Bx W S Bt #[.pointer (some ⟨t, 0, none⟩)] 24 ∧ TxF W t f n S ∧ Keeps (fun k => k = Bs) w0 W
theorem ToldC.nil {w0 W W' : World} {t Bs Bt n : Nat} {f : UInt64 → UInt64} {S : Nat → Prop} {ps : List Put} (h : ToldC w0 t Bs Bt n f S W ps) (k : Keeps Nil W W') : ToldC w0 t Bs Bt n f S W' ps :=
  ⟨h.1.nil k, h.2.1.nil k, h.2.2.1.nil k, h.2.2.2.trans' (k.mono (fun _ _ e => e.elim))⟩

set_option maxRecDepth 100000 in
set_option maxHeartbeats 4000000 in
theorem check1_any {w0 wb : World} {t Bs Bt n : Nat} {f : UInt64 → UInt64} {S : Nat → Prop} {ps : List Put} (hne : Bt < Bs) (off v : UInt64) (h : ToldC w0 t Bs Bt n f S wb ps) :
    Calls Tryz.prog 106 #[.int .u64 (off.toNat : Int), .int .u64 (v.toNat : Int), .pointer (some ⟨Bs, 0, none⟩), .pointer (some ⟨Bt, 0, none⟩)] wb fun e W' => e = .returned (.tuple #[]) ∧ ToldC w0 t Bs Bt n f S W' (ps ++ [(off, v)]) := by
  obtain ⟨h1, h2, h3, h4⟩ := h
  have hBt := Lib.hid h2
  have hT := Lib.hid h3
  have hKB := Lib.hid h4
  have nBtBs := Lib.hid hne
  cases hb : allP f ps with
  | false =>
    have HA := Lib.hid (show allP f (ps ++ [(off, v)]) = false by rw [allP_add, hb]; rfl)
    rw [hb] at h1
    have hBs := Lib.hid h1
    clear h1 h2 h3 h4 hne hb
    go_enter Tryz.func106, Tryz.ntmps106
    have c_Bt_0 := hBt.out.cell 0 _ rfl
    have f_Bt_0 := hBt.out.frz 0
    have l_Bt := hBt.out.lt
    have c_Bs_0 := hBs.out.cell 0 _ rfl
    have f_Bs_0 := hBs.out.frz 0
    have l_Bs := hBs.out.lt
    have ne_Bt_Bs : (Bt = Bs) = False := eq_false (Nat.ne_of_lt nBtBs.out)
    have ne_Bs_Bt : (Bs = Bt) = False := eq_false (Ne.symm (Nat.ne_of_lt nBtBs.out))
    obtain ⟨W1, hW1⟩ : ∃ W, W = (wb.setCell ⟨Bs, 0, none⟩ (.bool false)) := ⟨_, rfl⟩
    replace hW1 := Lib.hid hW1
    go_wp2_with fail
    go_end0
    clear c_Bt_0 f_Bt_0 l_Bt c_Bs_0 f_Bs_0 l_Bs ne_Bt_Bs ne_Bs_Bt
    rw [← hW1.out]
    replace hKB := Lib.hid (hKB.out.trans' (show Keeps (fun i => i = Bs) wb W1 by rw [hW1.out]; exact keeps_setCell wb ⟨Bs, 0, none⟩ _))
    replace hT := Lib.hid (show TxF W1 t f n S by rw [hW1.out]; exact (hT.out.set hBs.out.2 _ _))
    replace hBt := Lib.hid (show Bx W1 S Bt #[.pointer (some ⟨t, 0, none⟩)] 24 by rw [hW1.out]; exact (hBt.out.other (Nat.ne_of_lt nBtBs.out) _ _))
    replace hBs := Lib.hid (show Bx W1 S Bs #[.bool false] 4 by rw [hW1.out]; exact (hBs.out.set _ _))
    refine ⟨rfl, ?_, hBt.out, hT.out, hKB.out⟩
    rw [HA.out]
    exact hBs.out
  | true =>
    by_cases hq : f off = v
    · have HQ := Lib.hid hq
      have HA := Lib.hid (show allP f (ps ++ [(off, v)]) = true by rw [allP_add, hb, hq]; simp)
      rw [hb] at h1
      have hBs := Lib.hid h1
      clear h1 h2 h3 h4 hne hb hq
      go_enter Tryz.func106, Tryz.ntmps106
      have c_Bt_0 := hBt.out.cell 0 _ rfl
      have f_Bt_0 := hBt.out.frz 0
      have l_Bt := hBt.out.lt
      have c_Bs_0 := hBs.out.cell 0 _ rfl
      have f_Bs_0 := hBs.out.frz 0
      have l_Bs := hBs.out.lt
      go_wp2_with fail
      clear c_Bt_0 f_Bt_0 l_Bt c_Bs_0 f_Bs_0 l_Bs
      refine (hT.out.reads.loadC off _ rfl).mono ?_
      rintro _ W1 ⟨rfl, kn⟩
      replace hKB := Lib.hid (hKB.out.trans' (kn.mono (fun _ _ e => e.elim)))
      replace hT := Lib.hid (hT.out.nil kn)
      replace hBt := Lib.hid (hBt.out.nil kn)
      replace hBs := Lib.hid (hBs.out.nil kn)
      clear kn
      have d1 : ((((f off).toNat : Int) : Int) == ((v.toNat : Int) : Int)) = true := (same_u64 (a := (f off)) (b := v) (HQ.out)).2
      have c_Bt_0 := hBt.out.cell 0 _ rfl
      have f_Bt_0 := hBt.out.frz 0
      have l_Bt := hBt.out.lt
      have c_Bs_0 := hBs.out.cell 0 _ rfl
      have f_Bs_0 := hBs.out.frz 0
      have l_Bs := hBs.out.lt
      have ne_Bt_Bs : (Bt = Bs) = False := eq_false (Nat.ne_of_lt nBtBs.out)
      have ne_Bs_Bt : (Bs = Bt) = False := eq_false (Ne.symm (Nat.ne_of_lt nBtBs.out))
      obtain ⟨W2, hW2⟩ : ∃ W, W = (W1.setCell ⟨Bs, 0, none⟩ (.bool true)) := ⟨_, rfl⟩
      replace hW2 := Lib.hid hW2
      go_wp2_with fail
      go_end0
      clear c_Bt_0 f_Bt_0 l_Bt c_Bs_0 f_Bs_0 l_Bs ne_Bt_Bs ne_Bs_Bt
      rw [← hW2.out]
      replace hKB := Lib.hid (hKB.out.trans' (show Keeps (fun i => i = Bs) W1 W2 by rw [hW2.out]; exact keeps_setCell W1 ⟨Bs, 0, none⟩ _))
      replace hT := Lib.hid (show TxF W2 t f n S by rw [hW2.out]; exact (hT.out.set hBs.out.2 _ _))
      replace hBt := Lib.hid (show Bx W2 S Bt #[.pointer (some ⟨t, 0, none⟩)] 24 by rw [hW2.out]; exact (hBt.out.other (Nat.ne_of_lt nBtBs.out) _ _))
      replace hBs := Lib.hid (show Bx W2 S Bs #[.bool true] 4 by rw [hW2.out]; exact (hBs.out.set _ _))
      refine ⟨rfl, ?_, hBt.out, hT.out, hKB.out⟩
      rw [HA.out]
      exact hBs.out
    · have HQ := Lib.hid hq
      have HA := Lib.hid (show allP f (ps ++ [(off, v)]) = false by rw [allP_add, hb]; simp [hq])
      rw [hb] at h1
      have hBs := Lib.hid h1
      clear h1 h2 h3 h4 hne hb hq
      go_enter Tryz.func106, Tryz.ntmps106
      have c_Bt_0 := hBt.out.cell 0 _ rfl
      have f_Bt_0 := hBt.out.frz 0
      have l_Bt := hBt.out.lt
      have c_Bs_0 := hBs.out.cell 0 _ rfl
      have f_Bs_0 := hBs.out.frz 0
      have l_Bs := hBs.out.lt
      go_wp2_with fail
      clear c_Bt_0 f_Bt_0 l_Bt c_Bs_0 f_Bs_0 l_Bs
      refine (hT.out.reads.loadC off _ rfl).mono ?_
      rintro _ W1 ⟨rfl, kn⟩
      replace hKB := Lib.hid (hKB.out.trans' (kn.mono (fun _ _ e => e.elim)))
      replace hT := Lib.hid (hT.out.nil kn)
      replace hBt := Lib.hid (hBt.out.nil kn)
      replace hBs := Lib.hid (hBs.out.nil kn)
      clear kn
      have d1 : ((((f off).toNat : Int) : Int) == ((v.toNat : Int) : Int)) = false := (unlike_u64 (a := (f off)) (b := v) (HQ.out)).2
      have c_Bt_0 := hBt.out.cell 0 _ rfl
      have f_Bt_0 := hBt.out.frz 0
      have l_Bt := hBt.out.lt
      have c_Bs_0 := hBs.out.cell 0 _ rfl
      have f_Bs_0 := hBs.out.frz 0
      have l_Bs := hBs.out.lt
      have ne_Bt_Bs : (Bt = Bs) = False := eq_false (Nat.ne_of_lt nBtBs.out)
      have ne_Bs_Bt : (Bs = Bt) = False := eq_false (Ne.symm (Nat.ne_of_lt nBtBs.out))
      obtain ⟨W2, hW2⟩ : ∃ W, W = (W1.setCell ⟨Bs, 0, none⟩ (.bool false)) := ⟨_, rfl⟩
      replace hW2 := Lib.hid hW2
      go_wp2_with fail
      go_end0
      clear c_Bt_0 f_Bt_0 l_Bt c_Bs_0 f_Bs_0 l_Bs ne_Bt_Bs ne_Bs_Bt
      rw [← hW2.out]
      replace hKB := Lib.hid (hKB.out.trans' (show Keeps (fun i => i = Bs) W1 W2 by rw [hW2.out]; exact keeps_setCell W1 ⟨Bs, 0, none⟩ _))
      replace hT := Lib.hid (show TxF W2 t f n S by rw [hW2.out]; exact (hT.out.set hBs.out.2 _ _))
      replace hBt := Lib.hid (show Bx W2 S Bt #[.pointer (some ⟨t, 0, none⟩)] 24 by rw [hW2.out]; exact (hBt.out.other (Nat.ne_of_lt nBtBs.out) _ _))
      replace hBs := Lib.hid (show Bx W2 S Bs #[.bool false] 4 by rw [hW2.out]; exact (hBs.out.set _ _))
      refine ⟨rfl, ?_, hBt.out, hT.out, hKB.out⟩
      rw [HA.out]
      exact hBs.out
end Go.Proofs.YtefpbljekfkefaaGreat

/- slices.AppendSeq and slices.Collect over any sequence of words; slices.Values. -/
namespace Go.Proofs.YtefpbljekfkefaaGreat
open Go.RowKit Go.Shelf PT

attribute [local go_sem] Oper.semAt_some

abbrev encU1 (x : UInt64) : Array Value := #[.int .u64 (x.toNat : Int)]
theorem store_wfU (v : Value) (l : List UInt64) {w : World} {base : Nat} (h : Own kU w base v l) : (v = .slice none 0 0) ∨ ∃ g cap, v = .slice (some ⟨g, 0, none⟩) l.length cap := by
  rcases h.2 with ⟨hv, h0⟩ | ⟨g, cap, cur, hv, _⟩
  · exact .inl hv
  · exact .inr ⟨g, cap, by simpa using hv⟩
set_option maxRecDepth 100000 in
set_option maxHeartbeats 2000000 in
theorem AppendSeq_any {w : World} {gf : Nat} {lb : Array Value} {xs : List UInt64} {N : Nat} {Sp : List UInt64 → Prop} {R : Nat → Prop}
    (eg : ∀ args w, (callFunc gf args).run Tryz.prog w = .ok (.enter gf args) w) (hR : ∀ k, R k → k < w.heap.size) (hNl : N < 4294967296)
    (hseq : ∀ w', Keeps Nil w w' → SeqStopsK Fence.wide 3 Tryz.prog gf lb encU1 (KeptOn R) (fun ys => ys = xs) Sp N w') :
    Calls Tryz.prog 162 #[.slice none 0 0, .func (.func gf) #[] lb] w fun e w' => ∃ v, e = .returned v ∧ Own kU w' w.heap.size v xs ∧ Keeps Nil w w' := by
  refine (callsIn_wide (n := 4)).1 ?_
  refine callsIn_of_wp_marks Tryz.func162 rfl trivial ?_ rfl
  simp only [Tryz.ntmps162, List.size_toArray, List.length_cons, List.length_nil, Nat.reduceAdd, Nat.reduceSub, Array.replicate_succ, Array.replicate_zero, List.push_toArray, List.append_toArray, List.nil_append, List.cons_append]
  have HSQ := Lib.hid hseq
  clear hseq
  gi_wp2
  obtain ⟨w0, hw0⟩ : ∃ w0, w0 = w.alloc (.cells #[.slice none 0 0] 27) := ⟨_, rfl⟩
  have hk0 : Keeps Nil w w0 := by rw [hw0]; exact (Keeps.refl Nil w).alloc _
  have hbx : w0.heap[w.heap.size]? = some (.cells #[.slice none 0 0] 27 (0, 0)) := by rw [hw0]; exact heap_new w _
  have hsz : w0.heap.size = w.heap.size + 1 := by rw [hw0]; simp
  rw [← hw0]
  clear hw0
  refine wpIn_rangeFunc_ownF rfl (by omega) (gf := gf) (lb := lb) rfl trivial eg
    (HSQ.out w0 hk0) KeptOn.trans (keptOn_put (fun k hk => by have := hR k hk; omega)) (Below.refl _ _) (fun _ => rfl)
    (fun pre W => (∃ v, W.heap[w.heap.size]? = some (.cells #[v] 27 (0, 0)) ∧ Own kU W w0.heap.size v pre) ∧ Keeps Nil w W ∧ w0.heap.size ≤ W.heap.size)
    (fun _ _ _ => False)
    (fun s W W' row hs hg hr => by
      obtain ⟨⟨v, h1, h2⟩, h3⟩ := hs
      exact ⟨⟨v, cells_grown h1 hg (fun r e => (hr r e).2), h2.grown hg (fun r e => (hr r e).2)⟩, h3.1.record hg (fun r e => (hr r e).1) (by omega), Nat.le_trans h3.2 hg.size⟩)
    (fun _ _ _ _ _ hs _ _ => hs)
    ⟨⟨_, hbx, Own.nil _ _ _⟩, hk0, Nat.le_refl _⟩
    (fun x => { tmps := #[.slice none 0 0, .func (.func gf) #[] lb, .pointer (some ⟨w.heap.size, 0, none⟩), undef, .slice none 0 0, .int .u64 ↑x.toNat, .func (.func gf) #[] lb, .int .u64 ↑x.toNat, undef, undef, undef, undef, undef], defers := [] }) ?assign ?body ?done ?stop
  case assign =>
    intro L x W K hK
    gi_wp2
    exact hK
  case body =>
    rintro L pre x W ⟨⟨v, h1, h2⟩, h3⟩ hpl
    have hc := cell_of_one h1
    have hf := free_of_one h1
    have hbase := h3.2
    have hplen : pre.length < 4294967296 := by omega
    have hwx := getElem?_lt h1
    have H1 := Lib.hid h1
    have H3 := Lib.hid h3
    clear h1 h3
    rcases store_wfU v pre h2 with rfl | ⟨g0, cap0, rfl⟩
    all_goals
      gi_wp2_with (gi_at_builtin; refine wpListIn_append_one kU rfl _ _ rfl h2 rfl x _ rfl rfl hplen hbase ?_; rintro _ w3 hown3 hK3 ⟨g, cap, rfl, hg⟩; obtain ⟨d1, d2, D⟩ := puts_facts H1.out hown3 h2 hK3)
      obtain ⟨d3, _⟩ := D.out
      exact puts_close (H3.out.1) H1.out h2 hown3 hK3 d3 hg (by omega) hbase (fun k hk => by have := hR k hk; omega)
  case done =>
    rintro D ys W hD rfl ⟨⟨v, h1, h2⟩, h3⟩ hK
    have hc := cell_of_one h1
    rcases store_wfU v _ h2 with rfl | ⟨g0, cap0, rfl⟩
    all_goals
      gi_wp2
      refine ⟨by simp, .inl ⟨_, _, rfl, run_takeDeferred hK, ?_⟩⟩
      exact ⟨_, results_tmp rfl _ _ _, _, rfl, (h2.grown (grown_put _ _ _) (fun r e => by cases e; exact ⟨_, hK, rfl⟩)).base (by omega), h3.1.record (grown_put _ _ _) (fun r e => by cases e; exact hD) (by omega)⟩
  case stop =>
    rintro D c pre W _ _ h _
    exact h.elim
set_option maxRecDepth 100000 in
set_option maxHeartbeats 2000000 in
theorem Collect_any {w : World} {gf : Nat} {lb : Array Value} {xs : List UInt64} {N : Nat} {Sp : List UInt64 → Prop} {R : Nat → Prop}
    (eg : ∀ args w, (callFunc gf args).run Tryz.prog w = .ok (.enter gf args) w) (hR : ∀ k, R k → k < w.heap.size) (hNl : N < 4294967296)
    (hseq : ∀ w', Keeps Nil w w' → SeqStopsK Fence.wide 3 Tryz.prog gf lb encU1 (KeptOn R) (fun ys => ys = xs) Sp N w') :
    Calls Tryz.prog 107 #[.func (.func gf) #[] lb] w fun e w' => ∃ v, e = .returned v ∧ Own kU w' w.heap.size v xs ∧ Keeps Nil w w' := by
  have hc := Lib.hid (AppendSeq_any eg hR hNl hseq)
  clear hseq eg hR hNl
  go_enter Tryz.func107, Tryz.ntmps107
  go_wp2_with fail
  refine hc.out.mono ?_
  rintro _ W1 ⟨v, rfl, ho, kn⟩
  have HO := Lib.hid (And.intro ho kn)
  clear ho kn
  go_wp2_with fail
  go_ret
  exact ⟨_, rfl, HO.out.1, HO.out.2⟩
set_option maxRecDepth 100000 in
set_option maxHeartbeats 2000000 in
theorem values1_in (n : Nat) (hn : 1 ≤ n) (L B : Nat) (al : Option Addr) (cap : Nat) (R : Nat → Prop) (l : List UInt64) (hlen : l.length < 4294967296) (J Jx : List UInt64 → World → Prop)
    (hY : ∀ pre x W, J pre W → pre.length < l.length → YieldAt Fence.wide (n - 1) Tryz.prog L #[.int .u64 ↑x.toNat] W fun e W' =>
      (e = .returned (.bool true) ∧ J (pre ++ [x]) W' ∧ KeptOn R W W') ∨ (e = .returned (.bool false) ∧ Jx (pre ++ [x]) W'))
    (W : World) (hbox : W.cell? ⟨B, 0, none⟩ = some (.slice al l.length cap))
    (hcell : ∀ i x, l[i]? = some x → ∃ b o, al = some ⟨b, o, none⟩ ∧ R b ∧ W.cell? ⟨b, o + i, none⟩ = some (.int .u64 (x.toNat : Int))) (h0 : J [] W) :
    CallsIn Fence.wide n Tryz.prog 185 #[.func (.yield L) #[] #[], .pointer (some ⟨B, 0, none⟩)] W fun e W' => (∃ v, e = .returned v) ∧
      ((∃ ys, ys = l ∧ J ys W') ∨ (∃ pre, (∃ k, k ≤ l.length ∧ pre = l.take k) ∧ Jx pre W')) := by
  obtain ⟨N, hN⟩ : ∃ N, N = l.length := ⟨_, rfl⟩
  rw [← hN] at hbox
  have HN := Lib.hid hN
  have HC := Lib.hid hcell
  have HL := Lib.hid hlen
  have hNm : N < 4294967296 := by omega
  clear hN hcell hlen
  refine callsIn_of_wp Tryz.func185 rfl trivial ?_ rfl
  simp only [Tryz.ntmps185, List.size_toArray, List.length_cons, List.length_nil, Nat.reduceAdd, Nat.reduceSub, Array.replicate_succ, Array.replicate_zero, List.push_toArray, List.append_toArray, List.nil_append, List.cons_append]
  gi_wp2
  gi_loopw [7] (fun i wr => ∃ k : Nat, k ≤ N ∧ i = .int .i64 (k : Int) ∧ J (l.take k) wr ∧ KeptOn R W wr) (fun i _ => (N - intOf i).toNat)
  case atStart => exact ⟨0, Nat.zero_le _, rfl, h0, KeptOn.refl _ _⟩
  case round =>
    obtain ⟨k, hk, rfl, hJs, hnx⟩ := hrel
    by_cases hlt : k < N
    · obtain ⟨x, hx⟩ : ∃ x, l[k]? = some x := ⟨l[k]'(by have := HN.out; omega), by simp⟩
      obtain ⟨b, o, rfl, hRb, hc0⟩ := HC.out k x hx
      have hc := (hnx.cell hRb (o + k)).trans hc0
      obtain ⟨fn, tmps, assign, body, hy, hR⟩ := hY _ x wr hJs (by rw [List.length_take]; have := HN.out; omega)
      have HX := Lib.hid hx
      clear hx hc0
      gi_wp2
      refine hR.mono ?_
      rintro e W3 (⟨rfl, hJ3, hk3⟩ | ⟨rfl, hJx3⟩)
      · gi_wp2
        go_roundw
        case rel => exact ⟨k + 1, by omega, by go_num, by rw [take_succ' HX.out]; exact hJ3, hnx.trans hk3⟩
        case measure => simp [intOf] <;> omega
      · gi_wp2
        refine bodyPost_ret (results_none rfl _ _ _) rfl ?_
        exact ⟨⟨_, rfl⟩, .inr ⟨_, ⟨k + 1, by have := HN.out; omega, rfl⟩, by rw [take_succ' HX.out]; exact hJx3⟩⟩
    · obtain rfl : k = N := by omega
      gi_wp2
      go_end0
      exact ⟨⟨_, rfl⟩, .inl ⟨_, rfl, by rw [List.take_of_length_le (by rw [HN.out]; exact Nat.le_refl _)] at hJs; exact hJs⟩⟩
/-- the blocks that Values reads -/
def valR (B : Nat) (v : Value) (k : Nat) : Prop := k = B ∨ v.ownBlock = some k
theorem values_stops (n : Nat) (hn : 1 ≤ n) (B : Nat) {S : Nat → Prop} {w : World} {v : Value} {l : List UInt64} (h : View kU S w v l) (hlen : l.length < 4294967296) (hB : B < w.heap.size) (hbox : w.cell? ⟨B, 0, none⟩ = some v) :
    SeqStopsK Fence.wide n Tryz.prog 185 #[.pointer (some ⟨B, 0, none⟩)] encU1 (KeptOn (valR B v)) (fun ys => ys = l) (fun pre => ∃ k, k ≤ l.length ∧ pre = l.take k) l.length w := fun L J Jx W hW _ _ hY h0 => by
  have hb' := (hW.cell (p := ⟨B, 0, none⟩) hB).trans hbox
  have h' := h.keeps_nil (Keeps.of_below hW)
  obtain ⟨al, cap, rfl, _⟩ := h.val
  refine values1_in n hn L B al cap _ l hlen J Jx hY W hb' (fun i x hx => ?_) h0
  obtain ⟨b, o, cap2, e, _, _, _, _, hc⟩ := h'.pos (Nat.lt_of_le_of_lt (Nat.zero_le _) (List.getElem?_eq_some_iff.1 hx).1)
  simp only [Value.slice.injEq] at e
  obtain ⟨rfl, _, rfl⟩ := e
  exact ⟨b, o, rfl, .inr rfl, View.cellX hc i x hx⟩
set_option maxHeartbeats 400000 in
theorem Values_any (v : Value) (hv : v.oneCell' = true) (w : World) :
    Calls Tryz.prog 160 #[v] w fun e w' => e = .returned (.func (.func 185) #[] #[.pointer (some ⟨w.heap.size, 0, none⟩)]) ∧ w' = w.alloc (.cells #[v] 27) := by
  go_enter Tryz.func160, Tryz.ntmps160
  go_wp2
  go_ret
  exact ⟨rfl, rfl⟩
end Go.Proofs.YtefpbljekfkefaaGreat
