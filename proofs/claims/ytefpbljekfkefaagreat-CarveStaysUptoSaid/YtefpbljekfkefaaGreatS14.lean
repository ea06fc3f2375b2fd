/- TreeB, TreeC, SeqL, RangeO, DrawnA, DrawnB, DrawnC: written short. -/
import Derived.Test.YtefpbljekfkefaaGreatS13
import Derived.Test.YtefpbljekfkefaaGreatS01
import Derived.Test.YtefpbljekfkefaaGreatS10
import Derived.Calls
set_option maxRecDepth 100000
set_option maxHeartbeats 8000000
namespace Go.Proofs.YtefpbljekfkefaaGreat
section
open Go.RowKit PT
def putsT : Tr → List Put
 | .nil => []
 | .node l x r => putsT l ++ (x + 8, l.root) :: (putsT r ++ [(x + 16, r.root)])
theorem View.front {S : Nat → Prop} {w : World} {b off n c m : Nat} {l A B : List UInt64} (h : View kU S w (.slice (some ⟨b, off, none⟩) n c) l) (hl : l = A ++ B) (hm : m = A.length) : View kU S w (.slice (some ⟨b, off, none⟩) m c) A := by
 obtain ⟨_, h1, h2, h3, h4, h5⟩ := h.at
 have hle : A.length ≤ l.length := by rw [hl]; simp
 refine .inr ⟨b, off, c, by rw [hm], by omega, h2, h3, h4, fun i j hj hi => ?_⟩
 rw [h5 i j hj (by omega), hl, List.getElem?_append_left hi]
theorem View.back {S : Nat → Prop} {w : World} {b off n c k m : Nat} {l A B : List UInt64} (h : View kU S w (.slice (some ⟨b, off, none⟩) n c) l) (hl : l = A ++ B) (hk : k = A.length) (hm : m = B.length) : View kU S w (.slice (some ⟨b, off + k, none⟩) m (c - k)) B := by
 obtain ⟨_, h1, h2, h3, h4, h5⟩ := h.at
 have hle : l.length = A.length + B.length := by rw [hl]; simp
 refine .inr ⟨b, off + k, c - k, by rw [hm], by omega, by omega, h3, h4, fun i j hj hi => ?_⟩
 have hs : kU.size = 1 := rfl
 have := h5 (i + k) j hj (by omega)
 rw [hs] at this ⊢
 rw [show off + k + (i * 1 + j) = off + ((i + k) * 1 + j) by omega, this, hl, hk, List.getElem?_append_right (by omega), Nat.add_sub_cancel]
theorem View.none {S : Nat → Prop} {w : World} {b off n c m c' : Nat} {l B : List UInt64} (h : View kU S w (.slice (some ⟨b, off, none⟩) n c) l) (hm : m = 0 ∧ B.length = 0) (hc : c' ≤ c) : View kU S w (.slice (some ⟨b, off, none⟩) m c') B := by
 obtain ⟨_, h1, h2, h3, h4, h5⟩ := h.at
 exact .inr ⟨b, off, c', by rw [hm.1, hm.2], by omega, by omega, h3, h4, fun i j _ hi => by omega⟩
theorem back_cap {cap a1 n a b m : Nat} (hca : cap = a1) (hc : n ≤ cap) (hm : m = n - a1) (hn : n = a + 1 + b) (h1 : a1 = a + 1) : m = 0 ∧ b = 0 := by omega
theorem back_len {n a b m a1 : Nat} (hl : n = a + 1 + b) (hm : m = n - a1) (h1 : a1 = a + 1) : m = b := by omega
theorem back_at {a1 a : Nat} {A : List UInt64} {x : UInt64} (ha : a = A.length) (h1 : a1 = a + 1) : a1 = (A ++ [x]).length := by simp; omega
theorem back_list (A B : List UInt64) (x : UInt64) : A ++ x :: B = A ++ [x] ++ B := by simp
theorem heap_top {l r : Tr} {x m : UInt64} (h : (Tr.node l x r).Heap mixU) (hm : m ∈ (Tr.node l x r).list) (hx : ∀ y ∈ (Tr.node l x r).list, mixU y ≤ mixU m) : m = x ∧ x ∉ l.list := by
 obtain ⟨h1, _⟩ := h
 refine ⟨?_, fun hxl => UInt64.lt_irrefl _ (h1 x (.inl hxl))⟩
 have h2 := hx x (by simp [Tr.list])
 simp only [Tr.list, List.mem_append, List.mem_cons] at hm
 rcases hm with hm | rfl | hm
 · exact absurd (UInt64.lt_of_le_of_lt h2 (h1 m (.inl hm))) (UInt64.lt_irrefl _)
 · rfl
 · exact absurd (UInt64.lt_of_le_of_lt h2 (h1 m (.inr hm))) (UInt64.lt_irrefl _)
theorem built_nil {J : World → List Put → Prop} {g : Nat} {la lb : Array Value} {al : Option Addr} {cl : Nat} {W : World} {ps : List Put} (hJ : J W ps) :
 Calls Tryz.prog 104 #[.slice al 0 cl, .func (.func g) la lb] W fun e W' => e = .returned (.int .u64 ((Tr.nil).root.toNat : Int)) ∧ J W' (ps ++ putsT .nil) := by
 rw [show (Tr.nil).root = 0 from rfl]
 have HJ := qH hJ
 clear hJ
 go_enter Tryz.func104, Tryz.ntmps104
 go_wp2_with fail
 go_ret
 exact ⟨rfl, by simpa [putsT] using HJ.out⟩
theorem built_node {P : Nat → Prop} {J : World → List Put → Prop} {w0 : World} {g : Nat} {la lb : Array Value}
 (eg : ∀ args w, (callFunc g args).run Tryz.prog w = .ok (.enter g args) w)
 (hK : ∀ W ps, J W ps → Keeps P w0 W) (hN : ∀ W W' ps, J W ps → Keeps Nil W W' → J W' ps)
 (hp : ∀ W ps (x y : UInt64), J W ps → Calls Tryz.prog g (la ++ (#[.int .u64 (x.toNat : Int), .int .u64 (y.toNat : Int)] ++ lb)) W fun e W' => e = .returned (.tuple #[]) ∧ J W' (ps ++ [(x, y)]))
 {l r : Tr} {x : UInt64} (ihl : ∀ {v : Value}, View kU P w0 v l.list → ∀ W ps, J W ps → Calls Tryz.prog 104 #[v, .func (.func g) la lb] W fun e W' => e = .returned (.int .u64 (l.root.toNat : Int)) ∧ J W' (ps ++ putsT l))
 (ihr : ∀ {v : Value}, View kU P w0 v r.list → ∀ W ps, J W ps → Calls Tryz.prog 104 #[v, .func (.func g) la lb] W fun e W' => e = .returned (.int .u64 (r.root.toNat : Int)) ∧ J W' (ps ++ putsT r))
 {v : Value} (h : View kU P w0 v (Tr.node l x r).list) (hh : (Tr.node l x r).Heap mixU) {W : World} {ps : List Put} (hJ : J W ps) :
 Calls Tryz.prog 104 #[v, .func (.func g) la lb] W fun e W' => e = .returned (.int .u64 ((Tr.node l x r).root.toNat : Int)) ∧ J W' (ps ++ putsT (Tr.node l x r)) := by
 rw [show (Tr.node l x r).root = x from rfl]
 have hlen : (Tr.node l x r).list.length = l.list.length + 1 + r.list.length := by simp [Tr.list]; omega
 obtain ⟨gb, go, cap, rfl, hc, hm, hb, _, _⟩ := h.pos (by omega)
 obtain ⟨N, hN'⟩ : ∃ N, N = (Tr.node l x r).list.length := ⟨_, rfl⟩
 obtain ⟨a, ha⟩ : ∃ a, a = l.list.length := ⟨_, rfl⟩
 obtain ⟨a1, ha1⟩ : ∃ a1, a1 = a + 1 := ⟨_, rfl⟩
 obtain ⟨m, hm'⟩ : ∃ m, m = N - a1 := ⟨_, rfl⟩
 obtain ⟨c1, hc1⟩ : ∃ c1, c1 = cap - a1 := ⟨_, rfl⟩
 rw [← hN'] at h hc ⊢
 have hNm : N ≤ 9223372036854775807 := by unfold maxLen at hm; omega
 have haN : a ≤ N := by omega
 have ha1N : a1 ≤ N := by omega
 have hacap : a ≤ cap := by omega
 have ha1cap : a1 ≤ cap := by omega
 have hnz : ((N : Int) == 0) = false := by simp; omega
 have hnz2 : (N = 0) = False := by simp; omega
 have q_a : wrap64 ((a : Int) + 1) = (a1 : Int) := by rw [ha1]; exact IntWalk.wrap64_in _ (by omega)
 have q_a2 : IntKind.i64.wrap ((a : Int) + 1) = (a1 : Int) := by rw [IntWalk.i64_left]; exact q_a
 have HV := qH h
 have HVl := qH (h.front (A := l.list) (B := x :: r.list) rfl ha)
 have hvr0 := (show View kU P w0 (.slice (some ⟨gb, go + a1, none⟩) m c1) r.list by rw [hc1]; exact h.back (back_list l.list r.list x) (back_at ha ha1) (back_len (hN'.trans (by rw [hlen, ha])) hm' ha1))
 have hvr1 : cap = a1 → View kU P w0 (.slice (some ⟨gb, go, none⟩) m c1) r.list := fun hca => h.none (back_cap hca hc hm' (hN'.trans (by rw [hlen, ha])) ha1) (by rw [hc1]; exact Nat.sub_le _ _)
 have HH := qH hh
 have HA := qH ha
 have HL := qH (And.intro hlen hN')
 have HJ := qH hJ
 have HK := qH hK
 have HNN := qH hN
 have HP := qH hp
 have IHL := qH (ihl HVl.out)
 have HC1 := qH hc1
 have q_m := hm'.symm
 have q_c := hc1.symm
 clear hK hN hp h hJ hh ha hlen hN' hc hm ihl hb hm' ha1 hc1
 by_cases hca : cap = a1
 ·have IHR := qH (ihr (hvr1 hca))
  have q_e : (cap = a1) = True := eq_true hca
  clear hca ihr hvr0 hvr1
  go_enter Tryz.func104, Tryz.ntmps104
  go_wp2_with fail
  refine (MaxFunc_any (HV.out.keeps (HK.out _ _ HJ.out) (fun _ e => e)) (by have := HL.out.1; omega)).mono ?_
  rintro _ W1 ⟨m9, rfl, hm1, hm2, kn⟩
  obtain ⟨rfl, _⟩ := heap_top HH.out hm1 hm2
  clear hm1 hm2
  replace HJ := qH (HNN.out _ _ _ HJ.out kn)
  clear kn
  go_wp2_with fail
  refine (IndexU_any (A := l.list) (B := r.list) (HV.out.keeps (HK.out _ _ HJ.out) (fun _ e => e)) rfl (fun hxl => UInt64.lt_irrefl _ (HH.out.1 _ (.inl hxl)))).mono ?_
  rintro _ W2 ⟨rfl, kn⟩
  rw [← HA.out]
  replace HJ := qH (HNN.out _ _ _ HJ.out kn)
  clear kn
  obtain ⟨y1, zy1⟩ : ∃ y : UInt64, y = m9 + 8 := ⟨_, rfl⟩
  have q1 : IntKind.u64.wrap ((m9.toNat : Int) + 8) = (y1.toNat : Int) := by rw [zy1]; exact u64_add m9 8
  replace zy1 := qH zy1
  go_wp2_with fail
  refine (IHL.out _ _ HJ.out).mono ?_
  rintro _ W3 ⟨rfl, hJ⟩
  replace HJ := qH hJ
  clear hJ
  go_wp2_with fail
  refine (HP.out _ _ y1 (l.root) HJ.out).mono ?_
  rintro _ W4 ⟨rfl, hJ⟩
  replace HJ := qH hJ
  clear hJ
  obtain ⟨y2, zy2⟩ : ∃ y : UInt64, y = m9 + 16 := ⟨_, rfl⟩
  have q2 : IntKind.u64.wrap ((m9.toNat : Int) + 16) = (y2.toNat : Int) := by rw [zy2]; exact u64_add m9 16
  replace zy2 := qH zy2
  go_wp2_with fail
  refine (IHR.out _ _ HJ.out).mono ?_
  rintro _ W5 ⟨rfl, hJ⟩
  replace HJ := qH hJ
  clear hJ
  go_wp2_with fail
  refine (HP.out _ _ y2 (r.root) HJ.out).mono ?_
  rintro _ W6 ⟨rfl, hJ⟩
  replace HJ := qH hJ
  clear hJ
  go_wp2_with fail
  go_ret
  exact ⟨rfl, by have := HJ.out; rw [zy1.out, zy2.out] at this; simpa [putsT, List.append_assoc] using this⟩
 ·have IHR := qH (ihr (hvr0))
  have q_e : (cap = a1) = False := eq_false hca
  clear hca ihr hvr0 hvr1
  go_enter Tryz.func104, Tryz.ntmps104
  go_wp2_with fail
  refine (MaxFunc_any (HV.out.keeps (HK.out _ _ HJ.out) (fun _ e => e)) (by have := HL.out.1; omega)).mono ?_
  rintro _ W1 ⟨m9, rfl, hm1, hm2, kn⟩
  obtain ⟨rfl, _⟩ := heap_top HH.out hm1 hm2
  clear hm1 hm2
  replace HJ := qH (HNN.out _ _ _ HJ.out kn)
  clear kn
  go_wp2_with fail
  refine (IndexU_any (A := l.list) (B := r.list) (HV.out.keeps (HK.out _ _ HJ.out) (fun _ e => e)) rfl (fun hxl => UInt64.lt_irrefl _ (HH.out.1 _ (.inl hxl)))).mono ?_
  rintro _ W2 ⟨rfl, kn⟩
  rw [← HA.out]
  replace HJ := qH (HNN.out _ _ _ HJ.out kn)
  clear kn
  obtain ⟨y1, zy1⟩ : ∃ y : UInt64, y = m9 + 8 := ⟨_, rfl⟩
  have q1 : IntKind.u64.wrap ((m9.toNat : Int) + 8) = (y1.toNat : Int) := by rw [zy1]; exact u64_add m9 8
  replace zy1 := qH zy1
  go_wp2_with fail
  refine (IHL.out _ _ HJ.out).mono ?_
  rintro _ W3 ⟨rfl, hJ⟩
  replace HJ := qH hJ
  clear hJ
  go_wp2_with fail
  refine (HP.out _ _ y1 (l.root) HJ.out).mono ?_
  rintro _ W4 ⟨rfl, hJ⟩
  replace HJ := qH hJ
  clear hJ
  obtain ⟨y2, zy2⟩ : ∃ y : UInt64, y = m9 + 16 := ⟨_, rfl⟩
  have q2 : IntKind.u64.wrap ((m9.toNat : Int) + 16) = (y2.toNat : Int) := by rw [zy2]; exact u64_add m9 16
  replace zy2 := qH zy2
  go_wp2_with fail
  refine (IHR.out _ _ HJ.out).mono ?_
  rintro _ W5 ⟨rfl, hJ⟩
  replace HJ := qH hJ
  clear hJ
  go_wp2_with fail
  refine (HP.out _ _ y2 (r.root) HJ.out).mono ?_
  rintro _ W6 ⟨rfl, hJ⟩
  replace HJ := qH hJ
  clear hJ
  go_wp2_with fail
  go_ret
  exact ⟨rfl, by have := HJ.out; rw [zy1.out, zy2.out] at this; simpa [putsT, List.append_assoc] using this⟩
theorem built_any {P : Nat → Prop} {J : World → List Put → Prop} {w0 : World} {g : Nat} {la lb : Array Value}
   (eg : ∀ args w, (callFunc g args).run Tryz.prog w = .ok (.enter g args) w)
   (hK : ∀ W ps, J W ps → Keeps P w0 W) (hN : ∀ W W' ps, J W ps → Keeps Nil W W' → J W' ps)
   (hp : ∀ W ps (x y : UInt64), J W ps → Calls Tryz.prog g (la ++ (#[.int .u64 (x.toNat : Int), .int .u64 (y.toNat : Int)] ++ lb)) W fun e W' => e = .returned (.tuple #[]) ∧ J W' (ps ++ [(x, y)])) :
   ∀ {t : Tr} {v : Value}, View kU P w0 v t.list → t.Heap mixU → ∀ W ps, J W ps →
     Calls Tryz.prog 104 #[v, .func (.func g) la lb] W fun e W' => e = .returned (.int .u64 (t.root.toNat : Int)) ∧ J W' (ps ++ putsT t) := by
 intro t
 induction t with
 | nil =>
   intro v h _ W ps hJ
   obtain ⟨al, cl, rfl, _⟩ := h.val
   exact built_nil hJ
 | node l x r ihl ihr =>
   intro v h hh W ps hJ
   exact built_node eg hK hN hp (fun hv => ihl hv hh.2.1) (fun hv => ihr hv hh.2.2) h hh hJ
def allP (f : UInt64 → UInt64) (ps : List Put) : Bool := ps.all (fun p => f p.1 == p.2)
theorem allP_add (f : UInt64 → UInt64) (ps : List Put) (x y : UInt64) : allP f (ps ++ [(x, y)]) = (allP f ps && f x == y) := by simp [allP]
def ToldC (w0 : World) (t Bs Bt n : Nat) (f : UInt64 → UInt64) (S : Nat → Prop) (W : World) (ps : List Put) : Prop :=
  Bx W S Bs #[.bool (allP f ps)] 4 ∧ Bx W S Bt #[.pointer (some ⟨t, 0, none⟩)] 24 ∧ TxF W t f n S ∧ Keeps (fun k => k = Bs) w0 W
theorem ToldC.nil {w0 W W' : World} {t Bs Bt n : Nat} {f : UInt64 → UInt64} {S : Nat → Prop} {ps : List Put} (h : ToldC w0 t Bs Bt n f S W ps) (k : Keeps Nil W W') : ToldC w0 t Bs Bt n f S W' ps :=
 ⟨h.1.nil k, h.2.1.nil k, h.2.2.1.nil k, h.2.2.2.trans' (k.mono (fun _ _ e => e.elim))⟩
theorem check1_any {w0 wb : World} {t Bs Bt n : Nat} {f : UInt64 → UInt64} {S : Nat → Prop} {ps : List Put} (hne : Bt < Bs) (off v : UInt64) (h : ToldC w0 t Bs Bt n f S wb ps) :
   Calls Tryz.prog 106 #[.int .u64 (off.toNat : Int), .int .u64 (v.toNat : Int), .pointer (some ⟨Bs, 0, none⟩), .pointer (some ⟨Bt, 0, none⟩)] wb fun e W' => e = .returned (.tuple #[]) ∧ ToldC w0 t Bs Bt n f S W' (ps ++ [(off, v)]) := by
 obtain ⟨h1, h2, h3, h4⟩ := h
 have hBt := qH h2
 have hT := qH h3
 have hKB := qH h4
 have nBtBs := qH hne
 cases hb : allP f ps with
 | false =>
   have HA := qH (show allP f (ps ++ [(off, v)]) = false by rw [allP_add, hb]; rfl)
   rw [hb] at h1
   have hBs := qH h1
   clear h1 h2 h3 h4 hne hb
   go_enter Tryz.func106, Tryz.ntmps106
   have c_Bt_0 := cB hBt 0
   have f_Bt_0 := hBt.out.frz 0
   have l_Bt := hBt.out.lt
   have c_Bs_0 := cB hBs 0
   have f_Bs_0 := hBs.out.frz 0
   have l_Bs := hBs.out.lt
   have ne_Bt_Bs := nH nBtBs
   have ne_Bs_Bt := nG nBtBs
   obtain ⟨W1, hW1⟩ := nm ((wb.setCell ⟨Bs, 0, none⟩ (.bool false)))
   go_wp2_with fail
   go_end0
   clear c_Bt_0 f_Bt_0 l_Bt c_Bs_0 f_Bs_0 l_Bs ne_Bt_Bs ne_Bs_Bt
   rw [← hW1.out]
   replace hKB := qH (hKB.out.trans' (show Keeps (fun i => i = Bs) wb W1 by rw [hW1.out]; exact keeps_setCell wb ⟨Bs, 0, none⟩ _))
   replace hT := qH (show TxF W1 t f n S by rw [hW1.out]; exact (hT.out.set hBs.out.2 _ _))
   replace hBt := zB hW1 ((hBt.out.other (Nat.ne_of_lt nBtBs.out) _ _))
   replace hBs := zC hW1 ((hBs.out.set _ _))
   refine ⟨rfl, ?_, hBt.out, hT.out, hKB.out⟩
   rw [HA.out]
   exact hBs.out
 | true =>
   by_cases hq : f off = v
   ·have HQ := qH hq
    have HA := qH (show allP f (ps ++ [(off, v)]) = true by rw [allP_add, hb, hq]; simp)
    rw [hb] at h1
    have hBs := qH h1
    clear h1 h2 h3 h4 hne hb hq
    go_enter Tryz.func106, Tryz.ntmps106
    have c_Bt_0 := cB hBt 0
    have f_Bt_0 := hBt.out.frz 0
    have l_Bt := hBt.out.lt
    have c_Bs_0 := cB hBs 0
    have f_Bs_0 := hBs.out.frz 0
    have l_Bs := hBs.out.lt
    go_wp2_with fail
    clear c_Bt_0 f_Bt_0 l_Bt c_Bs_0 f_Bs_0 l_Bs
    refine (hT.out.reads.loadC off _ rfl).mono ?_
    rintro _ W1 ⟨rfl, kn⟩
    replace hKB := qH (hKB.out.trans' (kn.mono (fun _ _ e => e.elim)))
    replace hT := qH (hT.out.nil kn)
    replace hBt := bN hBt kn
    replace hBs := bN hBs kn
    clear kn
    have d1 : ((((f off).toNat : Int) : Int) == ((v.toNat : Int) : Int)) = true := (same_u64 (a := (f off)) (b := v) (HQ.out)).2
    have c_Bt_0 := cB hBt 0
    have f_Bt_0 := hBt.out.frz 0
    have l_Bt := hBt.out.lt
    have c_Bs_0 := cB hBs 0
    have f_Bs_0 := hBs.out.frz 0
    have l_Bs := hBs.out.lt
    have ne_Bt_Bs := nH nBtBs
    have ne_Bs_Bt := nG nBtBs
    obtain ⟨W2, hW2⟩ := nm ((W1.setCell ⟨Bs, 0, none⟩ (.bool true)))
    go_wp2_with fail
    go_end0
    clear c_Bt_0 f_Bt_0 l_Bt c_Bs_0 f_Bs_0 l_Bs ne_Bt_Bs ne_Bs_Bt
    rw [← hW2.out]
    replace hKB := qH (hKB.out.trans' (show Keeps (fun i => i = Bs) W1 W2 by rw [hW2.out]; exact keeps_setCell W1 ⟨Bs, 0, none⟩ _))
    replace hT := qH (show TxF W2 t f n S by rw [hW2.out]; exact (hT.out.set hBs.out.2 _ _))
    replace hBt := zB hW2 ((hBt.out.other (Nat.ne_of_lt nBtBs.out) _ _))
    replace hBs := zC hW2 ((hBs.out.set _ _))
    refine ⟨rfl, ?_, hBt.out, hT.out, hKB.out⟩
    rw [HA.out]
    exact hBs.out
   ·have HQ := qH hq
    have HA := qH (show allP f (ps ++ [(off, v)]) = false by rw [allP_add, hb]; simp [hq])
    rw [hb] at h1
    have hBs := qH h1
    clear h1 h2 h3 h4 hne hb hq
    go_enter Tryz.func106, Tryz.ntmps106
    have c_Bt_0 := cB hBt 0
    have f_Bt_0 := hBt.out.frz 0
    have l_Bt := hBt.out.lt
    have c_Bs_0 := cB hBs 0
    have f_Bs_0 := hBs.out.frz 0
    have l_Bs := hBs.out.lt
    go_wp2_with fail
    clear c_Bt_0 f_Bt_0 l_Bt c_Bs_0 f_Bs_0 l_Bs
    refine (hT.out.reads.loadC off _ rfl).mono ?_
    rintro _ W1 ⟨rfl, kn⟩
    replace hKB := qH (hKB.out.trans' (kn.mono (fun _ _ e => e.elim)))
    replace hT := qH (hT.out.nil kn)
    replace hBt := bN hBt kn
    replace hBs := bN hBs kn
    clear kn
    have d1 : ((((f off).toNat : Int) : Int) == ((v.toNat : Int) : Int)) = false := (unlike_u64 (a := (f off)) (b := v) (HQ.out)).2
    have c_Bt_0 := cB hBt 0
    have f_Bt_0 := hBt.out.frz 0
    have l_Bt := hBt.out.lt
    have c_Bs_0 := cB hBs 0
    have f_Bs_0 := hBs.out.frz 0
    have l_Bs := hBs.out.lt
    have ne_Bt_Bs := nH nBtBs
    have ne_Bs_Bt := nG nBtBs
    obtain ⟨W2, hW2⟩ := nm ((W1.setCell ⟨Bs, 0, none⟩ (.bool false)))
    go_wp2_with fail
    go_end0
    clear c_Bt_0 f_Bt_0 l_Bt c_Bs_0 f_Bs_0 l_Bs ne_Bt_Bs ne_Bs_Bt
    rw [← hW2.out]
    replace hKB := qH (hKB.out.trans' (show Keeps (fun i => i = Bs) W1 W2 by rw [hW2.out]; exact keeps_setCell W1 ⟨Bs, 0, none⟩ _))
    replace hT := qH (show TxF W2 t f n S by rw [hW2.out]; exact (hT.out.set hBs.out.2 _ _))
    replace hBt := zB hW2 ((hBt.out.other (Nat.ne_of_lt nBtBs.out) _ _))
    replace hBs := zC hW2 ((hBs.out.set _ _))
    refine ⟨rfl, ?_, hBt.out, hT.out, hKB.out⟩
    rw [HA.out]
    exact hBs.out
end
section
open Go.RowKit Go.Shelf PT
attribute [local go_sem] Oper.semAt_some
abbrev encU1 (x : UInt64) : Array Value := #[.int .u64 (x.toNat : Int)]
theorem store_wfU (v : Value) (l : List UInt64) {w : World} {base : Nat} (h : Own kU w base v l) : (v = .slice none 0 0) ∨ ∃ g cap, v = .slice (some ⟨g, 0, none⟩) l.length cap := by
 rcases h.2 with ⟨hv, h0⟩ | ⟨g, cap, cur, hv, _⟩
 · exact .inl hv
 · exact .inr ⟨g, cap, by simpa using hv⟩
theorem AppendSeq_any {w : World} {gf : Nat} {lb : Array Value} {xs : List UInt64} {N : Nat} {Sp : List UInt64 → Prop} {R : Nat → Prop}
  (eg : ∀ args w, (callFunc gf args).run Tryz.prog w = .ok (.enter gf args) w) (hR : ∀ k, R k → k < w.heap.size) (hNl : N < 4294967296)
  (hseq : ∀ w', Keeps Nil w w' → SeqStopsK Fence.wide 3 Tryz.prog gf lb encU1 (KeptOn R) (fun ys => ys = xs) Sp N w') :
  Calls Tryz.prog 162 #[.slice none 0 0, .func (.func gf) #[] lb] w fun e w' => ∃ v, e = .returned v ∧ Own kU w' w.heap.size v xs ∧ Keeps Nil w w' := by
 refine (callsIn_wide (n := 4)).1 ?_
 refine callsIn_of_wp_marks Tryz.func162 rfl trivial ?_ rfl
 simp only [Tryz.ntmps162, List.size_toArray, List.length_cons, List.length_nil, Nat.reduceAdd, Nat.reduceSub, Array.replicate_succ, Array.replicate_zero, List.push_toArray, List.append_toArray, List.nil_append, List.cons_append]
 have HSQ := qH hseq
 clear hseq
 gi_wp2
 obtain ⟨w0, hw0⟩ : ∃ w0, w0 = w.alloc (.cells #[.slice none 0 0] 27) := ⟨_, rfl⟩
 have hk0 : Keeps Nil w w0 := by rw [hw0]; exact (Keeps.refl Nil w).alloc _
 have hbx : w0.heap[w.heap.size]? = some (.cells #[.slice none 0 0] 27 (0, 0)) := by rw [hw0]; exact heap_new w _
 have hsz : w0.heap.size = w.heap.size + 1 := by rw [hw0]; simp
 rw [← hw0]
 clear hw0
 refine wpIn_rangeFunc_ownF rfl (by omega) (gf := gf) (lb := lb) rfl trivial eg
  (HSQ.out w0 hk0) KeptOn.trans (keptOn_put (fun k hk => by have := hR k hk; omega)) (Below.refl _ _) (fun _ => rfl)
  (fun pre W => (∃ v, W.heap[w.heap.size]? = some (.cells #[v] 27 (0, 0)) ∧ Own kU W w0.heap.size v pre) ∧ Keeps Nil w W ∧ w0.heap.size ≤ W.heap.size)
  (fun _ _ _ => False)
  (fun s W W' row hs hg hr => by
   obtain ⟨⟨v, h1, h2⟩, h3⟩ := hs
   exact ⟨⟨v, cells_grown h1 hg (fun r e => (hr r e).2), h2.grown hg (fun r e => (hr r e).2)⟩, h3.1.record hg (fun r e => (hr r e).1) (by omega), Nat.le_trans h3.2 hg.size⟩)
  (fun _ _ _ _ _ hs _ _ => hs)
  ⟨⟨_, hbx, Own.nil _ _ _⟩, hk0, Nat.le_refl _⟩
  (fun x => { tmps := #[.slice none 0 0, .func (.func gf) #[] lb, .pointer (some ⟨w.heap.size, 0, none⟩), undef, .slice none 0 0, .int .u64 ↑x.toNat, .func (.func gf) #[] lb, .int .u64 ↑x.toNat, undef, undef, undef, undef, undef], defers := [] }) ?assign ?body ?done ?stop
 case assign =>
  intro L x W K hK
  gi_wp2
  exact hK
 case body =>
  rintro L pre x W ⟨⟨v, h1, h2⟩, h3⟩ hpl
  have hc := cell_of_one h1
  have hf := free_of_one h1
  have hbase := h3.2
  have hplen : pre.length < 4294967296 := by omega
  have hwx := getElem?_lt h1
  have H1 := qH h1
  have H3 := qH h3
  clear h1 h3
  rcases store_wfU v pre h2 with rfl | ⟨g0, cap0, rfl⟩
  all_goals
   gi_wp2_with (gi_at_builtin; refine wpListIn_append_one kU rfl _ _ rfl h2 rfl x _ rfl rfl hplen hbase ?_; rintro _ w3 hown3 hK3 ⟨g, cap, rfl, hg⟩; obtain ⟨d1, d2, D⟩ := puts_facts H1.out hown3 h2 hK3)
   obtain ⟨d3, _⟩ := D.out
   exact puts_close (H3.out.1) H1.out h2 hown3 hK3 d3 hg (by omega) hbase (fun k hk => by have := hR k hk; omega)
 case done =>
  rintro D ys W hD rfl ⟨⟨v, h1, h2⟩, h3⟩ hK
  have hc := cell_of_one h1
  rcases store_wfU v _ h2 with rfl | ⟨g0, cap0, rfl⟩
  all_goals
   gi_wp2
   refine ⟨by simp, .inl ⟨_, _, rfl, run_takeDeferred hK, ?_⟩⟩
   exact ⟨_, results_tmp rfl _ _ _, _, rfl, (h2.grown (grown_put _ _ _) (fun r e => by cases e; exact ⟨_, hK, rfl⟩)).base (by omega), h3.1.record (grown_put _ _ _) (fun r e => by cases e; exact hD) (by omega)⟩
 case stop =>
  rintro D c pre W _ _ h _
  exact h.elim
theorem Collect_any {w : World} {gf : Nat} {lb : Array Value} {xs : List UInt64} {N : Nat} {Sp : List UInt64 → Prop} {R : Nat → Prop}
  (eg : ∀ args w, (callFunc gf args).run Tryz.prog w = .ok (.enter gf args) w) (hR : ∀ k, R k → k < w.heap.size) (hNl : N < 4294967296)
  (hseq : ∀ w', Keeps Nil w w' → SeqStopsK Fence.wide 3 Tryz.prog gf lb encU1 (KeptOn R) (fun ys => ys = xs) Sp N w') :
  Calls Tryz.prog 107 #[.func (.func gf) #[] lb] w fun e w' => ∃ v, e = .returned v ∧ Own kU w' w.heap.size v xs ∧ Keeps Nil w w' := by
 have hc := qH (AppendSeq_any eg hR hNl hseq)
 clear hseq eg hR hNl
 go_enter Tryz.func107, Tryz.ntmps107
 go_wp2_with fail
 refine hc.out.mono ?_
 rintro _ W1 ⟨v, rfl, ho, kn⟩
 have HO := qH (And.intro ho kn)
 clear ho kn
 go_wp2_with fail
 go_ret
 exact ⟨_, rfl, HO.out.1, HO.out.2⟩
theorem values1_in (n : Nat) (hn : 1 ≤ n) (L B : Nat) (al : Option Addr) (cap : Nat) (R : Nat → Prop) (l : List UInt64) (hlen : l.length < 4294967296) (J Jx : List UInt64 → World → Prop)
    (hY : ∀ pre x W, J pre W → pre.length < l.length → YieldAt Fence.wide (n - 1) Tryz.prog L #[.int .u64 ↑x.toNat] W fun e W' =>
      (e = .returned (.bool true) ∧ J (pre ++ [x]) W' ∧ KeptOn R W W') ∨ (e = .returned (.bool false) ∧ Jx (pre ++ [x]) W'))
    (W : World) (hbox : W.cell? ⟨B, 0, none⟩ = some (.slice al l.length cap))
    (hcell : ∀ i x, l[i]? = some x → ∃ b o, al = some ⟨b, o, none⟩ ∧ R b ∧ W.cell? ⟨b, o + i, none⟩ = some (.int .u64 (x.toNat : Int))) (h0 : J [] W) :
    CallsIn Fence.wide n Tryz.prog 185 #[.func (.yield L) #[] #[], .pointer (some ⟨B, 0, none⟩)] W fun e W' => (∃ v, e = .returned v) ∧
      ((∃ ys, ys = l ∧ J ys W') ∨ (∃ pre, (∃ k, k ≤ l.length ∧ pre = l.take k) ∧ Jx pre W')) := by
  obtain ⟨N, hN⟩ : ∃ N, N = l.length := ⟨_, rfl⟩
  rw [← hN] at hbox
  have HN := qH hN
  have HC := qH hcell
  have HL := qH hlen
  have hNm : N < 4294967296 := by omega
  clear hN hcell hlen
  refine callsIn_of_wp Tryz.func185 rfl trivial ?_ rfl
  simp only [Tryz.ntmps185, List.size_toArray, List.length_cons, List.length_nil, Nat.reduceAdd, Nat.reduceSub, Array.replicate_succ, Array.replicate_zero, List.push_toArray, List.append_toArray, List.nil_append, List.cons_append]
  gi_wp2
  gi_loopw [7] (fun i wr => ∃ k : Nat, k ≤ N ∧ i = .int .i64 (k : Int) ∧ J (l.take k) wr ∧ KeptOn R W wr) (fun i _ => (N - intOf i).toNat)
  case atStart => exact ⟨0, Nat.zero_le _, rfl, h0, KeptOn.refl _ _⟩
  case round =>
    obtain ⟨k, hk, rfl, hJs, hnx⟩ := hrel
    by_cases hlt : k < N
    · obtain ⟨x, hx⟩ : ∃ x, l[k]? = some x := ⟨l[k]'(by have := HN.out; omega), by simp⟩
      obtain ⟨b, o, rfl, hRb, hc0⟩ := HC.out k x hx
      have hc := (hnx.cell hRb (o + k)).trans hc0
      obtain ⟨fn, tmps, assign, body, hy, hR⟩ := hY _ x wr hJs (by rw [List.length_take]; have := HN.out; omega)
      have HX := qH hx
      clear hx hc0
      gi_wp2
      refine hR.mono ?_
      rintro e W3 (⟨rfl, hJ3, hk3⟩ | ⟨rfl, hJx3⟩)
      · gi_wp2
        go_roundw
        case rel => exact ⟨k + 1, by omega, by go_num, by rw [take_succ' HX.out]; exact hJ3, hnx.trans hk3⟩
        case measure => simp [intOf] <;> omega
      · gi_wp2
        refine bodyPost_ret (results_none rfl _ _ _) rfl ?_
        exact ⟨⟨_, rfl⟩, .inr ⟨_, ⟨k + 1, by have := HN.out; omega, rfl⟩, by rw [take_succ' HX.out]; exact hJx3⟩⟩
    · obtain rfl : k = N := by omega
      gi_wp2
      go_end0
      exact ⟨⟨_, rfl⟩, .inl ⟨_, rfl, by rw [List.take_of_length_le (by rw [HN.out]; exact Nat.le_refl _)] at hJs; exact hJs⟩⟩
def valR (B : Nat) (v : Value) (k : Nat) : Prop := k = B ∨ v.ownBlock = some k
theorem values_stops (n : Nat) (hn : 1 ≤ n) (B : Nat) {S : Nat → Prop} {w : World} {v : Value} {l : List UInt64} (h : View kU S w v l) (hlen : l.length < 4294967296) (hB : B < w.heap.size) (hbox : w.cell? ⟨B, 0, none⟩ = some v) :
  SeqStopsK Fence.wide n Tryz.prog 185 #[.pointer (some ⟨B, 0, none⟩)] encU1 (KeptOn (valR B v)) (fun ys => ys = l) (fun pre => ∃ k, k ≤ l.length ∧ pre = l.take k) l.length w := fun L J Jx W hW _ _ hY h0 => by
 have hb' := (hW.cell (p := ⟨B, 0, none⟩) hB).trans hbox
 have h' := h.keeps_nil (Keeps.of_below hW)
 obtain ⟨al, cap, rfl, _⟩ := h.val
 refine values1_in n hn L B al cap _ l hlen J Jx hY W hb' (fun i x hx => ?_) h0
 obtain ⟨b, o, cap2, e, _, _, _, _, hc⟩ := h'.pos (Nat.lt_of_le_of_lt (Nat.zero_le _) (List.getElem?_eq_some_iff.1 hx).1)
 simp only [Value.slice.injEq] at e
 obtain ⟨rfl, _, rfl⟩ := e
 exact ⟨b, o, rfl, .inr rfl, View.cellX hc i x hx⟩
theorem Values_any (v : Value) (hv : v.oneCell' = true) (w : World) :
  Calls Tryz.prog 160 #[v] w fun e w' => e = .returned (.func (.func 185) #[] #[.pointer (some ⟨w.heap.size, 0, none⟩)]) ∧ w' = w.alloc (.cells #[v] 27) := by
 go_enter Tryz.func160, Tryz.ntmps160
 go_wp2
 go_ret
 exact ⟨rfl, rfl⟩
end
section
open Go.RowKit Go.Shelf
attribute [local go_sem] Oper.semAt_some
def OwnN (n0 : Nat) (W : World) (k : Nat) : Prop := k = n0 ∨ ∃ n c T f, W.heap[n0]? = some (.cells #[.slice (some ⟨k, 0, none⟩) n c] T f)
theorem OwnN.iff {n0 : Nat} {A B : World} (e : B.heap[n0]? = A.heap[n0]?) (k : Nat) : OwnN n0 B k ↔ OwnN n0 A k := by unfold OwnN; rw [e]
structure KeptAll (n0 : Nat) (A B : World) : Prop where
 size : A.heap.size ≤ B.heap.size
 kept : ∀ k o, A.heap[k]? = some o → ¬ OwnN n0 A k → B.heap[k]? = some o
 old : ∀ k, OwnN n0 B k → k < A.heap.size → OwnN n0 A k
 lt : (∀ k, OwnN n0 A k → k < A.heap.size) → ∀ k, OwnN n0 B k → k < B.heap.size
section
variable {n0 : Nat} {A B C : World}
theorem KeptAll.refl (n0 : Nat) (A : World) : KeptAll n0 A A := ⟨Nat.le_refl _, fun _ _ h _ => h, fun _ h _ => h, fun h => h⟩
theorem KeptAll.trans (h : KeptAll n0 A B) (k : KeptAll n0 B C) : KeptAll n0 A C :=
 ⟨Nat.le_trans h.size k.size, fun i o hi hn => k.kept i o (h.kept i o hi hn) (fun e => hn (h.old i e (getElem?_lt hi))),
  fun i e hi => h.old i (k.old i e (Nat.lt_of_lt_of_le hi h.size)) hi, fun hA => k.lt (h.lt hA)⟩
theorem KeptAll.grown {row : Option Nat} (h : KeptAll n0 A B) (hn : n0 < A.heap.size) (hg : B.grownBy C row) (hr : ∀ r, row = some r → A.heap.size ≤ r) : KeptAll n0 A C := by
 have e : C.heap[n0]? = B.heap[n0]? := hg.block n0 (Nat.lt_of_lt_of_le hn h.size) (fun e => by have := hr n0 e.symm; omega)
 refine ⟨Nat.le_trans h.size hg.size, fun k o hk hno => ?_, fun k hk hl => h.old k ((OwnN.iff e k).1 hk) hl, fun hA k hk => Nat.lt_of_lt_of_le (h.lt hA k ((OwnN.iff e k).1 hk)) hg.size⟩
 have hb := h.kept k o hk hno
 rw [hg.block k (getElem?_lt hb) (fun e => by have := hr k e.symm; have := getElem?_lt hk; omega)]
 exact hb
theorem KeptAll.nil (h : Keeps Nil A B) (hn : n0 < A.heap.size) : KeptAll n0 A B := by
 have e : B.heap[n0]? = A.heap[n0]? := h.block n0 hn (fun e => e)
 exact ⟨h.size, fun k o hk _ => h.at hk (fun e => e), fun k hk _ => (OwnN.iff e k).1 hk, fun hA k hk => Nat.lt_of_lt_of_le (hA k ((OwnN.iff e k).1 hk)) h.size⟩
theorem KeptAll.on (h : KeptAll n0 A B) {R : Nat → Prop} (hR : ∀ k, R k → k < A.heap.size ∧ ¬ OwnN n0 A k) : KeptOn R A B := fun k hk => by
 obtain ⟨h1, h2⟩ := hR k hk
 rw [Array.getElem?_eq_getElem h1]
 exact h.kept k _ (Array.getElem?_eq_getElem h1) h2
end
theorem RoundIn.wide {n m : Nat} {P : Program} {l f : Nat} {tmps : Array Value} {assign body : Code} {w : World} {R : Ending → World → Prop} (h : RoundIn Fence.wide n P l f tmps assign body w R) : RoundIn Fence.wide m P l f tmps assign body w R :=
  ⟨h.1, fun c cs _ => h.2 c cs (room_wide _)⟩
end
section
open Go
theorem ask_drawn {α : Type} (a : Ask α) : ∀ w : World, w.drawn ≤ (w.ask a).2.drawn := by
 induction a with
 | done a => intro w; exact Nat.le_refl _
 | ask what range k ih =>
   intro w
   simp only [World.ask]
   split
   · exact ih _ _
   · exact Nat.le_trans (Nat.le_succ _) (ih _ { w with drawn := w.drawn + 1 })
theorem sys_drawn (w : World) (c : Sys) : w.drawn ≤ (w.sys c).2.drawn := by
 have h := ask_drawn (Kernel.perform c w.os) w
 unfold World.sys
 split
 · exact Nat.le_refl _
 · next r os w' e => rw [e] at h; exact h
def resW {α : Type} : Result α → World
 | .ok _ w => w
 | .halt _ w => w
theorem viewStore_drawn {p : Program} {w w' : World} {at_ : Addr} {u : TypeId} {k : Addr} {v : Value} {b : Bool} {l : List Addr} (h : w.viewStore p at_ u k v b = .ok (w', l)) : w'.drawn = w.drawn := by
 unfold World.viewStore at h
 simp only [bind, Except.bind, pure, Except.pure] at h
 repeat (first | (cases h; rfl) | (split at h) | (cases h))
theorem farStore_drawn {p : Program} {w w' : World} {a : Addr} {v : Value} {b : Bool} {l : List Addr} (h : w.farStore p a v b = .ok (w', l)) : w'.drawn = w.drawn := by
 unfold World.farStore at h
 split at h
 ·split at h
  · next r e => cases h; exact viewStore_drawn e
  · cases h
 ·cases h
theorem freeze_drawn (w : World) (a : Addr) (n : Nat) : (w.freeze a n).drawn = w.drawn := by unfold World.freeze; split <;> rfl
theorem run_drawn {α : Type} (p : Program) (s : Sem α) : ∀ w : World, w.drawn ≤ (resW (s.run p w)).drawn := by
  induction s with
  | pure a => intro w; exact Nat.le_refl _
  | load m a k ih =>
    intro w
    simp only [Sem.run]
    split
    · exact ih _ w
    · split
      · exact ih _ w
      · exact Nat.le_refl _
  | store m a v k ih =>
    intro w
    cases v
    all_goals
      simp only [Sem.run]
      try exact Nat.le_refl _
    all_goals
      split
      · split
        · exact Nat.le_refl _
        · exact ih (w.setCell a _)
      · split
        · next e => rw [← farStore_drawn e]; exact ih _
        · exact Nat.le_refl _
  | new o k ih => intro w; simp only [Sem.run]; exact ih _ { w with heap := w.heap.push o }
  | shape r k ih => intro w; simp only [Sem.run]; exact ih _ w
  | freeze a n k ih => intro w; simp only [Sem.run]; rw [← freeze_drawn w a n]; exact ih _
  | frozen a k ih => intro w; simp only [Sem.run]; exact ih _ w
  | getObj r k ih =>
    intro w
    simp only [Sem.run]
    split
    · exact Nat.le_refl _
    · exact ih _ w
    · exact Nat.le_refl _
  | setObj r o k ih =>
    intro w
    simp only [Sem.run]
    split
    · exact Nat.le_refl _
    · exact ih { w with heap := w.heap.setIfInBounds r o }
    · exact Nat.le_refl _
  | choose q k ih =>
    intro w
    simp only [Sem.run]
    split
    · exact ih _ w
    · exact Nat.le_trans (Nat.le_succ _) (ih _ { w with drawn := w.drawn + 1 })
  | sys c k ih => intro w; simp only [Sem.run]; exact Nat.le_trans (sys_drawn w c) (ih _ _)
  | program k ih => intro w; simp only [Sem.run]; exact ih _ w
  | mark m k ih => intro w; simp only [Sem.run]; exact ih w
  | halt h => intro w; exact Nat.le_refl _
theorem runT_drawn {α : Type} (p : Program) (s : Sem α) : ∀ (w : World) (es : Array Event), w.drawn ≤ (resW (s.runT p w es).1).drawn := by
  induction s with
  | pure a => intro w es; exact Nat.le_refl _
  | load m a k ih =>
    intro w es
    simp only [Sem.runT]
    split
    · exact ih _ w _
    · split
      · exact ih _ w _
      · exact Nat.le_refl _
  | store m a v k ih =>
    intro w es
    cases v
    all_goals
      simp only [Sem.runT]
      try exact Nat.le_refl _
    all_goals
      split
      · split
        · exact Nat.le_refl _
        · exact ih (w.setCell a _) _
      · split
        · next e => rw [← farStore_drawn e]; exact ih _ _
        · exact Nat.le_refl _
  | new o k ih => intro w es; simp only [Sem.runT]; exact ih _ { w with heap := w.heap.push o } _
  | shape r k ih => intro w es; simp only [Sem.runT]; exact ih _ w _
  | freeze a n k ih => intro w es; simp only [Sem.runT]; rw [← freeze_drawn w a n]; exact ih _ _
  | frozen a k ih => intro w es; simp only [Sem.runT]; exact ih _ w _
  | getObj r k ih =>
    intro w es
    simp only [Sem.runT]
    split
    · exact Nat.le_refl _
    · exact ih _ w _
    · exact Nat.le_refl _
  | setObj r o k ih =>
    intro w es
    simp only [Sem.runT]
    split
    · exact Nat.le_refl _
    · exact ih { w with heap := w.heap.setIfInBounds r o } _
    · exact Nat.le_refl _
  | choose q k ih =>
    intro w es
    simp only [Sem.runT]
    split
    · exact ih _ w _
    · exact Nat.le_trans (Nat.le_succ _) (ih _ { w with drawn := w.drawn + 1 } _)
  | sys c k ih => intro w es; simp only [Sem.runT]; exact Nat.le_trans (sys_drawn w c) (ih _ _ _)
  | program k ih => intro w es; simp only [Sem.runT]; exact ih _ w _
  | mark m k ih => intro w es; simp only [Sem.runT]; exact ih w _
  | halt h => intro w es; exact Nat.le_refl _
def stepW : GStep → World
 | .go _ w _ => w
 | .comm _ _ _ _ w _ => w
 | .spawn _ _ w _ => w
 | .count _ w _ => w
 | .timer _ _ w _ => w
 | .alone _ _ w _ => w
 | .newcoro _ _ _ w _ => w
 | .coroswitch _ _ _ w _ => w
 | .collect _ w _ => w
 | .watch _ w _ => w
 | .ended _ w _ => w
theorem stepW_after (es : Array Event) (s : GStep) : stepW (GStep.after es s) = stepW s := by cases s <;> rfl
theorem endPrinting_w (p : Program) (fr : Frame) (v : Value) (w : World) : stepW (endPrinting p fr v w) = w := by
 unfold endPrinting
 dsimp only
 split <;> rfl
theorem run_ok {α : Type} {p : Program} {s : Sem α} {w w' : World} {a : α} (h : s.run p w = .ok a w') : w.drawn ≤ w'.drawn := by have := run_drawn p s w; rw [h] at this; exact this
theorem run_halt {α : Type} {p : Program} {s : Sem α} {w w' : World} {a : Halt} (h : s.run p w = .halt a w') : w.drawn ≤ w'.drawn := by have := run_drawn p s w; rw [h] at this; exact this
theorem runT_ok {α : Type} {p : Program} {s : Sem α} {w w' : World} {a : α} {es es' : Array Event} (h : s.runT p w es = (.ok a w', es')) : w.drawn ≤ w'.drawn := by have := runT_drawn p s w es; rw [h] at this; exact this
theorem runT_halt {α : Type} {p : Program} {s : Sem α} {w w' : World} {a : Halt} {es es' : Array Event} (h : s.runT p w es = (.halt a w', es')) : w.drawn ≤ w'.drawn := by have := runT_drawn p s w es; rw [h] at this; exact this
theorem sys_at {w w' : World} {c : Sys} {r : SysRet} (h : w.sys c = (r, w')) : w.drawn ≤ w'.drawn := by have := sys_drawn w c; rw [h] at this; exact this
theorem ite_w {c : Prop} [Decidable c] {s t : GStep} {n : Nat} (hs : n ≤ (stepW s).drawn) (ht : n ≤ (stepW t).drawn) : n ≤ (stepW (if c then s else t)).drawn := by split <;> assumption
theorem after_w {es : Array Event} {s : GStep} {n : Nat} (h : n ≤ (stepW s).drawn) : n ≤ (stepW (GStep.after es s)).drawn := by rw [stepW_after]; exact h
theorem endWith_drawn (w : World) (fd : Nat) (t : ByteArray) (o : Outcome) : w.drawn ≤ (stepW (endWith w fd t o)).drawn := by
 unfold endWith
 dsimp only
 split
 · refine ite_w ?_ ?_ <;> exact sys_at (by assumption)
 · exact sys_at (by assumption)
 · exact sys_at (by assumption)
theorem endFatal_drawn (p : Program) (fr : Frame) (cs : List Frame) (d : Option Dying) (m : String) (w : World) : w.drawn ≤ (stepW (endFatal p fr cs d m w)).drawn := by
 unfold endFatal
 dsimp only
 split
 · exact run_ok (by assumption)
 · exact run_halt (by assumption)
 · exact run_halt (by assumption)
theorem doReturn_w (p : Program) (main : Bool) (fr : Frame) (cs : List Frame) (d : Option Dying) (v : Value) (w : World) : stepW (doReturn p main fr cs d v w) = w := by
 unfold doReturn
 repeat' split
 all_goals rfl
theorem callDeferred_drawn (p : Program) (fr : Frame) (cs : List Frame) (dy : Option Dying) (d : Deferred) (w : World) : w.drawn ≤ (stepW (callDeferred p fr cs dy d w)).drawn := by
 unfold callDeferred
 refine ite_w (Nat.le_refl _) ?_
 have h := runT_drawn p (invoke d.target d.args) w #[]
 generalize (invoke d.target d.args).runT p w #[] = x at h ⊢
 rcases x with ⟨r, es⟩
 dsimp only at h ⊢
 refine after_w ?_
 split
 all_goals first | exact h | (split <;> exact h) | exact Nat.le_trans h (endFatal_drawn _ _ _ _ _ _)
theorem unwind_drawn (p : Program) (main : Bool) (fr : Frame) (cs : List Frame) (dy : Option Dying) (w : World) : w.drawn ≤ (stepW (unwind p main fr cs dy w)).drawn := by
  unfold unwind
  split
  · next b _ ds _ =>
    have h := runT_drawn p (Instr.takeDeferred b) w #[]
    generalize (Instr.takeDeferred b).runT p w #[] = x at h ⊢
    rcases x with ⟨r, es⟩
    dsimp only at h ⊢
    refine after_w ?_
    split <;> exact h
  · exact callDeferred_drawn _ _ _ _ _ _
  · split
    · exact Nat.le_refl _
    · refine ite_w (Nat.le_refl _) ?_
      split
      · exact Nat.le_refl _
      · split
        · refine ite_w (Nat.le_refl _) ?_
          split
          · exact run_ok (by assumption)
          · exact run_halt (by assumption)
          · exact run_halt (by assumption)
        · split
          · rw [endPrinting_w]; exact Nat.le_refl _
          · exact Nat.le_refl _
    · split
      · rw [doReturn_w]; exact Nat.le_refl _
      · next fn _ =>
        have h := runT_drawn p (results fn fr.tmps) w #[]
        generalize (results fn fr.tmps).runT p w #[] = x at h ⊢
        rcases x with ⟨r, es⟩
        dsimp only at h ⊢
        refine after_w ?_
        split
        · rw [doReturn_w]; exact h
        · exact h
        · exact h
theorem early_drawn (p : Program) (fr : Frame) (cs : List Frame) (dy : Option Dying) (g : Nat) (w : World) : w.drawn ≤ (stepW (early p fr cs dy g w)).drawn := by
 unfold early
 dsimp only
 repeat' split
 all_goals first | exact Nat.le_refl _ | exact run_halt (by assumption) | exact run_ok (by assumption) | (rename_i e; have h9 := run_ok e; exact h9) | (rename_i e _; have h9 := run_ok e; exact h9) | (rename_i e _ _; have h9 := run_ok e; exact h9) | (rename_i e _ _ _; have h9 := run_ok e; exact h9) | (rename_i e _ _ _ _; have h9 := run_ok e; exact h9) | (rename_i e _ _ _ _ _; have h9 := run_ok e; exact h9)
theorem writeOn_drawn (p : Program) (fr : Frame) (d : Dying) (f : Fatal) (w : World) : w.drawn ≤ (stepW (writeOn p fr d f w)).drawn := by
 unfold writeOn
 dsimp only
 split
 ·exact Nat.le_refl _
 ·split
  all_goals first | exact runT_ok (by assumption) | exact runT_halt (by assumption)
theorem die_drawn (p : Program) (fr : Frame) (d : Dying) (w : World) : w.drawn ≤ (stepW (die p fr d w)).drawn := by
  unfold die
  dsimp only
  split
  · exact writeOn_drawn _ _ _ _ _
  · split
    · refine ite_w (Nat.le_refl _) (endWith_drawn _ _ _ _)
    · next v mark rest _ =>
      split
      · exact Nat.le_refl _
      · split
        · exact run_ok (by assumption)
        · exact run_halt (by assumption)
      · next t recv name _ =>
        have h := runT_drawn p (invoke (.fn (.method name) #[]) #[.iface t recv]) w #[]
        generalize (invoke (.fn (.method name) #[]) #[.iface t recv]).runT p w #[] = x at h ⊢
        rcases x with ⟨r, es⟩
        dsimp only at h ⊢
        refine after_w ?_
        split
        all_goals first | exact h | (rw [endPrinting_w]; exact h) | exact Nat.le_refl _
      · exact Nat.le_refl _
theorem apply_drawn (p : Program) (_main : Bool) (listen : Bool) (fr : Frame) (cs : List Frame) (dy : Option Dying) (s : Sem Next) (w : World) : w.drawn ≤ (stepW (stepG.apply p listen fr cs dy s w)).drawn := by
 unfold stepG.apply
 dsimp only
 have h : w.drawn ≤ (resW (if listen = true then s.runT p w #[] else (s.run p w, #[])).1).drawn := by
  split
  · exact runT_drawn p s w #[]
  · exact run_drawn p s w
 generalize (if listen = true then s.runT p w #[] else (s.run p w, #[])) = x at h ⊢
 rcases x with ⟨r, es⟩
 dsimp only at h ⊢
 refine after_w ?_
 split
 all_goals first | exact h | exact Nat.le_trans h (endFatal_drawn _ _ _ _ _ _) | exact Nat.le_trans h (early_drawn _ _ _ _ _ _) | (split <;> exact h) | (refine ite_w ?_ ?_ <;> exact h) | skip
theorem runT1_ok {α : Type} {p : Program} {s : Sem α} {w w' : World} {a : α} {es : Array Event} (h : (s.runT p w es).1 = .ok a w') : w.drawn ≤ w'.drawn := by have := runT_drawn p s w es; rw [h] at this; exact this
theorem runT1_halt {α : Type} {p : Program} {s : Sem α} {w w' : World} {a : Halt} {es : Array Event} (h : (s.runT p w es).1 = .halt a w') : w.drawn ≤ w'.drawn := by have := runT_drawn p s w es; rw [h] at this; exact this
theorem elim_w {α : Type} {o : Option α} {s : GStep} {f : α → GStep} {n : Nat} (hs : n ≤ (stepW s).drawn) (hf : ∀ a, n ≤ (stepW (f a)).drawn) : n ≤ (stepW (o.elim s f)).drawn := by
 cases o
 · exact hs
 · exact hf _
theorem oper_drawn (p : Program) (listen : Bool) (fr : Frame) (cs : List Frame) (dy : Option Dying) (w : World) : w.drawn ≤ (stepW (stepG.oper p listen fr cs dy w)).drawn := by
 unfold stepG.oper
 split
 · exact Nat.le_refl _
 · split <;> exact apply_drawn _ true _ _ _ _ _ _
theorem exec_drawn (p : Program) (main : Bool) (listen : Bool) (fr : Frame) (cs : List Frame) (dy : Option Dying) (w : World) : w.drawn ≤ (stepW (stepG.exec p main listen fr cs dy w)).drawn := by
 unfold stepG.exec
 dsimp only
 split
 all_goals first | exact Nat.le_refl _ | exact apply_drawn _ true _ _ _ _ _ _ | exact oper_drawn _ _ _ _ _ _ | skip
 all_goals try refine elim_w ?_ (fun _ => ?_)
 all_goals first | exact Nat.le_refl _ | exact apply_drawn _ true _ _ _ _ _ _ | skip
 all_goals try refine ite_w ?_ ?_
 all_goals first | exact Nat.le_refl _ | exact apply_drawn _ true _ _ _ _ _ _ | exact oper_drawn _ _ _ _ _ _ | skip
 all_goals try refine after_w ?_
 all_goals try split
 all_goals first | exact Nat.le_refl _ | exact oper_drawn _ _ _ _ _ _ | exact run_ok (by assumption) | exact run_halt (by assumption) | exact runT1_ok (by assumption) | exact runT1_halt (by assumption) | exact Nat.le_trans (runT1_ok (by assumption)) (apply_drawn _ true _ _ _ _ _ _) | skip
 all_goals try refine ite_w ?_ ?_
 all_goals try exact Nat.le_refl _
 all_goals try refine after_w ?_
 all_goals try split
 all_goals first | exact Nat.le_refl _ | (rw [doReturn_w]; exact runT1_ok (by assumption)) | exact run_ok (by assumption) | exact run_halt (by assumption) | exact runT1_ok (by assumption) | exact runT1_halt (by assumption) | skip
theorem stepG_drawn (p : Program) (main : Bool) (g : Goroutine) (w : World) (listen : Bool) : w.drawn ≤ (stepW (stepG p main g w listen)).drawn := by
 unfold stepG
 dsimp only
 split
 · exact die_drawn _ _ _ _
 · exact exec_drawn _ _ _ _ _ _ _
 · exact unwind_drawn _ _ _ _ _ _
end
end Go.Proofs.YtefpbljekfkefaaGreat
