/- Reads, RReads, Head, HeadF, Ref4, HeadC: merged. -/
import Derived.Test.YtefpbljekfkefaaGreatM04
/- What is read of a Tx: nobody's, or one over a segment. -/
namespace Go.Proofs.YtefpbljekfkefaaGreat
open Go.RowKit

/-- T is a Tx that tells f, over n bytes. -/
structure Reads (T : Value) (f : UInt64 → UInt64) (n : Nat) (w : World) : Prop where
  load : ∀ w', Keeps Nil w w' → ∀ (off : UInt64) (x : Int), x = (off.toNat : Int) → Calls Tryz.prog 29 #[T, .int .u64 x] w' fun e w'' => e = .returned (.int .u64 ↑(f off).toNat) ∧ Keeps Nil w' w''
  size : ∀ w', Keeps Nil w w' → Calls Tryz.prog 97 #[T] w' fun e w'' => e = .returned (.int .u64 (n : Int)) ∧ w' = w''
theorem Reads.keeps {T : Value} {f : UInt64 → UInt64} {n : Nat} {w w' : World} (h : Reads T f n w) (k : Keeps Nil w w') : Reads T f n w' :=
  ⟨fun w'' k' => h.load w'' (k.trans' k'), fun w'' k' => h.size w'' (k.trans' k')⟩
theorem Reads.nil (w : World) : Reads (.pointer none) (fun _ => 0) 0 w :=
  ⟨fun w' _ off x _ => (TxLoad_nil w' x).mono fun e w'' ⟨h, k⟩ => ⟨h, by subst k; exact Keeps.refl _ _⟩, fun w' _ => TxSize_nil w'⟩
theorem Mem.reads {w : World} {s t : Nat} {l : List Put} {ws : List UInt64} {S : Nat → Prop} (h : Mem w s t l ws S) : Reads (.pointer (some ⟨t, 0, none⟩)) (txLoad ws l) (8 * ws.length) w :=
  ⟨fun _ k off x hx => (h.keeps_nil k).load off x hx, fun _ k => (h.keeps_nil k).size⟩
theorem Live.tells {w0 w : World} {s t : Nat} {l : List Put} {ws : List UInt64} {R : World → (Nat → Prop) → Prop} (h : Live w0 w s t l ws R) : Reads (.pointer (some ⟨t, 0, none⟩)) (txLoad ws l) (8 * ws.length) w := by
  obtain ⟨S, h1, _⟩ := h
  exact h1.reads
end Go.Proofs.YtefpbljekfkefaaGreat

/- What is read of the document's Tx; blocks of a call's own. -/
namespace Go.Proofs.YtefpbljekfkefaaGreat
open Go.RowKit

/-- X is the document's Tx, that tells f. -/
structure RReads (X : Value) (f : UInt64 → UInt64) (w : World) : Prop where
  load : ∀ w', Keeps Nil w w' → ∀ (off : UInt64) (x : Int), x = (off.toNat : Int) → Calls Tryz.prog 115 #[X, .int .u64 x] w' fun e w'' => e = .returned (.int .u64 ↑(f off).toNat) ∧ Keeps Nil w' w''
theorem RReads.keeps {X : Value} {f : UInt64 → UInt64} {w w' : World} (h : RReads X f w) (k : Keeps Nil w w') : RReads X f w' := ⟨fun w'' k' => h.load w'' (k.trans' k')⟩

/-- The document's Tx: its words ws, what is thought of l. -/
def TxV (S : Nat → Prop) (w : World) (A B : Value) (ws : List UInt64) (l : List Put) : Prop :=
  0 < ws.length ∧ ws.length ≤ 131072 ∧ View kU S w A ws ∧ View kP S w B l
section
variable {S S' : Nat → Prop} {w w' : World} {A B : Value} {ws : List UInt64} {l : List Put}
theorem TxV.keeps_nil (h : TxV S w A B ws l) (k : Keeps Nil w w') : TxV S w' A B ws l := ⟨h.1, h.2.1, h.2.2.1.keeps_nil k, h.2.2.2.keeps_nil k⟩
theorem TxV.steps (h : TxV S w A B ws l) (k : Step S S' w w') : TxV S' w' A B ws l := ⟨h.1, h.2.1, h.2.2.1.steps k, h.2.2.2.steps k⟩
theorem Stable.txv (A B : Value) (ws : List UInt64) (l : List Put) : Stable (fun w S => TxV S w A B ws l) := fun _ _ _ _ k r => r.steps k
theorem TxV.val (h : TxV S w A B ws l) : ∃ b o c a2 c2, A = .slice (some ⟨b, o, none⟩) ws.length c ∧ B = .slice a2 l.length c2 := by
  obtain ⟨b, o, c, rfl, _⟩ := h.2.2.1.pos h.1
  obtain ⟨a2, c2, rfl, _⟩ := h.2.2.2.val
  exact ⟨b, o, c, a2, c2, rfl, rfl⟩
theorem TxV.rreads (h : TxV S w A B ws l) : RReads (.agg #[A, B]) (txLoad ws l) w := by
  obtain ⟨h1, _, h2, h3⟩ := h
  obtain ⟨b, o, c, rfl, _⟩ := h2.pos h1
  exact ⟨fun w' k off x hx => rTxLoad_any (h2.keeps_nil k) (h3.keeps_nil k) off x hx⟩
theorem TxV.store (h : TxV S w A B ws l) (hS : ∀ k, S k → k < w.heap.size) (hsm : l.length < 4294967296) (off v : UInt64) (x y : Int) (hx : x = (off.toNat : Int)) (hy : y = (v.toNat : Int)) :
    Calls Tryz.prog 131 #[.agg #[A, B], .int .u64 x, .int .u64 y] w fun e w' => ∃ B', e = .returned (.agg #[A, B']) ∧ TxV S w' A B' ws (txStore ws l off v) ∧ Keeps Nil w w' := by
  obtain ⟨h1, h1', h2, h3⟩ := h
  obtain ⟨b, o, c, rfl, _⟩ := h2.pos h1
  refine (rTxStore_any h2 h3 hS hsm off v x y hx hy).mono ?_
  rintro e w' ⟨vP', rfl, hv, k⟩
  exact ⟨vP', rfl, ⟨h1, h1', h2.keeps_nil k, hv⟩, k⟩
end

/-- a block of two, or three, cells behind steps that turn nothing -/
theorem frz {w : World} {m : Nat} {c : Array Value} {T : TypeId} (h : w.heap[m]? = some (.cells c T (0, 0))) (o : Nat) : w.frozen? ⟨m, o, none⟩ = false := by simp [World.frozen?, h]
theorem setRow3 {w : World} {m : Nat} {a b c x y z : Value} {T : TypeId} (h : w.heap[m]? = some (.cells #[a, b, c] T (0, 0))) :
    (((w.setCell ⟨m, 0, none⟩ x).setCell ⟨m, 1, none⟩ y).setCell ⟨m, 2, none⟩ z).heap[m]? = some (.cells #[x, y, z] T (0, 0)) := by
  have := heap_setCell_eq (heap_setCell_eq (heap_setCell_eq h 0 x) 1 y) 2 z
  simpa using this
theorem setRow2 {w : World} {m : Nat} {a b x y : Value} {T : TypeId} (h : w.heap[m]? = some (.cells #[a, b] T (0, 0))) :
    ((w.setCell ⟨m, 0, none⟩ x).setCell ⟨m, 1, none⟩ y).heap[m]? = some (.cells #[x, y] T (0, 0)) := by
  have := heap_setCell_eq (heap_setCell_eq h 0 x) 1 y
  simpa using this
theorem keepsRow3 {w0 w : World} (k : Keeps Nil w0 w) {m : Nat} (hm : w0.heap.size ≤ m) (x y z : Value) : Keeps Nil w0 (((w.setCell ⟨m, 0, none⟩ x).setCell ⟨m, 1, none⟩ y).setCell ⟨m, 2, none⟩ z) :=
  ((k.setNew (a := ⟨m, 0, none⟩) hm x).setNew (a := ⟨m, 1, none⟩) hm y).setNew (a := ⟨m, 2, none⟩) hm z
theorem keepsRow2 {w0 w : World} (k : Keeps Nil w0 w) {m : Nat} (hm : w0.heap.size ≤ m) (x y : Value) : Keeps Nil w0 ((w.setCell ⟨m, 0, none⟩ x).setCell ⟨m, 1, none⟩ y) :=
  (k.setNew (a := ⟨m, 0, none⟩) hm x).setNew (a := ⟨m, 1, none⟩) hm y
end Go.Proofs.YtefpbljekfkefaaGreat

/- Layer 4 (head) and its reference: a size that fits, the checksum. -/
namespace Go.Proofs.YtefpbljekfkefaaGreat
open Go.RowKit

def magicU : UInt64 := 7161130718081542961
def goldU : UInt64 := 11400714819323198485
def sumU (x : UInt64) : UInt64 := (magicU ^^^ x) * goldU
def fitsN (a : UInt64) (n : Nat) : Bool := decide (a.toNat % 16 = 0 ∧ 3824 ≤ a.toNat ∧ a.toNat ≤ n)

theorem gold_int : (goldU.toNat : Int) = 11400714819323198485 := by decide
theorem mix_eq (a : UInt64) : IntKind.u64.wrap ((a.toNat : Int) * 11400714819323198485) = ((a * goldU).toNat : Int) := by
  rw [← gold_int]; exact Go.Proofs.YtefpbljekfkefaaGreat.u64_mul a goldU
theorem magic_int : (magicU.toNat : Int) = 7161130718081542961 := by decide
theorem sum_eq (a : UInt64) : bits .xor .u64 7161130718081542961 (a.toNat : Int) = ((magicU ^^^ a).toNat : Int) := by
  rw [← magic_int]; exact Go.Proofs.YtefpbljekfkefaaGreat.u64_xor magicU a
theorem wMix_any (w : World) (a : UInt64) (x : Int) (hx : x = (a.toNat : Int)) :
    Calls Tryz.prog 153 #[.int .u64 x] w fun e w' => e = .returned (.int .u64 ↑(a * goldU).toNat) ∧ w = w' := by
  subst hx
  obtain ⟨r, hr⟩ : ∃ r : Nat, r = (a * goldU).toNat := ⟨_, rfl⟩
  have h1 : IntKind.u64.wrap ((a.toNat : Int) * 11400714819323198485) = (r : Int) := by rw [hr]; exact mix_eq a
  rw [← hr]
  clear hr
  go_enter Tryz.func153, Tryz.ntmps153
  go_wp2_with fail
  go_ret
  exact ⟨rfl, rfl⟩
theorem rMix_any (w : World) (a : UInt64) (x : Int) (hx : x = (a.toNat : Int)) :
    Calls Tryz.prog 190 #[.int .u64 x] w fun e w' => e = .returned (.int .u64 ↑(a * goldU).toNat) ∧ w = w' := by
  subst hx
  obtain ⟨r, hr⟩ : ∃ r : Nat, r = (a * goldU).toNat := ⟨_, rfl⟩
  have h1 : IntKind.u64.wrap ((a.toNat : Int) * 11400714819323198485) = (r : Int) := by rw [hr]; exact mix_eq a
  rw [← hr]
  clear hr
  go_enter Tryz.func190, Tryz.ntmps190
  go_wp2_with fail
  go_ret
  exact ⟨rfl, rfl⟩
theorem Sum_any (w : World) (a : UInt64) (x : Int) (hx : x = (a.toNat : Int)) :
    Calls Tryz.prog 139 #[.int .u64 x] w fun e w' => e = .returned (.int .u64 ↑(sumU a).toNat) ∧ w = w' := by
  subst hx
  have e1 : sumU a = (magicU ^^^ a) * goldU := rfl
  rw [e1]
  clear e1
  obtain ⟨b, hb⟩ : ∃ b, b = magicU ^^^ a := ⟨_, rfl⟩
  have h1 : bits .xor .u64 7161130718081542961 (a.toNat : Int) = (b.toNat : Int) := by rw [hb]; exact sum_eq a
  rw [← hb]
  clear hb
  have HM := Lib.hid (wMix_any w b _ rfl)
  obtain ⟨r, hr⟩ : ∃ r : Nat, r = (b * goldU).toNat := ⟨_, rfl⟩
  rw [← hr] at HM ⊢
  clear hr
  go_enter Tryz.func139, Tryz.ntmps139
  go_wp2_with fail
  refine HM.out.mono ?_
  rintro e _ ⟨rfl, rfl⟩
  go_wp2_with fail
  go_ret
  exact ⟨rfl, rfl⟩
theorem rSum_any (w : World) (a : UInt64) (x : Int) (hx : x = (a.toNat : Int)) :
    Calls Tryz.prog 177 #[.int .u64 x] w fun e w' => e = .returned (.int .u64 ↑(sumU a).toNat) ∧ w = w' := by
  subst hx
  have e1 : sumU a = (magicU ^^^ a) * goldU := rfl
  rw [e1]
  clear e1
  obtain ⟨b, hb⟩ : ∃ b, b = magicU ^^^ a := ⟨_, rfl⟩
  have h1 : bits .xor .u64 7161130718081542961 (a.toNat : Int) = (b.toNat : Int) := by rw [hb]; exact sum_eq a
  rw [← hb]
  clear hb
  have HM := Lib.hid (rMix_any w b _ rfl)
  obtain ⟨r, hr⟩ : ∃ r : Nat, r = (b * goldU).toNat := ⟨_, rfl⟩
  rw [← hr] at HM ⊢
  clear hr
  go_enter Tryz.func177, Tryz.ntmps177
  go_wp2_with fail
  refine HM.out.mono ?_
  rintro e _ ⟨rfl, rfl⟩
  go_wp2_with fail
  go_ret
  exact ⟨rfl, rfl⟩

theorem fits_any (w : World) (a : UInt64) (b : Nat) (x y : Int) (hx : x = (a.toNat : Int)) (hy : y = (b : Int)) :
    Calls Tryz.prog 140 #[.int .u64 x, .int .u64 y] w fun e w' => e = .returned (.bool (fitsN a b)) ∧ w = w' := by
  subst hx hy
  have e1 : IntKind.u64.wrap ((a.toNat : Int) % 16) = (a.toNat : Int) % 16 := IntWalk.u64_in _ (by omega)
  have e2 : IntKind.u64.wrap ((a.toNat : Int).tmod 16) = (a.toNat : Int) % 16 := by rw [Int.tmod_eq_emod_of_nonneg (by omega)]; exact e1
  by_cases h1 : a.toNat % 16 = 0
  · have k1 : (a.toNat : Int) % 16 = 0 := by omega
    by_cases h2 : 3824 ≤ a.toNat
    · have k2 : (3824 : Int) ≤ (a.toNat : Int) := by omega
      by_cases h3 : a.toNat ≤ b
      · have k3 : (a.toNat : Int) ≤ (b : Int) := by omega
        have hf : fitsN a b = true := decide_eq_true ⟨h1, h2, h3⟩
        rw [hf]
        clear hf h1 h2 h3
        go_enter Tryz.func140, Tryz.ntmps140
        go_wp2_with fail
        go_ret
        exact ⟨rfl, rfl⟩
      · have k3 : ¬ (a.toNat : Int) ≤ (b : Int) := by omega
        have hf : fitsN a b = false := decide_eq_false (fun h => h3 h.2.2)
        rw [hf]
        clear hf h1 h2 h3
        go_enter Tryz.func140, Tryz.ntmps140
        go_wp2_with fail
        go_ret
        exact ⟨rfl, rfl⟩
    · have k2 : ¬ (3824 : Int) ≤ (a.toNat : Int) := by omega
      have hf : fitsN a b = false := decide_eq_false (fun h => h2 h.2.1)
      rw [hf]
      clear hf h1 h2
      go_enter Tryz.func140, Tryz.ntmps140
      go_wp2_with fail
      go_ret
      exact ⟨rfl, rfl⟩
  · have k1 : (((a.toNat : Int) % 16) == 0) = false := by rw [beq_eq_false_iff_ne]; omega
    have hf : fitsN a b = false := decide_eq_false (fun h => h1 h.1)
    rw [hf]
    clear hf h1
    go_enter Tryz.func140, Tryz.ntmps140
    go_wp2_with fail
    go_ret
    exact ⟨rfl, rfl⟩
theorem rFits_any (w : World) (a : UInt64) (b : Nat) (x y : Int) (hx : x = (a.toNat : Int)) (hy : y = (b : Int)) :
    Calls Tryz.prog 176 #[.int .u64 x, .int .u64 y] w fun e w' => e = .returned (.bool (fitsN a b)) ∧ w = w' := by
  subst hx hy
  have e1 : IntKind.u64.wrap ((a.toNat : Int) % 16) = (a.toNat : Int) % 16 := IntWalk.u64_in _ (by omega)
  have e2 : IntKind.u64.wrap ((a.toNat : Int).tmod 16) = (a.toNat : Int) % 16 := by rw [Int.tmod_eq_emod_of_nonneg (by omega)]; exact e1
  by_cases h1 : a.toNat % 16 = 0
  · have k1 : (a.toNat : Int) % 16 = 0 := by omega
    by_cases h2 : 3824 ≤ a.toNat
    · have k2 : (3824 : Int) ≤ (a.toNat : Int) := by omega
      by_cases h3 : a.toNat ≤ b
      · have k3 : (a.toNat : Int) ≤ (b : Int) := by omega
        have hf : fitsN a b = true := decide_eq_true ⟨h1, h2, h3⟩
        rw [hf]
        clear hf h1 h2 h3
        go_enter Tryz.func176, Tryz.ntmps176
        go_wp2_with fail
        go_ret
        exact ⟨rfl, rfl⟩
      · have k3 : ¬ (a.toNat : Int) ≤ (b : Int) := by omega
        have hf : fitsN a b = false := decide_eq_false (fun h => h3 h.2.2)
        rw [hf]
        clear hf h1 h2 h3
        go_enter Tryz.func176, Tryz.ntmps176
        go_wp2_with fail
        go_ret
        exact ⟨rfl, rfl⟩
    · have k2 : ¬ (3824 : Int) ≤ (a.toNat : Int) := by omega
      have hf : fitsN a b = false := decide_eq_false (fun h => h2 h.2.1)
      rw [hf]
      clear hf h1 h2
      go_enter Tryz.func176, Tryz.ntmps176
      go_wp2_with fail
      go_ret
      exact ⟨rfl, rfl⟩
  · have k1 : (((a.toNat : Int) % 16) == 0) = false := by rw [beq_eq_false_iff_ne]; omega
    have hf : fitsN a b = false := decide_eq_false (fun h => h1 h.1)
    rw [hf]
    clear hf h1
    go_enter Tryz.func176, Tryz.ntmps176
    go_wp2_with fail
    go_ret
    exact ⟨rfl, rfl⟩
end Go.Proofs.YtefpbljekfkefaaGreat

/- head.Format: all words of a formatted segment. -/
namespace Go.Proofs.YtefpbljekfkefaaGreat
open Go.RowKit

def zeroTo (ws : List UInt64) (k : Nat) : List UInt64 := List.replicate k 0 ++ ws.drop k
theorem zeroTo_zero (ws : List UInt64) : zeroTo ws 0 = ws := by simp [zeroTo]
theorem zeroTo_all (ws : List UInt64) : zeroTo ws ws.length = List.replicate ws.length 0 := by simp [zeroTo]
theorem zeroTo_length {ws : List UInt64} {k : Nat} (h : k ≤ ws.length) : (zeroTo ws k).length = ws.length := by simp [zeroTo]; omega
theorem zeroTo_step {ws : List UInt64} {k : Nat} (hs : ws.length ≤ 131072) (h : k < ws.length) : putW (zeroTo ws k) (offU k) 0 = zeroTo ws (k + 1) := by
  have ho := off_ofNat (k := k) (by omega)
  have hl := zeroTo_length (ws := ws) (k := k) (by omega)
  have hin : inB (zeroTo ws k) (offU k) = true := by rw [inB_iff, ho, hl]; omega
  unfold putW
  rw [if_pos hin, ho, show 8 * k / 8 = k by omega]
  refine List.ext_getElem? (fun i => ?_)
  unfold zeroTo
  by_cases e : i = k
  · subst e
    rw [List.getElem?_set_self (by simp; omega), List.getElem?_append_left (by simp)]
    simp
  · rw [List.getElem?_set_ne (by omega)]
    by_cases e2 : i < k
    · rw [List.getElem?_append_left (by simpa using e2), List.getElem?_append_left (by simp; omega)]
      simp [List.getElem?_replicate, e2]; omega
    · rw [List.getElem?_append_right (by simp; omega), List.getElem?_append_right (by simp; omega)]
      simp only [List.length_replicate, List.getElem?_drop]
      congr 1
      omega

/-- the words of a formatted segment -/
def fmtW (n : Nat) (size : UInt64) : List UInt64 :=
  putW (putW (putW (putW (putW (putW (putW (List.replicate n 0) 0 magicU) 8 1) 16 size) 32 3776) 40 (sumU size)) 3776 (size - 3776)) (size - 8) (size - 3776)
theorem putW_len (ws : List UInt64) (off v : UInt64) : (putW ws off v).length = ws.length := by unfold putW; split <;> simp
theorem fmtW_length (n : Nat) (size : UInt64) : (fmtW n size).length = n := by simp [fmtW, putW_len]

theorem Format1_any {w : World} {p q b : Nat} {ws : List UInt64} (h : SegAt w p q ws) (hb : w.cell? ⟨b, 0, none⟩ = some (.pointer (some ⟨p, 0, none⟩))) (off v : UInt64) (x y : Int) (hx : x = (off.toNat : Int)) (hy : y = (v.toNat : Int)) :
    Calls Tryz.prog 174 #[.int .u64 x, .int .u64 y, .pointer (some ⟨b, 0, none⟩)] w fun e w' => e = .returned (.tuple #[]) ∧ SegAt w' p q (putW ws off v) ∧ Keeps (fun k => k = q) w w' := by
  subst hx hy
  go_enter Tryz.func174, Tryz.ntmps174
  go_wp2_with fail
  refine (Store_any h off v _ _ rfl rfl).mono ?_
  rintro e w' ⟨rfl, h1, h2⟩
  go_wp2_with fail
  refine bodyPost_end (results_none rfl _ _ _) rfl ?_
  exact ⟨rfl, h1, h2⟩

theorem Format_nil (w : World) (size : Int) : Calls Tryz.prog 128 #[.pointer none, .int .u64 size] w fun e w' => e = .returned (.int .i64 1) ∧ Keeps Nil w w' := by
  go_enter Tryz.func128, Tryz.ntmps128
  go_wp2_with fail
  go_ret
  exact ⟨rfl, (Keeps.refl Nil w).alloc _⟩

theorem Format_no {w : World} {p q : Nat} {ws : List UInt64} (h : SegAt w p q ws) (size : UInt64) (x : Int) (hx : x = (size.toNat : Int)) (hf : fitsN size (8 * ws.length) = false) :
    Calls Tryz.prog 128 #[.pointer (some ⟨p, 0, none⟩), .int .u64 x] w fun e w' => e = .returned (.int .i64 2) ∧ Keeps Nil w w' := by
  subst hx
  have HF := Lib.hid hf
  clear hf
  have hs := h.keeps ((Keeps.refl Nil w).alloc (.cells #[.pointer (some ⟨p, 0, none⟩)] 130)) (fun e => e) (fun e => e)
  have HS := Lib.hid (Size_some hs)
  clear hs
  go_enter Tryz.func128, Tryz.ntmps128
  go_wp2_with fail
  refine HS.out.mono ?_
  rintro e w' ⟨rfl, rfl⟩
  go_wp2_with fail
  refine (fits_any _ size (8 * ws.length) _ _ rfl (by simp)).mono ?_
  rintro e w' ⟨rfl, rfl⟩
  rw [HF.out]
  go_wp2_with fail
  go_ret
  exact ⟨rfl, (Keeps.refl Nil w).alloc _⟩

set_option maxRecDepth 100000 in
set_option maxHeartbeats 2000000 in
theorem Format_yes {w : World} {p q : Nat} {ws : List UInt64} (h : SegAt w p q ws) (size : UInt64) (x : Int) (hx : x = (size.toNat : Int)) (hf : fitsN size (8 * ws.length) = true) :
    Calls Tryz.prog 128 #[.pointer (some ⟨p, 0, none⟩), .int .u64 x] w fun e w' => e = .returned (.int .i64 0) ∧ SegAt w' p q (fmtW ws.length size) ∧ Keeps (fun k => k = q) w w' := by
  subst hx
  have HF := Lib.hid hf
  clear hf
  have hsz : ws.length ≤ 131072 := h.2.1
  have hpl := h.lt.1
  have hql := h.lt.2
  obtain ⟨W, hW⟩ : ∃ W : World, W = w.alloc (.cells #[.pointer (some ⟨p, 0, none⟩)] 130) := ⟨_, rfl⟩
  have hWk : Keeps Nil w W := by rw [hW]; exact (Keeps.refl Nil w).alloc _
  have hWc : W.heap[w.heap.size]? = some (.cells #[.pointer (some ⟨p, 0, none⟩)] 130 (0, 0)) := by rw [hW]; exact heap_new _ _
  have hs := h.keeps hWk (fun e => e) (fun e => e)
  have HS := Lib.hid (And.intro hs (And.intro hWk hWc))
  have HW := Lib.hid hW
  have hm := u64_sub size 3776
  have hm2 := u64_sub size 8
  have hm' : IntKind.u64.wrap ((size.toNat : Int) - 3776) = ((size - 3776).toNat : Int) := hm
  have hm2' : IntKind.u64.wrap ((size.toNat : Int) - 8) = ((size - 8).toNat : Int) := hm2
  clear hs hWk hWc hm hm2 h hW
  go_enter Tryz.func128, Tryz.ntmps128
  go_wp2_with fail
  rw [← HW.out]
  refine (Size_some HS.out.1).mono ?_
  rintro e w' ⟨rfl, rfl⟩
  go_wp2_with fail
  refine (fits_any _ size (8 * ws.length) _ _ rfl (by simp)).mono ?_
  rintro e w' ⟨rfl, rfl⟩
  rw [HF.out]
  go_wp2_with fail
  go_loopw [5] (fun o wr => ∃ k : Nat, k ≤ ws.length ∧ o = .int .u64 ((8 * k : Nat) : Int) ∧ wr.cell? ⟨w.heap.size, 0, none⟩ = some (.pointer (some ⟨p, 0, none⟩)) ∧ Hid (SegAt wr p q (zeroTo ws k) ∧ Keeps (fun k => k = q) W wr)) (fun o _ => 8 * ws.length - (intOf o).toNat)
  case atStart => exact ⟨0, by omega, rfl, cell_of_one HS.out.2.2, by rw [zeroTo_zero]; exact HS.out.1, Keeps.refl _ _⟩
  case round =>
    obtain ⟨k, hk, rfl, hc, HR⟩ := hrel
    have hzl := Lib.hid (zeroTo_length hk)
    have HSz := Lib.hid (Size_some HR.out.1)
    by_cases hlt : k < ws.length
    · have HO := Lib.hid (off_ofNat (k := k) (by omega))
      go_wp2_with fail
      refine HSz.out.mono ?_
      rintro e w' ⟨rfl, rfl⟩
      rw [hzl.out]
      go_wp2_with fail
      refine (Store_any HR.out.1 (offU k) 0 _ _ (by rw [HO.out]; simp) (by rfl)).mono ?_
      rintro e w1 ⟨rfl, h1, h2⟩
      rw [zeroTo_step hsz hlt] at h1
      have hc1 := (h2.cell (b := w.heap.size) (World.block_lt_of_cell? _ _ hc) (by omega) 0).trans hc
      have HR1 := Lib.hid (And.intro h1 (HR.out.2.trans' h2))
      clear h1 h2
      go_wp2_with fail
      go_roundw
      case rel => exact ⟨k + 1, by omega, by go_num, hc1, HR1.out⟩
      case measure => simp [intOf]; omega
    · have hke : k = ws.length := by omega
      subst hke
      obtain ⟨h1, h2⟩ := HR.out
      rw [zeroTo_all] at h1
      have hB : w.heap.size < wr.heap.size := World.block_lt_of_cell? _ _ hc
      have hne : w.heap.size ≠ q := by omega
      have HA := Lib.hid (And.intro h1 h2)
      clear h1 h2
      go_wp2_with fail
      refine HSz.out.mono ?_
      rintro e w' ⟨rfl, rfl⟩
      rw [hzl.out]
      go_wp2_with fail
      refine (Format1_any HA.out.1 hc 0 magicU _ _ (by rfl) (by rfl)).mono ?_
      rintro e w1 ⟨rfl, h1, h2⟩
      have c1 := (h2.cell hB hne 0).trans hc
      have H1 := Lib.hid (And.intro h1 (And.intro (HA.out.2.trans' h2) h2.size))
      clear h1 h2 hc
      go_wp2_with fail
      refine (Format1_any H1.out.1 c1 8 1 _ _ (by rfl) (by rfl)).mono ?_
      rintro e w2 ⟨rfl, h1, h2⟩
      have c2 := (h2.cell (Nat.lt_of_lt_of_le hB H1.out.2.2) hne 0).trans c1
      have H2 := Lib.hid (And.intro h1 (And.intro (H1.out.2.1.trans' h2) (Nat.le_trans H1.out.2.2 h2.size)))
      clear h1 h2 c1
      go_wp2_with fail
      refine (Format1_any H2.out.1 c2 16 size _ _ (by rfl) (by rfl)).mono ?_
      rintro e w3 ⟨rfl, h1, h2⟩
      have c3 := (h2.cell (Nat.lt_of_lt_of_le hB H2.out.2.2) hne 0).trans c2
      have H3 := Lib.hid (And.intro h1 (And.intro (H2.out.2.1.trans' h2) (Nat.le_trans H2.out.2.2 h2.size)))
      clear h1 h2 c2
      go_wp2_with fail
      refine (Format1_any H3.out.1 c3 32 3776 _ _ (by rfl) (by rfl)).mono ?_
      rintro e w4 ⟨rfl, h1, h2⟩
      have c4 := (h2.cell (Nat.lt_of_lt_of_le hB H3.out.2.2) hne 0).trans c3
      have H4 := Lib.hid (And.intro h1 (And.intro (H3.out.2.1.trans' h2) (Nat.le_trans H3.out.2.2 h2.size)))
      clear h1 h2 c3
      go_wp2_with fail
      refine (Sum_any _ size _ rfl).mono ?_
      rintro e w' ⟨rfl, rfl⟩
      go_wp2_with fail
      refine (Format1_any H4.out.1 c4 40 (sumU size) _ _ (by rfl) (by rfl)).mono ?_
      rintro e w5 ⟨rfl, h1, h2⟩
      have c5 := (h2.cell (Nat.lt_of_lt_of_le hB H4.out.2.2) hne 0).trans c4
      have H5 := Lib.hid (And.intro h1 (And.intro (H4.out.2.1.trans' h2) (Nat.le_trans H4.out.2.2 h2.size)))
      clear h1 h2 c4
      go_wp2_with fail
      refine (Format1_any H5.out.1 c5 3776 (size - 3776) _ _ (by rfl) (by rfl)).mono ?_
      rintro e w6 ⟨rfl, h1, h2⟩
      have c6 := (h2.cell (Nat.lt_of_lt_of_le hB H5.out.2.2) hne 0).trans c5
      have H6 := Lib.hid (And.intro h1 (And.intro (H5.out.2.1.trans' h2) (Nat.le_trans H5.out.2.2 h2.size)))
      clear h1 h2 c5
      go_wp2_with fail
      refine (Format1_any H6.out.1 c6 (size - 8) (size - 3776) _ _ (by rfl) (by rfl)).mono ?_
      rintro e w7 ⟨rfl, h1, h2⟩
      have H7 := Lib.hid (And.intro h1 (H6.out.2.1.trans' h2))
      clear h1 h2 c6
      go_wp2_with fail
      go_ret
      exact ⟨rfl, H7.out.1, (HS.out.2.1.of_nil).trans' H7.out.2⟩
end Go.Proofs.YtefpbljekfkefaaGreat

/- carrackref04: Format and Check. -/
namespace Go.Proofs.YtefpbljekfkefaaGreat
open Go.RowKit

def fmtR (n : Nat) (size : UInt64) : List UInt64 :=
  (((((((List.replicate n 0).set 0 magicU).set 1 1).set 2 size).set 4 3776).set 5 (sumU size)).set 472 (size - 3776)).set (size.toNat / 8 - 1) (size - 3776)
theorem fmtR_length (n : Nat) (size : UInt64) : (fmtR n size).length = n := by simp [fmtR]
theorem fits_spec {a : UInt64} {n : Nat} (h : fitsN a n = true) : a.toNat % 16 = 0 ∧ 3824 ≤ a.toNat ∧ a.toNat ≤ n := of_decide_eq_true h
theorem putW_set {ws : List UInt64} {off v : UInt64} {i : Nat} (ho : off.toNat = 8 * i) (hi : i < ws.length) : putW ws off v = ws.set i v := by
  have hin : inB ws off = true := by rw [inB_iff, ho]; omega
  unfold putW
  rw [if_pos hin, ho, show 8 * i / 8 = i by omega]
theorem fmt_same {n : Nat} {size : UInt64} (h : fitsN size (8 * n) = true) : fmtW n size = fmtR n size := by
  obtain ⟨h1, h2, h3⟩ := fits_spec h
  have hn : 478 ≤ n := by omega
  have hs : (size - 8).toNat = 8 * (size.toNat / 8 - 1) := by
    have : (8 : UInt64) ≤ size := by rw [UInt64.le_iff_toNat_le]; simp; omega
    rw [UInt64.toNat_sub_of_le _ _ this]; simp; omega
  unfold fmtW fmtR
  rw [putW_set (off := 0) (i := 0) (by decide) (by simp; omega), putW_set (off := 8) (i := 1) (by decide) (by simp; omega), putW_set (off := 16) (i := 2) (by decide) (by simp; omega), putW_set (off := 32) (i := 4) (by decide) (by simp; omega),
    putW_set (off := 40) (i := 5) (by decide) (by simp; omega), putW_set (off := 3776) (i := 472) (by decide) (by simp; omega), putW_set (off := size - 8) (i := size.toNat / 8 - 1) hs (by simp; omega)]

theorem Own.setU' {w : World} {base g cap n : Nat} {l : List UInt64} (h : Own kU w base (.slice (some ⟨g, 0, none⟩) n cap) l) (hn : l.length = n) (i : Nat) (x : UInt64) (y : Int) (hy : y = (x.toNat : Int)) (hi : i < n) :
    Own kU (w.setCell ⟨g, i, none⟩ (.int .u64 y)) base (.slice (some ⟨g, 0, none⟩) n cap) (l.set i x) := by
  subst hn hy
  exact h.setU i x hi
theorem Own.cellU' {w : World} {base g cap n : Nat} {l : List UInt64} (h : Own kU w base (.slice (some ⟨g, 0, none⟩) n cap) l) (hn : l.length = n) (i : Nat) (hi : i < n) :
    (∃ v, w.cell? ⟨g, i, none⟩ = some v) ∧ w.frozen? ⟨g, i, none⟩ = false := by
  subst hn
  exact ⟨⟨_, (h.cellU i hi).1⟩, (h.cellU i hi).2⟩

theorem rFormat_no (w : World) (all : UInt64) (h : mayB all = false) (x y : Int) (hx : x = (all.toNat : Int)) :
    Calls Tryz.prog 129 #[.int .u64 x, .int .u64 y] w fun e w' => e = .returned (.tuple #[.slice none 0 0, .int .i64 1]) ∧ w = w' := by
  have RM := Lib.hid (rNew_no w all h x hx)
  clear h hx
  go_enter Tryz.func129, Tryz.ntmps129
  go_wp2_with fail
  refine RM.out.mono ?_
  rintro e w' ⟨rfl, rfl⟩
  go_wp2_with fail
  go_ret2
  exact ⟨rfl, rfl⟩

theorem rFormat_odd (w : World) (all size : UInt64) (h : mayB all = true) (hf : fitsN size all.toNat = false) (x y : Int) (hx : x = (all.toNat : Int)) (hy : y = (size.toNat : Int)) :
    Calls Tryz.prog 129 #[.int .u64 x, .int .u64 y] w fun e w' => ∃ v, e = .returned (.tuple #[v, .int .i64 2]) ∧ Own kU w' w.heap.size v (List.replicate (all.toNat / 8) 0) ∧ Keeps Nil w w' := by
  have RM := Lib.hid (rNew_yes w all h x hx)
  have hpos : 0 < all.toNat / 8 := by simp [mayB] at h; omega
  have HF := Lib.hid hf
  obtain ⟨n, hn⟩ : ∃ n, n = all.toNat / 8 := ⟨_, rfl⟩
  rw [← hn] at hpos
  have HN := Lib.hid hn
  have HX := Lib.hid hx
  have HY := Lib.hid hy
  clear h hx hf hn hy
  go_enter Tryz.func129, Tryz.ntmps129
  go_wp2_with fail
  refine RM.out.mono ?_
  rintro e w1 ⟨rfl, ho, hk⟩
  rw [← HN.out] at ho ⊢
  go_wp2_with fail
  refine (rFits_any _ size all.toNat _ _ HY.out HX.out).mono ?_
  rintro e w' ⟨rfl, rfl⟩
  rw [HF.out]
  go_wp2_with fail
  go_ret2
  exact ⟨_, rfl, by rw [← HN.out]; exact ho, hk⟩

set_option maxRecDepth 100000 in
set_option maxHeartbeats 1000000 in
theorem rFormat_yes (w : World) (all size : UInt64) (h : mayB all = true) (hf : fitsN size all.toNat = true) (x y : Int) (hx : x = (all.toNat : Int)) (hy : y = (size.toNat : Int)) :
    Calls Tryz.prog 129 #[.int .u64 x, .int .u64 y] w fun e w' => ∃ v, e = .returned (.tuple #[v, .int .i64 0]) ∧ Own kU w' w.heap.size v (fmtR (all.toNat / 8) size) ∧ Keeps Nil w w' := by
  have RM := Lib.hid (rNew_yes w all h x hx)
  obtain ⟨g1, g2, g3⟩ := fits_spec hf
  obtain ⟨n, hn⟩ : ∃ n, n = all.toNat / 8 := ⟨_, rfl⟩
  have hall := all.toNat_lt
  have hn9 : n ≤ 9223372036854775807 := by omega
  have hpos : 478 ≤ n := by omega
  obtain ⟨m, hm⟩ : ∃ m, m = size.toNat / 8 - 1 := ⟨_, rfl⟩
  have hmn : m < n := by omega
  have hm1 : 472 < m := by omega
  have e1 : IntKind.u64.wrap ((size.toNat : Int) / 8) = (m : Int) + 1 := by rw [IntWalk.u64_in _ (by omega)]; omega
  have e2 : IntKind.u64.wrap ((m : Int) + 1 - 1) = (m : Int) := by rw [IntWalk.u64_in _ (by omega)]; omega
  have e3 : IntKind.u64.wrap ((size.toNat : Int) - 3776) = ((size - 3776).toNat : Int) := u64_sub size 3776
  have HF := Lib.hid hf
  have HN := Lib.hid hn
  have HM := Lib.hid hm
  have HX := Lib.hid hx
  subst hy
  clear h hx hf hn g1 g2 g3 hall hm
  go_enter Tryz.func129, Tryz.ntmps129
  go_wp2_with fail
  refine RM.out.mono ?_
  rintro e w1 ⟨rfl, ho, hk⟩
  rw [← HN.out] at ho ⊢
  have hl : (List.replicate n (0 : UInt64)).length = n := by simp
  have HO := Lib.hid (And.intro ho hk)
  obtain ⟨⟨v0, c0⟩, f0⟩ := ho.cellU' hl 0 (by omega)
  obtain ⟨⟨v1, c1⟩, f1⟩ := ho.cellU' hl 1 (by omega)
  obtain ⟨⟨v2, c2⟩, f2⟩ := ho.cellU' hl 2 (by omega)
  obtain ⟨⟨v4, c4⟩, f4⟩ := ho.cellU' hl 4 (by omega)
  obtain ⟨⟨v5, c5⟩, f5⟩ := ho.cellU' hl 5 (by omega)
  obtain ⟨⟨v6, c6⟩, f6⟩ := ho.cellU' hl 472 (by omega)
  obtain ⟨⟨v7, c7⟩, f7⟩ := ho.cellU' hl m (by omega)
  clear ho hk hl
  go_wp2_with fail
  refine (rFits_any _ size all.toNat _ _ rfl HX.out).mono ?_
  rintro e w' ⟨rfl, rfl⟩
  rw [HF.out]
  go_wp2_with fail
  refine (rSum_any _ size _ rfl).mono ?_
  rintro e w' ⟨rfl, rfl⟩
  go_wp2_with fail
  go_ret2
  obtain ⟨ho, hk⟩ := HO.out
  refine ⟨_, rfl, ?_, ?_⟩
  · rw [← HN.out]
    unfold fmtR
    rw [← HM.out]
    have o0 := Own.setU' ho (by simp) 0 magicU 7161130718081542961 (by decide) (by omega)
    have o1 := Own.setU' o0 (by simp) 1 1 1 (by decide) (by omega)
    have o2 := Own.setU' o1 (by simp) 2 size _ rfl (by omega)
    have o4 := Own.setU' o2 (by simp) 4 3776 3776 (by decide) (by omega)
    have o5 := Own.setU' o4 (by simp) 5 (sumU size) _ rfl (by omega)
    have o6 := Own.setU' o5 (by simp) 472 (size - 3776) _ rfl (by omega)
    exact Own.setU' o6 (by simp) m (size - 3776) _ rfl hmn
  · exact ((((((hk.setNew (a := ⟨w.heap.size, 0, none⟩) (Nat.le_refl _) _).setNew (a := ⟨w.heap.size, 1, none⟩) (Nat.le_refl _) _).setNew (a := ⟨w.heap.size, 2, none⟩) (Nat.le_refl _) _).setNew (a := ⟨w.heap.size, 4, none⟩) (Nat.le_refl _) _).setNew (a := ⟨w.heap.size, 5, none⟩) (Nat.le_refl _) _).setNew (a := ⟨w.heap.size, 472, none⟩) (Nat.le_refl _) _).setNew (a := ⟨w.heap.size, m, none⟩) (Nat.le_refl _) _
end Go.Proofs.YtefpbljekfkefaaGreat

/- head.Check, Size, Root, Resize, Plant. -/
namespace Go.Proofs.YtefpbljekfkefaaGreat
open Go.RowKit

def chkB (n : Nat) (f : UInt64 → UInt64) : Bool := f 0 == magicU && f 8 == 1 && f 40 == sumU (f 16) && fitsN (f 16) n
def codeOf (b : Bool) : Int := if b then 0 else 12
def chkE (n : Nat) (f : UInt64 → UInt64) : Int := codeOf (chkB n f)
theorem same_u64 {a b : UInt64} (h : a = b) : ((a.toNat : Int) != (b.toNat : Int)) = false ∧ ((a.toNat : Int) == (b.toNat : Int)) = true := by subst h; simp
theorem unlike_u64 {a b : UInt64} (h : a ≠ b) : ((a.toNat : Int) != (b.toNat : Int)) = true ∧ ((a.toNat : Int) == (b.toNat : Int)) = false := by
  have := ne_u64 h
  simp only [bne, this]; simp

theorem hSize_any {T : Value} {f : UInt64 → UInt64} {n : Nat} {w : World} (h : Reads T f n w) :
    Calls Tryz.prog 42 #[T] w fun e w' => e = .returned (.int .u64 ↑(f 16).toNat) ∧ Keeps Nil w w' := by
  go_enter Tryz.func42, Tryz.ntmps42
  go_wp2_with fail
  refine (h.load w (Keeps.refl _ _) 16 _ (by rfl)).mono ?_
  rintro e w' ⟨rfl, k⟩
  go_wp2_with fail
  go_ret
  exact ⟨rfl, k⟩
theorem hRoot_any {T : Value} {f : UInt64 → UInt64} {n : Nat} {w : World} (h : Reads T f n w) :
    Calls Tryz.prog 54 #[T] w fun e w' => e = .returned (.int .u64 ↑(f 32).toNat) ∧ Keeps Nil w w' := by
  go_enter Tryz.func54, Tryz.ntmps54
  go_wp2_with fail
  refine (h.load w (Keeps.refl _ _) 32 _ (by rfl)).mono ?_
  rintro e w' ⟨rfl, k⟩
  go_wp2_with fail
  go_ret
  exact ⟨rfl, k⟩

theorem hPlant_nil (w : World) (x : Int) : Calls Tryz.prog 45 #[.pointer none, .int .u64 x] w fun e w' => e = .returned (.tuple #[]) ∧ w = w' := by
  go_enter Tryz.func45, Tryz.ntmps45
  go_wp2_with fail
  refine (TxStore_nil w _ _).mono ?_
  rintro e w' ⟨rfl, rfl⟩
  go_wp2_with fail
  refine bodyPost_end (results_none rfl _ _ _) rfl ?_
  exact ⟨rfl, rfl⟩
theorem hResize_nil (w : World) (a : UInt64) (x : Int) (hx : x = (a.toNat : Int)) : Calls Tryz.prog 99 #[.pointer none, .int .u64 x] w fun e w' => e = .returned (.tuple #[]) ∧ w = w' := by
  have HX := Lib.hid hx
  clear hx
  go_enter Tryz.func99, Tryz.ntmps99
  go_wp2_with fail
  refine (TxStore_nil w _ _).mono ?_
  rintro e w' ⟨rfl, rfl⟩
  go_wp2_with fail
  refine (Sum_any w a _ HX.out).mono ?_
  rintro e w' ⟨rfl, rfl⟩
  go_wp2_with fail
  refine (TxStore_nil w _ _).mono ?_
  rintro e w' ⟨rfl, rfl⟩
  go_wp2_with fail
  refine bodyPost_end (results_none rfl _ _ _) rfl ?_
  exact ⟨rfl, rfl⟩

section
variable {w0 w : World} {s t : Nat} {l : List Put} {ws : List UInt64} {R : World → (Nat → Prop) → Prop}
theorem Live.plant (h : Live w0 w s t l ws R) (hR : Stable R) (off : UInt64) (hlen : l.length < 4294967296) (x : Int) (hx : x = (off.toNat : Int)) :
    Calls Tryz.prog 45 #[.pointer (some ⟨t, 0, none⟩), .int .u64 x] w fun e w' => e = .returned (.tuple #[]) ∧ Live w0 w' s t (txStore ws l 32 off) ws R := by
  have HX := Lib.hid hx
  clear hx
  go_enter Tryz.func45, Tryz.ntmps45
  go_wp2_with fail
  refine (h.store hR 32 off hlen _ _ (by rfl) HX.out).mono ?_
  rintro e w' ⟨rfl, h1⟩
  go_wp2_with fail
  refine bodyPost_end (results_none rfl _ _ _) rfl ?_
  exact ⟨rfl, h1⟩
theorem Live.resize (h : Live w0 w s t l ws R) (hR : Stable R) (size : UInt64) (hlen : l.length < 4294967295) (x : Int) (hx : x = (size.toNat : Int)) :
    Calls Tryz.prog 99 #[.pointer (some ⟨t, 0, none⟩), .int .u64 x] w fun e w' => e = .returned (.tuple #[]) ∧ Live w0 w' s t (txStore ws (txStore ws l 16 size) 40 (sumU size)) ws R := by
  have HX := Lib.hid hx
  have hl2 : (txStore ws l 16 size).length < 4294967296 := by have := txStore_length ws l 16 size; omega
  clear hx
  go_enter Tryz.func99, Tryz.ntmps99
  go_wp2_with fail
  refine (h.store hR 16 size (by omega) _ _ (by rfl) HX.out).mono ?_
  rintro e w1 ⟨rfl, h1⟩
  go_wp2_with fail
  refine (Sum_any w1 size _ HX.out).mono ?_
  rintro e w' ⟨rfl, rfl⟩
  go_wp2_with fail
  refine (h1.store hR 40 (sumU size) hl2 _ _ (by rfl) rfl).mono ?_
  rintro e w2 ⟨rfl, h2⟩
  go_wp2_with fail
  refine bodyPost_end (results_none rfl _ _ _) rfl ?_
  exact ⟨rfl, h2⟩
end

/-- what stands in a segment's head -/
def wantC (a : UInt64) (k : Nat) : UInt64 × UInt64 := if k = 0 then (0, magicU) else if k = 1 then (8, 1) else (40, sumU a)
theorem chk_all {n : Nat} {f : UInt64 → UInt64} (h : ∀ j, j < 3 → f (wantC (f 16) j).1 = (wantC (f 16) j).2) : chkB n f = fitsN (f 16) n := by
  have h0 := h 0 (by omega)
  have h1 := h 1 (by omega)
  have h2 := h 2 (by omega)
  simp only [wantC] at h0 h1 h2
  simp at h0 h1 h2
  simp [chkB, h0, h1, h2]
theorem chk_not {n : Nat} {f : UInt64 → UInt64} {j : Nat} (hj : j < 3) (h : f (wantC (f 16) j).1 ≠ (wantC (f 16) j).2) : chkB n f = false := by
  obtain rfl | rfl | rfl : j = 0 ∨ j = 1 ∨ j = 2 := by omega
  all_goals simp [wantC] at h; simp [chkB, h]

set_option maxRecDepth 100000 in
set_option maxHeartbeats 2000000 in
theorem hCheck_any {T : Value} {f : UInt64 → UInt64} {n : Nat} {w : World} (h : Reads T f n w) :
    Calls Tryz.prog 84 #[T] w fun e w' => e = .returned (.int .i64 (chkE n f)) ∧ Keeps Nil w w' := by
  obtain ⟨a, ha⟩ : ∃ a, a = f 16 := ⟨_, rfl⟩
  have HA := Lib.hid ha
  have H := Lib.hid h
  clear ha h
  go_enter Tryz.func84, Tryz.ntmps84
  go_wp2_with fail
  refine (H.out.load w (Keeps.refl _ _) 16 _ (by rfl)).mono ?_
  rintro e w1 ⟨rfl, k1⟩
  rw [← HA.out]
  have K1 := Lib.hid k1
  clear k1
  go_wp2_with fail
  refine (Sum_any w1 a _ rfl).mono ?_
  rintro e w' ⟨rfl, rfl⟩
  go_wp2_with fail
  have K2 := Lib.hid (K1.out.alloc (.cells #[Value.int IntKind.u64 0, Value.int IntKind.u64 7161130718081542961, Value.int IntKind.u64 8, Value.int IntKind.u64 1, Value.int IntKind.u64 40, Value.int IntKind.u64 ↑(sumU a).toNat] 188))
  go_loopw [16] (fun i wr => ∃ k : Nat, k ≤ 3 ∧ i = .int .i64 (k : Int) ∧ Hid (Keeps Nil w wr ∧ ∀ j, j < k → f (wantC a j).1 = (wantC a j).2)) (fun i _ => 3 - (intOf i).toNat)
  case atStart => exact ⟨0, by omega, rfl, K2.out, fun j hj => by omega⟩
  case round =>
    obtain ⟨k, hk, rfl, HR⟩ := hrel
    by_cases hlt : k < 3
    · obtain ⟨c, d, hcd, hi⟩ : ∃ c d, wantC a k = (c, d) ∧ ∀ w, (Instr.index 188 (.agg #[Value.int IntKind.u64 0, Value.int IntKind.u64 7161130718081542961, Value.int IntKind.u64 8, Value.int IntKind.u64 1, Value.int IntKind.u64 40, Value.int IntKind.u64 ↑(sumU a).toNat]) (.int .i64 (k : Int))).run Tryz.prog w = .ok (.agg #[.int .u64 (c.toNat : Int), .int .u64 (d.toNat : Int)]) w := by
        obtain rfl | rfl | rfl : k = 0 ∨ k = 1 ∨ k = 2 := by omega
        · exact ⟨0, magicU, rfl, fun w => by kernel_rfl⟩
        · exact ⟨8, 1, rfl, fun w => by kernel_rfl⟩
        · exact ⟨40, sumU a, rfl, fun w => by kernel_rfl⟩
      have HC := Lib.hid hcd
      clear hcd
      obtain ⟨N, hN⟩ : ∃ N, N = wr.heap.size := ⟨_, rfl⟩
      have HN := Lib.hid hN
      have HL := fun w' (k : Keeps Nil w w') => H.out.load w' k c _ rfl
      have HL' := Lib.hid HL
      clear hN HL
      obtain ⟨wb, hwb⟩ : ∃ wb, wb = wr.alloc (.cells #[Value.int IntKind.u64 (c.toNat : Int), Value.int IntKind.u64 (d.toNat : Int)] 108) := ⟨_, rfl⟩
      have hKb : Keeps Nil wr wb := by rw [hwb]; exact (Keeps.refl Nil _).alloc _
      have hcb : wb.heap[wr.heap.size]? = some (.cells #[Value.int IntKind.u64 (c.toNat : Int), Value.int IntKind.u64 (d.toNat : Int)] 108 (0, 0)) := by rw [hwb]; exact heap_new _ _
      have y0 := row2 hcb
      have y1 : wb.drew.cell? ⟨wr.heap.size, 0, none⟩ = some (.int .u64 (c.toNat : Int)) := y0.1
      have y2 : wb.drew.cell? ⟨wr.heap.size, 1, none⟩ = some (.int .u64 (d.toNat : Int)) := y0.2
      have hlb : wr.heap.size < wb.drew.heap.size := getElem?_lt hcb
      have HW := Lib.hid hwb
      have HKb := Lib.hid ((HR.out.1.trans' hKb).trans' (keeps_drew _))
      have LB := Lib.hid (HL'.out wb.drew HKb.out)
      clear hwb hKb hcb y0
      by_cases heq : f c = d
      · have tst := (same_u64 heq).1
        have HE := Lib.hid heq
        clear heq
        go_wp2_with fail
        rw [← HW.out]
        go_region_held3 (fun w' => w'.cell? ⟨wr.heap.size, 0, none⟩ = some (.int .u64 ↑c.toNat) ∧ w'.cell? ⟨wr.heap.size, 1, none⟩ = some (.int .u64 ↑d.toNat))
          (first | exact ⟨y1, y2⟩ | exact ⟨z1, z2⟩ | go_keep)
          ((go_at_call 29; refine LB.out.mono ?_; rintro e w2 ⟨rfl, k2⟩; have z1 := (k2.cell hlb (fun e => e) _).trans y1; have z2 := (k2.cell hlb (fun e => e) _).trans y2))
        have HK2 := Lib.hid (HKb.out.trans' k2)
        clear k2 z1 z2 y1 y2
        go_wp2_with fail
        go_roundw
        case rel =>
          refine ⟨k + 1, by omega, by go_num, HK2.out, fun j hj => ?_⟩
          by_cases e : j < k
          · exact HR.out.2 j e
          · obtain rfl : j = k := by omega
            rw [HC.out]; exact HE.out
        case measure => simp [intOf]; omega
      · have tst := (unlike_u64 heq).1
        have HE := Lib.hid heq
        clear heq
        go_wp2_with fail
        rw [← HW.out]
        go_region_held3 (fun w' => w'.cell? ⟨wr.heap.size, 0, none⟩ = some (.int .u64 ↑c.toNat) ∧ w'.cell? ⟨wr.heap.size, 1, none⟩ = some (.int .u64 ↑d.toNat))
          (first | exact ⟨y1, y2⟩ | exact ⟨z1, z2⟩ | go_keep)
          ((go_at_call 29; refine LB.out.mono ?_; rintro e w2 ⟨rfl, k2⟩; have z1 := (k2.cell hlb (fun e => e) _).trans y1; have z2 := (k2.cell hlb (fun e => e) _).trans y2))
        have HK2 := Lib.hid (HKb.out.trans' k2)
        clear k2 z1 z2 y1 y2
        go_wp2_with fail
        go_ret
        have hn : chkB n f = false := chk_not (j := k) hlt (by rw [← HA.out, HC.out]; exact HE.out)
        exact ⟨by simp [chkE, codeOf, hn], HK2.out⟩
    · obtain rfl : k = 3 := by omega
      have HN : chkB n f = fitsN a n := by
        rw [HA.out]; exact chk_all (fun j hj => by rw [← HA.out]; exact HR.out.2 j hj)
      cases hf : fitsN a n with
      | true =>
        have HF := Lib.hid (And.intro hf HN)
        clear hf HN
        go_wp2_with fail
        refine (H.out.size _ HR.out.1).mono ?_
        rintro e w' ⟨rfl, rfl⟩
        go_wp2_with fail
        refine (fits_any _ a n _ _ rfl rfl).mono ?_
        rintro e w' ⟨rfl, rfl⟩
        rw [HF.out.1]
        go_wp2_with fail
        go_ret
        exact ⟨by simp [chkE, codeOf, HF.out.2, HF.out.1], HR.out.1⟩
      | false =>
        have HF := Lib.hid (And.intro hf HN)
        clear hf HN
        go_wp2_with fail
        refine (H.out.size _ HR.out.1).mono ?_
        rintro e w' ⟨rfl, rfl⟩
        go_wp2_with fail
        refine (fits_any _ a n _ _ rfl rfl).mono ?_
        rintro e w' ⟨rfl, rfl⟩
        rw [HF.out.1]
        go_wp2_with fail
        go_ret
        exact ⟨by simp [chkE, codeOf, HF.out.2, HF.out.1], HR.out.1⟩
end Go.Proofs.YtefpbljekfkefaaGreat
