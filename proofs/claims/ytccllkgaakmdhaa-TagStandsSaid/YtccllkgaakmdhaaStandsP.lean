/- What is laid is read, until a word of it is otherwise: plain laws for carracklaw05.TagStands. -/
import Derived.Test.YtccllkgaakmdhaaFormed
namespace Go.Proofs.Ytccllkgaakmdhaa
open Go.RowKit

/-- the words of a heap of 4480 bytes -/
def ws44 : List UInt64 := formW 4480
theorem ws44_length : ws44.length = 600 := formW_length _
theorem ws44_size : loadV ws44 16 = 4480 := by
  have h : fitsN 4480 4800 = true := by decide
  unfold ws44
  rw [formW_yes h]
  exact (fmt_tells (n := 600) h).2.2.1
theorem in44 {o : UInt64} (h1 : o.toNat % 8 = 0) (h2 : o.toNat < 4800) : inB ws44 o = true := by rw [inB_iff, ws44_length]; exact ⟨h1, h2⟩

section
variable {off : UInt64} {g : TagV}
theorem stands_facts (h : writeB (txLoad ws44 []) off g = true) :
    mayT g = true ∧ off.toNat % 16 = 0 ∧ 3776 ≤ off.toNat ∧ off.toNat + g.size.toNat ≤ 4480 ∧ 48 ≤ g.size.toNat ∧ g.size.toNat % 16 = 0 ∧ (off + g.size).toNat = off.toNat + g.size.toNat ∧ (off + g.size - 8).toNat = off.toNat + g.size.toNat - 8 := by
  unfold writeB at h
  simp only [Bool.and_eq_true] at h
  obtain ⟨h1, h2⟩ := h
  obtain ⟨m1, m2, m3, _⟩ := may_spec h1
  obtain ⟨i1, i2, i3, i4⟩ := inT_spec h2
  rw [txLoad_nil, ws44_size] at i3 i4
  have e : (4480 : UInt64).toNat = 4480 := rfl
  rw [e] at i3 i4
  have e1 : (off + g.size).toNat = off.toNat + g.size.toNat := by rw [UInt64.toNat_add]; omega
  have e2 : (off + g.size - 8).toNat = off.toNat + g.size.toNat - 8 := by
    have : (8 : UInt64) ≤ off + g.size := by rw [UInt64.le_iff_toNat_le, e1]; simp; omega
    rw [UInt64.toNat_sub_of_le _ _ this, e1]; rfl
  exact ⟨h1, i1, i2, by omega, m2, m1, e1, e2⟩
/-- what is told behind the lay -/
theorem stands_tells (h : writeB (txLoad ws44 []) off g = true) (o : UInt64) :
    txLoad ws44 (writeP ws44 [] off g) o = if o = off + g.size - 8 then packU g else if o = off then packU g else loadV ws44 o := by
  obtain ⟨_, h1, h2, h3, h4, h5, h6, h7⟩ := stands_facts h
  have i1 : inB ws44 off = true := in44 (by omega) (by omega)
  have i2 : inB ws44 (off + g.size - 8) = true := in44 (by omega) (by omega)
  rw [writeP_yes h, txLoad_store i2, txLoad_store i1, txLoad_nil]
theorem stands_16 (h : writeB (txLoad ws44 []) off g = true) : (16 : UInt64) ≠ off ∧ (16 : UInt64) ≠ off + g.size - 8 := by
  obtain ⟨_, h1, h2, h3, h4, h5, h6, h7⟩ := stands_facts h
  constructor
  · intro e; have := congrArg UInt64.toNat e; simp at this; omega
  · intro e; have := congrArg UInt64.toNat e; rw [h7] at this; simp at this; omega
/-- a heap that tells these three words so, has the tag -/
theorem read_of {f : UInt64 → UInt64} (hm : mayT g = true) (h1 : f off = packU g) (h2 : f (off + g.size - 8) = packU g) (h3 : inT (f 16) off g.size = true) : readB f off = true ∧ readT f off = g := by
  have hb : readB f off = true := by
    unfold readB
    rw [h1, isTag_pack hm, unpack_pack hm, h3, h2]; simp
  exact ⟨hb, by rw [readT_yes hb, h1, unpack_pack hm]⟩
theorem in_of (h : writeB (txLoad ws44 []) off g = true) : inT 4480 off g.size = true := by
  obtain ⟨_, h1, h2, h3, h4, h5, h6, h7⟩ := stands_facts h
  exact decide_eq_true ⟨h1, h2, by have e : (4480 : UInt64).toNat = 4480 := rfl; rw [e]; omega, by have e : (4480 : UInt64).toNat = 4480 := rfl; rw [e]; omega⟩
theorem stands_read (h : writeB (txLoad ws44 []) off g = true) : readB (txLoad ws44 (writeP ws44 [] off g)) off = true ∧ readT (txLoad ws44 (writeP ws44 [] off g)) off = g := by
  have hm := (stands_facts h).1
  obtain ⟨n1, n2⟩ := stands_16 h
  refine read_of hm ?_ ?_ ?_
  · rw [stands_tells h]; split
    · rfl
    · rw [if_pos rfl]
  · rw [stands_tells h, if_pos rfl]
  · rw [stands_tells h, if_neg n2, if_neg n1, ws44_size]; exact in_of h
/-- behind another store -/
theorem stands_store (h : writeB (txLoad ws44 []) off g = true) (p v o : UInt64) :
    txLoad ws44 (txStore ws44 (writeP ws44 [] off g) p v) o = if inB ws44 p = true ∧ o = p then v else txLoad ws44 (writeP ws44 [] off g) o := by
  cases hi : inB ws44 p with
  | true =>
    rw [txLoad_store hi]
    by_cases e : o = p
    · rw [if_pos e, if_pos ⟨rfl, e⟩]
    · rw [if_neg e, if_neg (fun x => e x.2)]
  | false =>
    rw [if_neg (fun x => by cases x.1)]
    unfold txStore
    rw [if_neg (by rw [hi]; decide)]
def mineB (off : UInt64) (g : TagV) (p : UInt64) : Bool := decide (p = off ∨ p = off + g.size - 8)
theorem stands_same (h : writeB (txLoad ws44 []) off g = true) {p v : UInt64} (hs : ∀ o, o = off ∨ o = off + g.size - 8 ∨ o = 16 → inB ws44 p = true → o = p → v = txLoad ws44 (writeP ws44 [] off g) o) :
    readB (txLoad ws44 (txStore ws44 (writeP ws44 [] off g) p v)) off = true ∧ readT (txLoad ws44 (txStore ws44 (writeP ws44 [] off g) p v)) off = g := by
  have hm := (stands_facts h).1
  obtain ⟨n1, n2⟩ := stands_16 h
  have key : ∀ o, o = off ∨ o = off + g.size - 8 ∨ o = 16 → txLoad ws44 (txStore ws44 (writeP ws44 [] off g) p v) o = txLoad ws44 (writeP ws44 [] off g) o := fun o ho => by
    rw [stands_store h]
    by_cases e : inB ws44 p = true ∧ o = p
    · rw [if_pos e]; exact hs o ho e.1 e.2
    · rw [if_neg e]
  refine read_of hm ?_ ?_ ?_
  · rw [key _ (.inl rfl), stands_tells h]; split
    · rfl
    · rw [if_pos rfl]
  · rw [key _ (.inr (.inl rfl)), stands_tells h, if_pos rfl]
  · rw [key _ (.inr (.inr rfl)), stands_tells h, if_neg n2, if_neg n1, ws44_size]; exact in_of h
/-- a word of it is otherwise -/
theorem stands_odd (h : writeB (txLoad ws44 []) off g = true) {p v : UInt64} (hm : mineB off g p = true) (hv : v ≠ txLoad ws44 (writeP ws44 [] off g) p) :
    readB (txLoad ws44 (txStore ws44 (writeP ws44 [] off g) p v)) off = true → readT (txLoad ws44 (txStore ws44 (writeP ws44 [] off g) p v)) off ≠ g := by
  intro hr e
  obtain ⟨hmay, h1, h2, h3, h4, h5, h6, h7⟩ := stands_facts h
  have i1 : inB ws44 off = true := in44 (by omega) (by omega)
  have i2 : inB ws44 (off + g.size - 8) = true := in44 (by omega) (by omega)
  have hne : off ≠ off + g.size - 8 := fun e => by have := congrArg UInt64.toNat e; rw [h7] at this; omega
  have hpk : ∀ o, o = off ∨ o = off + g.size - 8 → txLoad ws44 (writeP ws44 [] off g) o = packU g := fun o ho => by
    rw [stands_tells h]
    rcases ho with rfl | rfl
    · rw [if_neg hne, if_pos rfl]
    · rw [if_pos rfl]
  have hp : p = off ∨ p = off + g.size - 8 := of_decide_eq_true hm
  rw [hpk p hp] at hv
  rw [readT_yes hr] at e
  have hr' := hr
  unfold readB at hr'
  simp only [Bool.and_eq_true, beq_iff_eq] at hr'
  obtain ⟨⟨r1, r2⟩, r3⟩ := hr'
  have hf := pack_unpack r1
  rw [e] at hf r3
  rcases hp with rfl | rfl
  · rw [stands_store h, if_pos ⟨i1, rfl⟩] at hf
    exact hv hf.symm
  · rw [stands_store h, if_pos ⟨i2, rfl⟩, ← hf] at r3
    exact hv r3
theorem stands_mine16 (h : writeB (txLoad ws44 []) off g = true) {p : UInt64} (hm : mineB off g p = true) : p ≠ 16 := by
  obtain ⟨n1, n2⟩ := stands_16 h
  have hp : p = off ∨ p = off + g.size - 8 := of_decide_eq_true hm
  rintro rfl
  rcases hp with e | e
  · exact n1 e
  · exact n2 e
/-- the heap ends elsewhere -/
theorem stands_end (h : writeB (txLoad ws44 []) off g = true) (v : UInt64) :
    txLoad ws44 (txStore ws44 (writeP ws44 [] off g) 16 v) 16 = v ∧
    (v.toNat < (off + g.size).toNat → readB (txLoad ws44 (txStore ws44 (writeP ws44 [] off g) 16 v)) off = false) ∧
    (¬ v.toNat < (off + g.size).toNat → readB (txLoad ws44 (txStore ws44 (writeP ws44 [] off g) 16 v)) off = true ∧ readT (txLoad ws44 (txStore ws44 (writeP ws44 [] off g) 16 v)) off = g) := by
  obtain ⟨hmay, h1, h2, h3, h4, h5, h6, h7⟩ := stands_facts h
  obtain ⟨n1, n2⟩ := stands_16 h
  have i16 : inB ws44 16 = true := in44 (by decide) (by decide)
  have e16 : txLoad ws44 (txStore ws44 (writeP ws44 [] off g) 16 v) 16 = v := by rw [stands_store h, if_pos ⟨i16, rfl⟩]
  have eo : txLoad ws44 (txStore ws44 (writeP ws44 [] off g) 16 v) off = packU g := by
    rw [stands_store h, if_neg (fun x => n1 x.2.symm), stands_tells h]; split
    · rfl
    · rw [if_pos rfl]
  have el : txLoad ws44 (txStore ws44 (writeP ws44 [] off g) 16 v) (off + g.size - 8) = packU g := by
    rw [stands_store h, if_neg (fun x => n2 x.2.symm), stands_tells h, if_pos rfl]
  refine ⟨e16, fun hlt => ?_, fun hge => ?_⟩
  · unfold readB
    rw [eo, unpack_pack hmay, e16]
    have : inT v off g.size = false := decide_eq_false (fun x => by rw [h6] at hlt; omega)
    rw [this]; simp
  · refine read_of hmay eo el ?_
    rw [e16]
    exact decide_eq_true ⟨h1, h2, by rw [h6] at hge; omega, by rw [h6] at hge; omega⟩
end
end Go.Proofs.Ytccllkgaakmdhaa
