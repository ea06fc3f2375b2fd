/- carracklaw07.TreeMixed: plain laws, and how rows stand beside a Tx that turns. -/
import Derived.Test.YtefpbljekfkefaaGreatW7gQ
import Derived.Test.YtefpbljekfkefaaGreatOpen8Q
namespace Go.Proofs.YtefpbljekfkefaaGreat
open Go.RowKit PT

section
variable {ws : List UInt64} {e : UInt64} (hw : ws.length = 600) (he : e.toNat ≤ 4800) (h16 : e.toNat % 16 = 0)
include hw he h16
/-- the last block that is laid is nobody's -/
theorem lay_last (ps : List PieceV) (h0 : loadV ws 16 = e) (hr : 3824 ≤ e.toNat) :
    ∃ (xs : List Item) (b : BlockV), b.tag.used = false ∧ AtB (txLoad ws (layAll ws [] ps)) (xs ++ [(b, true)]) e ∧ txLoad ws (layAll ws [] ps) 16 = e := by
  obtain ⟨xs, h⟩ := LaidAt.lay hw he ps (l := []) (off := 3776) (xs := []) ⟨.start, by rw [txLoad_nil]; exact h0, fun o _ => txLoad_nil _ _, by simp; omega⟩
  unfold layAll
  rw [txLoad_nil, h0]
  obtain ⟨l, hl⟩ : ∃ l, l = (layP ws e ps [] 3776).1 := ⟨_, rfl⟩
  obtain ⟨off, ho⟩ : ∃ o, o = (layP ws e ps [] 3776).2 := ⟨_, rfl⟩
  rw [← hl, ← ho] at h ⊢
  obtain ⟨h16', h37⟩ := h.off16
  have hroom := h.room
  have hsub : (e - off).toNat = e.toNat - off.toNat := UInt64.toNat_sub_of_le _ _ (by rw [UInt64.le_iff_toNat_le]; omega)
  have hm : mayT ⟨e - off, false, 0⟩ = true := decide_eq_true ⟨by dsimp only; rw [hsub]; omega, by dsimp only; rw [hsub]; omega, by dsimp only; rw [hsub]; omega, by simp, by simp, .inr rfl⟩
  obtain ⟨b, _, hbt, hn, ha, hf, _⟩ := h.put hw he hm (by dsimp only; rw [hsub]; omega) 0 (fun x => by cases x)
  have ee : off + (e - off) = e := by rw [← UInt64.toNat_inj, hn]; dsimp only; rw [hsub]; omega
  dsimp only at ha hf
  rw [if_neg (by decide)] at ha hf
  rw [ee] at ha
  exact ⟨xs, b, by rw [hbt], ha, hf⟩
end
theorem free_some (ps : List PieceV) : 0 < (freeL ps).length := by
  have he : fitsN 4800 4800 = true := by decide
  obtain ⟨f16, f38, f48⟩ := fits_spec he
  have h0 : loadV (formW 4800) 16 = 4800 := by rw [formW_yes he]; exact (fmt_tells (n := 600) he).2.2.1
  obtain ⟨xs, b, hb, ha, h16⟩ := lay_last (formW_length 4800) f48 f16 (ps.take 20) h0 f38
  obtain ⟨L, hwb, hwL, _⟩ := laid_walk he (ps.take 20)
  obtain ⟨f, hf⟩ : ∃ f, f = txLoad (formW 4800) (layAll (formW 4800) [] (ps.take 20)) := ⟨_, rfl⟩
  rw [← hf] at ha h16 hwb
  have hsm : (f 16).toNat ≤ 1048576 := by rw [h16]; decide
  have hL : walkL 4800 f = (xs ++ [(b, true)]).map (·.1) := by
    rcases walk_all hsm (.inl ⟨4800, ha, by rw [h16]; decide⟩) with ⟨_, hwf⟩ | ⟨_, hwf⟩
    · unfold walkL; rw [if_pos hwb, hwf]; rfl
    · exfalso
      unfold walkB at hwb
      rw [hwf] at hwb
      simp at hwb
  unfold freeL layF
  rw [← hf, hL, List.map_append, List.map_cons, List.map_nil, freeOf_add, hb]
  simp
theorem cellY_view {w : World} {b off : Nat} {l : List UInt8} (h : ∀ i j, j < kY.size → i < l.length → w.cell? ⟨b, off + (i * kY.size + j), none⟩ = (l[i]?).bind (fun x => (kY.enc x)[j]?)) (i : Nat) (x : UInt8) (hx : l[i]? = some x) : w.cell? ⟨b, off + i, none⟩ = some (.int .u8 (x.toNat : Int)) := by
  have hi : i < l.length := (List.getElem?_eq_some_iff.1 hx).1
  have := h i 0 (by decide) hi
  rw [hx] at this
  simpa using this
theorem filter_short {l : List UInt64} {y : UInt64} (h : y ∈ l) : (l.filter (fun z => z != y)).length < l.length := by
  induction l with
  | nil => cases h
  | cons x l ih =>
    rw [List.filter_cons]
    by_cases e : x = y
    · subst e; simp; exact Nat.lt_succ_of_le (List.length_filter_le _ _)
    · rw [if_pos (by rw [bne_iff_ne]; exact e)]
      rcases List.mem_cons.1 h with h | h
      · exact absurd h.symm e
      · simp only [List.length_cons]; exact Nat.succ_lt_succ (ih h)
/-! ### rows beside a Tx that turns -/
theorem Own.viewN {α : Type} {K : Kind α} {S : Nat → Prop} {w : World} {base : Nat} {v : Value} {l : List α} (h : Own K w base v l) (hS : ∀ g, v.ownBlock = some g → ¬ S g) : View K S w v l := by
  rcases h.view (S := Nil) (fun _ _ e => e) with h0 | ⟨b, off, cap, hv, hc, hm, hb, _, hcell⟩
  · exact .inl h0
  · refine .inr ⟨b, off, cap, hv, hc, hm, hb, hS b ?_, hcell⟩
    rcases h.2 with ⟨e, _⟩ | ⟨g, cap', cur, e, _⟩
    · rw [e] at hv; cases hv
    · rw [e] at hv
      simp only [Value.slice.injEq, Option.some.injEq, Addr.mk.injEq] at hv
      obtain ⟨⟨e1, _⟩, _⟩ := hv
      rw [e, ← e1]; rfl
theorem Step.ownM {α : Type} {K : Kind α} {S : Nat → Prop} {wE w w' : World} {base : Nat} {v : Value} {l : List α} (h : Step Nil S wE w) (ho : Own K w base v l) (hb : wE.heap.size ≤ base) (k : Keeps (fun k => v.ownBlock = some k) w w') : Step Nil S wE w' :=
  ⟨h.keeps.trans k (fun i hi e => by have := (ho.block e).1; omega), h.grow⟩
theorem TxF.own {w w' : World} {t n : Nat} {f : UInt64 → UInt64} {S : Nat → Prop} {v : Value} (h : TxF w t f n S) (k : Keeps (fun k => v.ownBlock = some k) w w') (hS : ∀ g, v.ownBlock = some g → ¬ S g) : TxF w' t f n S := by
  obtain ⟨s, l, ws, m, r⟩ := h
  exact ⟨s, l, ws, m.keeps k (fun g hg e => hS g e hg), r⟩
/-- a Tx, the free blocks' list, and a row of one's own -/
structure MixW (w : World) (t : Nat) (f : UInt64 → UInt64) (X : List UInt64) (vf : Value) (S : Nat → Prop) (vr : Value) (rb : Nat) (Q : List UInt64) (W : World) : Prop where
  st : Step Nil S w W
  tx : TxF W t f 4800 S
  fr : View kU (fun k => S k ∨ vr.ownBlock = some k) W vf X
  row : Own kU W rb vr Q
  apart : ∀ g, vr.ownBlock = some g → ¬ S g
  base : w.heap.size ≤ rb ∧ rb ≤ W.heap.size
section
variable {w W W' : World} {t rb : Nat} {f f' : UInt64 → UInt64} {X Q : List UInt64} {vf vr : Value} {S S' : Nat → Prop}
theorem MixW.nil (h : MixW w t f X vf S vr rb Q W) (k : Keeps Nil W W') : MixW w t f X vf S vr rb Q W' :=
  ⟨h.st.nil k, h.tx.nil k, h.fr.keeps_nil k, h.row.keeps_nil k, h.apart, h.base.1, Nat.le_trans h.base.2 k.size⟩
theorem MixW.turn (h : MixW w t f X vf S vr rb Q W) (k : Step S S' W W') (hT : TxF W' t f' 4800 S') : MixW w t f' X vf S' vr rb Q W' :=
  ⟨h.st.trans k, hT, h.fr.step (k.keeps.mono (fun _ _ e => .inl e)) (fun g e => e.elim (fun e => (k.grow g e).imp .inl id) (fun e => .inl (.inr e))), h.row.keeps' k.keeps (fun g hg e => h.apart g hg e),
    fun g hg e => (k.grow g e).elim (h.apart g hg) (fun e => absurd (h.row.block hg).2 (Nat.not_lt.2 e)), h.base.1, Nat.le_trans h.base.2 k.keeps.size⟩
theorem MixW.grow {vr' : Value} {Q' : List UInt64} (h : MixW w t f X vf S vr rb Q W) (ho : Own kU W' rb vr' Q') (k : Keeps (fun k => vr.ownBlock = some k) W W') (hg : ∀ g, vr'.ownBlock = some g → vr.ownBlock = some g ∨ W.heap.size ≤ g) : MixW w t f X vf S vr' rb Q' W' :=
  ⟨h.st.ownM h.row h.base.1 k, h.tx.own k h.apart, h.fr.step (k.mono (fun _ _ e => .inr e)) (fun g e => e.elim (fun e => .inl (.inl e)) (fun e => (hg g e).imp .inr id)), ho,
    fun g e e' => (hg g e).elim (fun e => h.apart g e e') (fun e => absurd (h.tx.lt g e') (Nat.not_lt.2 e)), h.base.1, Nat.le_trans h.base.2 k.size⟩
theorem MixW.fresh (h : MixW w t f X vf S vr rb Q W) : MixW w t f X vf S (.slice none 0 0) W.heap.size [] W :=
  ⟨h.st, h.tx, h.fr.shut (fun g _ e => e.elim .inl (fun e => by cases e)), Own.nil _ _ _, (fun g e => by cases e), h.st.keeps.size, Nat.le_refl _⟩
theorem MixW.own_view (h : MixW w t f X vf S vr rb Q W) : View kU S W vr Q := h.row.viewN h.apart
/-- another view, behind an append to the row -/
theorem View.growN {v vr' : Value} {l : List UInt64} (hv : View kU (fun k => S k ∨ vr.ownBlock = some k) W v l) (k : Keeps (fun k => vr.ownBlock = some k) W W') (hg : ∀ g, vr'.ownBlock = some g → vr.ownBlock = some g ∨ W.heap.size ≤ g) : View kU (fun k => S k ∨ vr'.ownBlock = some k) W' v l :=
  hv.step (k.mono (fun _ _ e => .inr e)) (fun g e => e.elim (fun e => .inl (.inl e)) (fun e => (hg g e).imp .inr id))
theorem own_one {v : Value} {g n c : Nat} {W : World} (h : v.ownBlock = some g ∨ W.heap.size ≤ g) : ∀ g', (Value.slice (some ⟨g, 0, none⟩) n c).ownBlock = some g' → v.ownBlock = some g' ∨ W.heap.size ≤ g' := fun g' e => by
  have e' : g = g' := by simpa [Value.ownBlock] using e
  rw [← e']; exact h
end
end Go.Proofs.YtefpbljekfkefaaGreat
