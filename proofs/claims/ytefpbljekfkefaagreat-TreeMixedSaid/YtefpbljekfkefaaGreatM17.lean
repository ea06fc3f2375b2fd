/- Open6, Open7, LaidP, TreeK, CmpL: merged. -/
import Derived.Test.YtefpbljekfkefaaGreatM03
import Derived.Test.YtefpbljekfkefaaGreatM16
import Derived.Test.YtefpbljekfkefaaGreatM13
import Derived.Test.YtefpbljekfkefaaGreatM06
import Derived.Test.YtefpbljekfkefaaGreatM12
/- Arguments opened: pieces, and the document's blocks. -/
namespace Go.Proofs.YtefpbljekfkefaaGreat
open Go.ChangeShapes Go.WideShapes Go.ChangeAt Go.RowKit Go.Deep Go.Joins

section
variable {H : Type} {enc : TypeId × Value → H} {W : World} {spare : Nat → Bool} {held : Bool} {base : Nat}
set_option maxRecDepth 100000 in
theorem dec_piece (fuel : Nat) (cs : List Value) (x : DataW H × List MemPlace) (h : DataW.trod enc Tryz.prog W base spare held fuel 202 cs = some x) : ∃ a : PieceV, cs = kPc.enc a := by
  have hC : Tryz.prog.cellsOf 202 = 3 := by kernel_rfl
  have h8 : Tryz.prog.cellsOf 5 = 1 := by kernel_rfl
  have h16 : Tryz.prog.cellsOf 49 = 1 := by kernel_rfl
  obtain ⟨y0, y1, y2, n, _, hl, h0, h1, h2⟩ := trod_struct3 Tryz.underlying202 h
  rw [hC] at hl
  match cs, hl with
  | [c0, c1, c2], _ =>
    obtain ⟨n0, e0, _, w0⟩ := DataW.trod_int Tryz.underlying5 h0
    obtain ⟨n1, e1, _, w1⟩ := DataW.trod_int Tryz.underlying5 h1
    obtain ⟨n2, e2, _, w2⟩ := DataW.trod_int Tryz.underlying49 h2
    obtain ⟨z0, rfl⟩ := u8_some w0
    obtain ⟨z1, rfl⟩ := u8_some w1
    obtain ⟨z2, rfl⟩ := u16_some w2
    have q0 : c0 = .int .u8 (z0.toNat : Int) := by simpa [h8] using e0
    have q1 : c1 = .int .u8 (z1.toNat : Int) := by simpa [h8] using e1
    have q2 : c2 = .int .u16 (z2.toNat : Int) := by simpa [h16] using e2
    exact ⟨(z0, z1, z2), by rw [q0, q1, q2]⟩
set_option maxRecDepth 100000 in
theorem dec_rblock (fuel : Nat) (cs : List Value) (x : DataW H × List MemPlace) (h : DataW.trod enc Tryz.prog W base spare held fuel 63 cs = some x) : ∃ a : BlockV, cs = kRB.enc a := by
  have hC : Tryz.prog.cellsOf 63 = 5 := by kernel_rfl
  have hT : Tryz.prog.cellsOf 61 = 3 := by kernel_rfl
  have hu : Tryz.prog.cellsOf 25 = 1 := by kernel_rfl
  have hb : Tryz.prog.cellsOf 4 = 1 := by kernel_rfl
  have hi : Tryz.prog.cellsOf 3 = 1 := by kernel_rfl
  obtain ⟨y0, y1, y2, n, _, hl, h0, h1, h2⟩ := trod_struct3 Tryz.underlying63 h
  rw [hC] at hl
  match cs, hl with
  | [c0, c1, c2, c3, c4], _ =>
    obtain ⟨z0, z1, z2, m, _, _, g0, g1, g2⟩ := trod_struct3 Tryz.underlying61 h1
    obtain ⟨n0, e0, _, w0⟩ := DataW.trod_int Tryz.underlying25 h0
    obtain ⟨n1, e1, _, w1⟩ := DataW.trod_int Tryz.underlying25 g0
    obtain ⟨u, e2, _⟩ := DataW.trod_bool Tryz.underlying4 g1
    obtain ⟨o, e3, _, _⟩ := DataW.trod_int Tryz.underlying3 g2
    obtain ⟨n4, e4, _, w4⟩ := DataW.trod_int Tryz.underlying25 h2
    obtain ⟨v0, rfl⟩ := u64_some w0
    obtain ⟨v1, rfl⟩ := u64_some w1
    obtain ⟨v4, rfl⟩ := u64_some w4
    have q0 : c0 = .int .u64 (v0.toNat : Int) := by simpa [hu] using e0
    have q1 : c1 = .int .u64 (v1.toNat : Int) := by simpa [hu, hT] using e1
    have q2 : c2 = .bool u := by simpa [hb, hT] using e2
    have q3 : c3 = .int .i64 o := by simpa [hi, hT] using e3
    have q4 : c4 = .int .u64 (v4.toNat : Int) := by simpa [hu] using e4
    exact ⟨⟨v0, ⟨v1, u, o⟩, v4⟩, by rw [q0, q1, q2, q3, q4]; rfl⟩
end
end Go.Proofs.YtefpbljekfkefaaGreat

/- Arguments opened: two bytes. -/
namespace Go.Proofs.YtefpbljekfkefaaGreat
open Go.ChangeShapes Go.WideShapes Go.ChangeAt Go.RowKit Go.Deep Go.Joins

section
variable {H : Type} {enc : TypeId × Value → H} {W : World} {spare : Nat → Bool} {held : Bool} {base : Nat}
set_option maxRecDepth 100000 in
theorem dec_u8x2 (fuel : Nat) (cs : List Value) (x : DataW H × List MemPlace) (h : DataW.trod enc Tryz.prog W base spare held fuel 68 cs = some x) : ∃ a : UInt8 × UInt8, cs = [.int .u8 (a.1.toNat : Int), .int .u8 (a.2.toNat : Int)] := by
  have hC : Tryz.prog.cellsOf 68 = 2 := by kernel_rfl
  have hu : Tryz.prog.cellsOf 5 = 1 := by kernel_rfl
  obtain ⟨xs, m, _, _, hl, hxl, hi⟩ := DataW.trod_array Tryz.underlying68 h
  rw [hC] at hl
  match cs, hl, xs, hxl with
  | [c0, c1], _, [y0, y1], _ =>
    have h0 := hi 0 (by omega)
    have h1 := hi 1 (by omega)
    rw [hu] at h0 h1
    obtain ⟨n0, e0, _, w0⟩ := DataW.trod_int Tryz.underlying5 (show DataW.trod enc Tryz.prog W base spare held m 5 [c0] = some y0 from h0)
    obtain ⟨n1, e1, _, w1⟩ := DataW.trod_int Tryz.underlying5 (show DataW.trod enc Tryz.prog W base spare held m 5 [c1] = some y1 from h1)
    obtain ⟨z0, rfl⟩ := u8_some w0
    obtain ⟨z1, rfl⟩ := u8_some w1
    exact ⟨(z0, z1), by simp_all⟩
end
end Go.Proofs.YtefpbljekfkefaaGreat

/- Blocks that are laid are walked: plain laws for carracklaw06 and carracklaw07. -/
namespace Go.Proofs.YtefpbljekfkefaaGreat
open Go.RowKit

theorem AtB.good16 {f : UInt64 → UInt64} {xs : List Item} {off : UInt64} (h : AtB f xs off) : off.toNat % 16 = 0 := by
  induction h with
  | start => rfl
  | step h1 h2 h3 ih =>
    obtain ⟨e, _⟩ := one_next h3
    obtain ⟨_, _, _, h4⟩ := one_spec h3
    rw [e]; omega
theorem one_frame {f g : UInt64 → UInt64} {off : UInt64} (h3 : oneB f off = true) (e16 : g 16 = f 16) (ha : ∀ o : UInt64, off.toNat ≤ o.toNat → o.toNat < (off + (oneT f off).tag.size).toNat → g o = f o) : oneB g off = true ∧ oneT g off = oneT f off := by
  obtain ⟨hn, hle⟩ := one_next h3
  obtain ⟨hr, _, h48, _⟩ := one_spec h3
  have hsz : (oneT f off).tag.size = (unpackT (f off)).size := by unfold oneT; rw [readT_yes hr]
  rw [hsz] at hn hle h48 ha
  have hlt := (f 16).toNat_lt
  have e0 : g off = f off := ha _ (Nat.le_refl _) (by omega)
  have e8 : g (off + 8) = f (off + 8) := ha _ (by rw [UInt64.toNat_add]; simp; omega) (by rw [hn, UInt64.toNat_add]; simp; omega)
  have hl : (off + (unpackT (f off)).size - 8).toNat = off.toNat + (unpackT (f off)).size.toNat - 8 := by
    have : (8 : UInt64) ≤ off + (unpackT (f off)).size := by rw [UInt64.le_iff_toNat_le, hn]; simp; omega
    rw [UInt64.toNat_sub_of_le _ _ this, hn]; rfl
  have el : g (off + (unpackT (f off)).size - 8) = f (off + (unpackT (f off)).size - 8) := ha _ (by rw [hl]; omega) (by rw [hl, hn]; omega)
  have hrb : readB g off = readB f off := by unfold readB; rw [e0, e16, el]
  have hrt : readT g off = readT f off := by unfold readT; rw [hrb, e0]
  have hlen : lenB g off = lenB f off := by unfold lenB; rw [e8, hrt]
  exact ⟨by unfold oneB; rw [hrb, hrt, hlen]; exact h3, by unfold oneT; rw [hrt, e8]⟩
theorem AtB.frame {f g : UInt64 → UInt64} {xs : List Item} {off : UInt64} (h : AtB f xs off) (e16 : g 16 = f 16) (ha : ∀ o : UInt64, 3776 ≤ o.toNat → o.toNat < off.toNat → g o = f o) : AtB g xs off := by
  induction h with
  | start => exact .start
  | @step xs off h1 h2 h3 ih =>
    obtain ⟨hn, _⟩ := one_next h3
    obtain ⟨_, hin, h48, _⟩ := one_spec h3
    obtain ⟨_, h3776, _, _⟩ := inT_spec hin
    obtain ⟨b1, b2⟩ := one_frame h3 e16 (fun o h9 h10 => ha o (by omega) h10)
    have := AtB.step (ih (fun o h9 h10 => ha o h9 (by omega))) (by rw [e16]; exact h2) b1
    rw [b2] at this
    exact this

/-- how far the lay has come -/
structure LaidAt (ws : List UInt64) (e : UInt64) (l : List Put) (off : UInt64) (xs : List Item) : Prop where
  at_ : AtB (txLoad ws l) xs off
  e16 : txLoad ws l 16 = e
  low : ∀ o : UInt64, o.toNat < 3776 → txLoad ws l o = loadV ws o
  room : off.toNat + 48 ≤ e.toNat
theorem in600 {ws : List UInt64} (hw : ws.length = 600) {o : UInt64} (h1 : o.toNat % 8 = 0) (h2 : o.toNat < 4800) : inB ws o = true := by rw [inB_iff, hw]; exact ⟨h1, h2⟩
theorem LaidAt.off16 {ws : List UInt64} {e : UInt64} {l : List Put} {off : UInt64} {xs : List Item} (h : LaidAt ws e l off xs) : off.toNat % 16 = 0 ∧ 3776 ≤ off.toNat := ⟨h.at_.good16, by have := h.at_.le; omega⟩
section
variable {ws : List UInt64} {e : UInt64} (hw : ws.length = 600) (he : e.toNat ≤ 4800)
include hw he
/-- one more block -/
theorem LaidAt.put {l : List Put} {off : UInt64} {xs : List Item} (h : LaidAt ws e l off xs) {g : TagV} (hm : mayT g = true) (hr : off.toNat + g.size.toNat ≤ e.toNat) (n : UInt64) (hu : g.used = true → needB n = true ∧ (needU n).toNat ≤ g.size.toNat) :
    ∃ b : BlockV, b.off = off ∧ b.tag = g ∧ (off + g.size).toNat = off.toNat + g.size.toNat ∧
      AtB (txLoad ws (if g.used then txStore ws (writeP ws l off g) (off + 8) n else writeP ws l off g)) (xs ++ [(b, true)]) (off + g.size) ∧
      txLoad ws (if g.used then txStore ws (writeP ws l off g) (off + 8) n else writeP ws l off g) 16 = e ∧
      ∀ o : UInt64, o.toNat < 3776 → txLoad ws (if g.used then txStore ws (writeP ws l off g) (off + 8) n else writeP ws l off g) o = loadV ws o := by
  obtain ⟨h16, h37⟩ := h.off16
  obtain ⟨m1, m2, m3, _⟩ := may_spec hm
  have hn : (off + g.size).toNat = off.toNat + g.size.toNat := by rw [UInt64.toNat_add]; omega
  have hl : (off + g.size - 8).toNat = off.toNat + g.size.toNat - 8 := by
    have : (8 : UInt64) ≤ off + g.size := by rw [UInt64.le_iff_toNat_le, hn]; simp; omega
    rw [UInt64.toNat_sub_of_le _ _ this, hn]; rfl
  have h8 : (off + 8).toNat = off.toNat + 8 := by rw [UInt64.toNat_add]; simp; omega
  have hin : inT e off g.size = true := decide_eq_true ⟨h16, h37, by omega, by omega⟩
  have hwb : writeB (txLoad ws l) off g = true := by unfold writeB; rw [hm, h.e16, hin]; rfl
  have i1 : inB ws off = true := in600 hw (by omega) (by omega)
  have i2 : inB ws (off + g.size - 8) = true := in600 hw (by omega) (by omega)
  have i3 : inB ws (off + 8) = true := in600 hw (by omega) (by omega)
  obtain ⟨f, hf⟩ : ∃ f, f = txLoad ws (if g.used then txStore ws (writeP ws l off g) (off + 8) n else writeP ws l off g) := ⟨_, rfl⟩
  rw [← hf]
  have n1 : off + 8 ≠ off := fun x => by have := congrArg UInt64.toNat x; omega
  have n2 : off + 8 ≠ off + g.size - 8 := fun x => by have := congrArg UInt64.toNat x; omega
  have tells : ∀ o, f o = if g.used = true ∧ o = off + 8 then n else if o = off + g.size - 8 then packU g else if o = off then packU g else txLoad ws l o := fun o => by
    rw [hf, writeP_yes hwb]
    cases hg : g.used with
    | true =>
      rw [if_pos rfl, txLoad_store i3, txLoad_store i2, txLoad_store i1]
      by_cases x : o = off + 8
      · rw [if_pos x, if_pos ⟨rfl, x⟩]
      · rw [if_neg x, if_neg (show ¬ (true = true ∧ o = off + 8) from fun y => x y.2)]
    | false => rw [if_neg (by decide), if_neg (fun y => by cases y.1), txLoad_store i2, txLoad_store i1]
  have old : ∀ o : UInt64, o.toNat < off.toNat → f o = txLoad ws l o := fun o ho => by
    rw [tells, if_neg (fun y => by have := congrArg UInt64.toNat y.2; omega), if_neg (fun y => by have := congrArg UInt64.toNat y; omega), if_neg (fun y => by have := congrArg UInt64.toNat y; omega)]
  have f16 : f 16 = e := by rw [old 16 (by simp; omega)]; exact h.e16
  have fo : f off = packU g := by
    rw [tells, if_neg (fun y => n1 y.2.symm)]
    split
    · rfl
    · rw [if_pos rfl]
  have fl : f (off + g.size - 8) = packU g := by rw [tells, if_neg (fun y => n2 y.2.symm), if_pos rfl]
  have hrd : readB f off = true ∧ readT f off = g := by
    have hb : readB f off = true := by unfold readB; rw [fo, isTag_pack hm, unpack_pack hm, f16, hin, fl]; simp
    exact ⟨hb, by rw [readT_yes hb, fo, unpack_pack hm]⟩
  have hat : AtB f xs off := h.at_.frame (by rw [f16, h.e16]) (fun o _ ho => old o ho)
  have hone : oneB f off = true := by
    unfold oneB
    rw [hrd.1, hrd.2]
    cases hg : g.used with
    | false => rfl
    | true =>
      have f8 : f (off + 8) = n := by rw [tells, if_pos ⟨hg, rfl⟩]
      unfold lenB
      rw [f8, hrd.2, (hu hg).1, decide_eq_true (hu hg).2]; rfl
  have ht : (oneT f off).tag = g := by unfold oneT; exact hrd.2
  have := AtB.step hat (by rw [f16]; omega) hone
  rw [ht] at this
  exact ⟨oneT f off, rfl, ht, hn, this, f16, fun o ho => by rw [old o (by omega)]; exact h.low o ho⟩
end
theorem sizeP_may (p : PieceV) : mayT (tagP p) = true := by
  have hs := sizeP_nat p
  unfold tagP
  split
  · exact decide_eq_true ⟨by rw [hs]; omega, by rw [hs]; omega, by rw [hs]; omega, by simp, by simp, .inr rfl⟩
  · next h => exact decide_eq_true ⟨by rw [hs]; omega, by rw [hs]; omega, by rw [hs]; omega, by dsimp only; omega, by dsimp only; omega, .inl rfl⟩
theorem tagP_size (p : PieceV) : (tagP p).size = sizeP p := by unfold tagP; split <;> rfl
theorem lenP_fits (p : PieceV) : needB (lenP p) = true ∧ (needU (lenP p)).toNat ≤ (sizeP p).toNat := by
  have hs := sizeP_nat p
  have h39 : (sizeP p - 39).toNat = (sizeP p).toNat - 39 := by
    have : (39 : UInt64) ≤ sizeP p := by rw [UInt64.le_iff_toNat_le, hs]; simp; omega
    rw [UInt64.toNat_sub_of_le _ _ this]; rfl
  have hl : (lenP p).toNat < (sizeP p).toNat - 39 := by
    unfold lenP
    rw [h39]
    have := Nat.mod_lt p.2.2.toNat (show 0 < (sizeP p).toNat - 39 by omega)
    rw [UInt64.toNat_ofNat']; omega
  have hb : needB (lenP p) = true := decide_eq_true (by omega)
  refine ⟨hb, ?_⟩
  unfold needU
  rw [if_pos hb, UInt64.toNat_ofNat']
  omega
section
variable {ws : List UInt64} {e : UInt64} (hw : ws.length = 600) (he : e.toNat ≤ 4800) (h16 : e.toNat % 16 = 0) 
include hw he
theorem LaidAt.lay : ∀ (ps : List PieceV) {l : List Put} {off : UInt64} {xs : List Item}, LaidAt ws e l off xs → ∃ xs', LaidAt ws e (layP ws e ps l off).1 (layP ws e ps l off).2 xs'
  | [], _, _, xs, h => ⟨xs, h⟩
  | p :: ps, l, off, xs, h => by
    unfold layP
    split
    · exact ⟨xs, h⟩
    · next hlt =>
      have hs := sizeP_nat p
      obtain ⟨_, h37⟩ := h.off16
      have hroom := h.room
      have e1 : (off + sizeP p + 48).toNat = off.toNat + (sizeP p).toNat + 48 := by
        rw [UInt64.toNat_add, UInt64.toNat_add]; simp; omega
      obtain ⟨b, _, hbt, hn, ha, hf, hlow⟩ := h.put hw he (sizeP_may p) (by rw [tagP_size]; omega) (lenP p) (fun _ => by rw [tagP_size]; exact lenP_fits p)
      rw [tagP_size] at hn ha
      exact LaidAt.lay ps (xs := xs ++ [(b, true)]) ⟨ha, hf, hlow, by rw [hn]; omega⟩
include h16
/-- all is laid: all blocks stand one behind the other, up to the end -/
theorem lay_all (ps : List PieceV) (h0 : loadV ws 16 = e) (hr : 3824 ≤ e.toNat) :
    ∃ xs, AtB (txLoad ws (layAll ws [] ps)) xs e ∧ txLoad ws (layAll ws [] ps) 16 = e ∧ ∀ o : UInt64, o.toNat < 3776 → txLoad ws (layAll ws [] ps) o = loadV ws o := by
  obtain ⟨xs, h⟩ := LaidAt.lay hw he ps (l := []) (off := 3776) (xs := []) ⟨.start, by rw [txLoad_nil]; exact h0, fun o _ => txLoad_nil _ _, by simp; omega⟩
  unfold layAll
  rw [txLoad_nil, h0]
  obtain ⟨l, hl⟩ : ∃ l, l = (layP ws e ps [] 3776).1 := ⟨_, rfl⟩
  obtain ⟨off, ho⟩ : ∃ o, o = (layP ws e ps [] 3776).2 := ⟨_, rfl⟩
  rw [← hl, ← ho] at h ⊢
  obtain ⟨h16', h37⟩ := h.off16
  have hroom := h.room
  have hsub : (e - off).toNat = e.toNat - off.toNat := UInt64.toNat_sub_of_le _ _ (by rw [UInt64.le_iff_toNat_le]; omega)
  have hm : mayT ⟨e - off, false, 0⟩ = true := decide_eq_true ⟨by dsimp only; rw [hsub]; omega, by dsimp only; rw [hsub]; omega, by dsimp only; rw [hsub]; omega, by simp, by simp, .inr rfl⟩
  obtain ⟨b, _, _, hn, ha, hf, hlow⟩ := h.put hw he hm (by dsimp only; rw [hsub]; omega) 0 (fun x => by cases x)
  have ee : off + (e - off) = e := by rw [← UInt64.toNat_inj, hn]; dsimp only; rw [hsub]; omega
  dsimp only at ha hf hlow
  rw [if_neg (by decide)] at ha hf
  rw [ee] at ha
  exact ⟨_, ha, hf, fun o ho => by have := hlow o ho; rwa [if_neg (by decide)] at this⟩
end
/-- where the blocks end -/
def endL (l : List BlockV) : UInt64 := l.foldl (fun o b => o + b.tag.size) 3776
theorem endL_add (l : List BlockV) (b : BlockV) : endL (l ++ [b]) = endL l + b.tag.size := by simp [endL]
/-- blocks one behind the other -/
structure RowL (L : List BlockV) (e : UInt64) : Prop where
  end_ : endL L = e
  at_ : ∀ k x, L[k]? = some x → x.off = endL (L.take k) ∧ (x.off + x.tag.size).toNat = x.off.toNat + x.tag.size.toNat ∧ 48 ≤ x.tag.size.toNat ∧ x.off.toNat % 16 = 0 ∧ 3776 ≤ x.off.toNat ∧ x.off.toNat + x.tag.size.toNat ≤ e.toNat
theorem AtB.row {f : UInt64 → UInt64} {xs : List Item} {off : UInt64} (h : AtB f xs off) : RowL (xs.map (·.1)) off := by
  induction h with
  | start => exact ⟨rfl, fun k x hx => by simp at hx⟩
  | @step xs off h1 h2 h3 ih =>
    obtain ⟨hn, hle⟩ := one_next h3
    obtain ⟨_, hin, h48, _⟩ := one_spec h3
    obtain ⟨_, h37, _, _⟩ := inT_spec hin
    have e : (oneT f off).off = off := rfl
    refine ⟨by simp only [List.map_append, List.map_cons, List.map_nil]; rw [endL_add, ih.end_], fun k x hx => ?_⟩
    simp only [List.map_append, List.map_cons, List.map_nil] at hx ⊢
    by_cases hk : k < (xs.map (·.1)).length
    · rw [List.getElem?_append_left hk] at hx
      obtain ⟨a1, a2, a3, a4, a5, a6⟩ := ih.at_ k x hx
      rw [List.take_append_of_le_length (by omega)]
      exact ⟨a1, a2, a3, a4, a5, by omega⟩
    · rw [List.getElem?_append_right (by omega)] at hx
      have hk0 : k - (xs.map (·.1)).length = 0 := by
        rcases Nat.eq_zero_or_pos (k - (xs.map (·.1)).length) with h | h
        · exact h
        · rw [List.getElem?_eq_none (by simp only [List.length_cons, List.length_nil]; omega)] at hx; cases hx
      rw [hk0] at hx
      simp only [List.getElem?_cons_zero, Option.some.injEq] at hx
      subst hx
      have hkl : k = (xs.map (·.1)).length := by omega
      rw [List.take_append_of_le_length (by omega), List.take_of_length_le (by omega), ih.end_]
      exact ⟨e, by rw [e]; exact hn, h48, by rw [e]; exact h1.good16, h37, by rw [e, hn]; omega⟩
/-- what is laid is walked -/
theorem laid_walk {e : UInt64} (he : fitsN e 4800 = true) (ps : List PieceV) :
    ∃ L, walkB 4800 (txLoad (formW e) (layAll (formW e) [] ps)) = true ∧ walkL 4800 (txLoad (formW e) (layAll (formW e) [] ps)) = L ∧ RowL L e ∧ L ≠ [] ∧ txLoad (formW e) (layAll (formW e) [] ps) 16 = e ∧
      (∀ x ∈ L, oneB (txLoad (formW e) (layAll (formW e) [] ps)) x.off = true ∧ x = oneT (txLoad (formW e) (layAll (formW e) [] ps)) x.off) ∧
      ∀ o : UInt64, o.toNat < 3776 → txLoad (formW e) (layAll (formW e) [] ps) o = loadV (formW e) o := by
  obtain ⟨f16, f38, f48⟩ := fits_spec he
  have h0 : loadV (formW e) 16 = e := by rw [formW_yes he]; exact (fmt_tells (n := 600) he).2.2.1
  obtain ⟨xs, ha, h16, hlow⟩ := lay_all (formW_length e) f48 f16 ps h0 f38
  obtain ⟨f, hf⟩ : ∃ f, f = txLoad (formW e) (layAll (formW e) [] ps) := ⟨_, rfl⟩
  rw [← hf] at ha h16 hlow ⊢
  have hc : chkB 4800 f = true := by
    have h := fmt_chk (n := 600) he
    rw [← formW_yes he] at h
    unfold chkB at h ⊢
    rw [hlow 0 (by decide), hlow 8 (by decide), hlow 16 (by decide), hlow 40 (by decide)]
    exact h
  have hsm : (f 16).toNat ≤ 1048576 := by rw [h16]; omega
  rcases walk_all hsm (.inl ⟨e, ha, by rw [h16]; omega⟩) with ⟨hg, hwf⟩ | ⟨⟨ys, b, ey⟩, _⟩
  · have hwb : walkB 4800 f = true := by unfold walkB; rw [hc, hwf]; rfl
    refine ⟨xs.map (·.1), hwb, by unfold walkL; rw [if_pos hwb, hwf]; rfl, ha.row, fun hx => ?_, h16, ?_, hlow⟩
    · have := ha.row.end_
      rw [hx] at this
      rw [← this] at f38
      revert f38; decide
    · clear hc hsm hwf hwb hg hlow h16 f38 f48 f16 h0 hf he
      induction ha with
      | start => intro x hx; simp at hx
      | step h1 h2 h3 ih =>
        intro x hx
        simp only [List.map_append, List.map_cons, List.map_nil, List.mem_append, List.mem_singleton] at hx
        rcases hx with hx | rfl
        · exact ih x hx
        · exact ⟨h3, rfl⟩
  · have := ha.good.1 (b, false) (by rw [ey]; simp)
    cases this
/-- two blocks have two places -/
theorem RowL.below {L : List BlockV} {e : UInt64} (h : RowL L e) : ∀ (d i : Nat) {x y : BlockV}, L[i]? = some x → L[i + d + 1]? = some y → x.off.toNat + x.tag.size.toNat ≤ y.off.toNat
  | 0, i, x, y, hx, hy => by
    obtain ⟨a1, a2, _⟩ := h.at_ i x hx
    obtain ⟨b1, _⟩ := h.at_ (i + 1) y hy
    rw [b1, take_succ' hx, endL_add, ← a1, a2]; exact Nat.le_refl _
  | d + 1, i, x, y, hx, hy => by
    have hl := (List.getElem?_eq_some_iff.1 hy).1
    obtain ⟨z, hz⟩ : ∃ z, L[i + 1]? = some z := ⟨L[i + 1]'(by omega), by simp⟩
    have h1 := RowL.below h 0 i hx hz
    have h2 := RowL.below h d (i + 1) hz (by rw [show i + 1 + d + 1 = i + (d + 1) + 1 by omega]; exact hy)
    omega
theorem RowL.same {L : List BlockV} {e : UInt64} (h : RowL L e) {i j : Nat} {x y : BlockV} (hx : L[i]? = some x) (hy : L[j]? = some y) (ho : x.off = y.off) : i = j := by
  rcases Nat.lt_trichotomy i j with hlt | he | hgt
  · have := h.below (j - i - 1) i hx (by rw [show i + (j - i - 1) + 1 = j by omega]; exact hy)
    have h3 := (h.at_ i x hx).2.2.1
    rw [ho] at this; omega
  · exact he
  · have := h.below (i - j - 1) j hy (by rw [show j + (i - j - 1) + 1 = i by omega]; exact hx)
    have h3 := (h.at_ j y hy).2.2.1
    rw [ho] at this; omega
theorem RowL.next {L : List BlockV} {e : UInt64} (h : RowL L e) {i : Nat} {x y : BlockV} (hx : L[i]? = some x) (hy : L[i + 1]? = some y) : y.off = x.off + x.tag.size := by
  rw [(h.at_ (i + 1) y hy).1, take_succ' hx, endL_add, ← (h.at_ i x hx).1]
end Go.Proofs.YtefpbljekfkefaaGreat

/- Package tree: keys, split, join, insert, remove. -/
namespace Go.Proofs.YtefpbljekfkefaaGreat
open Go.RowKit PT

def sizeF (f : UInt64 → UInt64) (off : UInt64) : UInt64 := (unpackT (f off)).size

set_option maxRecDepth 100000 in
set_option maxHeartbeats 4000000 in
theorem key_any {a : Option Addr} {f : UInt64 → UInt64} {N : Nat} {w : World} (h : Reads (.pointer a) f N w) (off : UInt64) (x : Int) (hx : x = (off.toNat : Int)) :
    Calls Tryz.prog 113 #[.agg #[.pointer a], .int .u64 x] w fun e w' => e = .returned (.agg #[.int .u64 ((sizeF f off).toNat : Int), .int .u64 (off.toNat : Int)]) ∧ Keeps Nil w w' := by
  subst hx
  have hT := Lib.hid h
  obtain ⟨s, u, o, hg⟩ : ∃ s u o, unpackT (f off) = ⟨s, u, o⟩ := ⟨_, _, _, rfl⟩
  obtain ⟨ib, hib⟩ : ∃ ib, ib = isTag (f off) := ⟨_, rfl⟩
  have hz : sizeF f off = s := by unfold sizeF; rw [hg]
  rw [hz]
  have HG := Lib.hid hg
  have HI := Lib.hid hib
  clear h hg hib hz
  have hst := Lib.hid (Step.refl Nil w)
  go_enter Tryz.func113, Tryz.ntmps113
  obtain ⟨W1, hW1⟩ : ∃ W, W = w.alloc (.cells #[.pointer a] 153) := ⟨_, rfl⟩
  obtain ⟨B1, eB1⟩ : ∃ B, B = w.heap.size := ⟨_, rfl⟩
  replace hW1 := Lib.hid hW1
  replace eB1 := Lib.hid eB1
  obtain ⟨W2, hW2⟩ : ∃ W, W = W1.alloc (.cells #[.int .u64 0, .int .u64 0] 162) := ⟨_, rfl⟩
  obtain ⟨B2, eB2⟩ : ∃ B, B = w.heap.size + 1 := ⟨_, rfl⟩
  replace hW2 := Lib.hid hW2
  replace eB2 := Lib.hid eB2
  go_wp2_with fail
  rw [← hW1.out]
  rw [← hW2.out]
  try rw [← eB2.out]
  try rw [← eB1.out]
  have k1 : Keeps Nil w W1 := by rw [hW1.out]; exact alloc_keeps _ _
  have e0B1 : B1 = w.heap.size := by rw [eB1.out]
  have hB1 := Lib.hid (show Bx W1 Nil B1 #[.pointer a] 153 by rw [hW1.out]; exact Bx.new Nil.lt _ _ e0B1)
  have gB1 := Lib.hid (show w.heap.size ≤ B1 by rw [e0B1]; exact hst.out.keeps.size)
  replace hst := Lib.hid (hst.out.nil k1)
  clear k1 e0B1
  have k2 : Keeps Nil W1 W2 := by rw [hW2.out]; exact alloc_keeps _ _
  have e0B2 : B2 = W1.heap.size := by rw [eB2.out, hW1.out]; simp []
  have hB2 := Lib.hid (show Bx W2 Nil B2 #[.int .u64 0, .int .u64 0] 162 by rw [hW2.out]; exact Bx.new Nil.lt _ _ e0B2)
  have gB2 := Lib.hid (show w.heap.size ≤ B2 by rw [e0B2]; exact hst.out.keeps.size)
  have nB1B2 := Lib.hid (show B1 < B2 by rw [e0B2]; exact hB1.out.lt)
  replace hst := Lib.hid (hst.out.nil k2)
  replace hB1 := Lib.hid (hB1.out.nil k2)
  clear k2 e0B2
  refine ((hT.out.keeps hst.out.keeps).loadC off _ rfl).mono ?_
  rintro _ W3 ⟨rfl, kn⟩
  replace hst := Lib.hid (hst.out.nil kn)
  replace hB1 := Lib.hid (hB1.out.nil kn)
  replace hB2 := Lib.hid (hB2.out.nil kn)
  clear kn
  have c_B1_0 := hB1.out.cell 0 _ rfl
  have f_B1_0 := hB1.out.frz 0
  have l_B1 := hB1.out.lt
  have c_B2_0 := hB2.out.cell 0 _ rfl
  have f_B2_0 := hB2.out.frz 0
  have c_B2_1 := hB2.out.cell 1 _ rfl
  have f_B2_1 := hB2.out.frz 1
  have l_B2 := hB2.out.lt
  go_wp2_with fail
  clear c_B1_0 f_B1_0 l_B1 c_B2_0 f_B2_0 c_B2_1 f_B2_1 l_B2
  refine (Unpack_any W3 (f off)).mono ?_
  rintro _ W4 ⟨rfl, kn⟩
  rw [HG.out, TagV.cells_def]
  replace hst := Lib.hid (hst.out.nil kn)
  replace hB1 := Lib.hid (hB1.out.nil kn)
  replace hB2 := Lib.hid (hB2.out.nil kn)
  clear kn
  have c_B1_0 := hB1.out.cell 0 _ rfl
  have f_B1_0 := hB1.out.frz 0
  have l_B1 := hB1.out.lt
  have c_B2_0 := hB2.out.cell 0 _ rfl
  have f_B2_0 := hB2.out.frz 0
  have c_B2_1 := hB2.out.cell 1 _ rfl
  have f_B2_1 := hB2.out.frz 1
  have l_B2 := hB2.out.lt
  obtain ⟨W5, hW5⟩ : ∃ W, W = ((W4.setCell ⟨B2, 0, none⟩ (.int .u64 (s.toNat : Int))).setCell ⟨B2, 1, none⟩ (.int .u64 (off.toNat : Int))) := ⟨_, rfl⟩
  replace hW5 := Lib.hid hW5
  obtain ⟨W6, hW6⟩ : ∃ W, W = W5.alloc (.cells #[.int .u64 (s.toNat : Int), .bool u, .int .i64 o] 35) := ⟨_, rfl⟩
  obtain ⟨B3, eB3⟩ : ∃ B, B = W4.heap.size := ⟨_, rfl⟩
  replace hW6 := Lib.hid hW6
  replace eB3 := Lib.hid eB3
  go_wp2_with fail
  clear c_B1_0 f_B1_0 l_B1 c_B2_0 f_B2_0 c_B2_1 f_B2_1 l_B2
  rw [← hW5.out]
  rw [← hW6.out]
  try rw [← eB3.out]
  replace hst := Lib.hid (show Step _ Nil w W5 by rw [hW5.out]; exact ((hst.out.set gB2.out _ _).set gB2.out _ _))
  replace hB1 := Lib.hid (show Bx W5 Nil B1 #[.pointer a] 153 by rw [hW5.out]; exact ((hB1.out.other (Nat.ne_of_lt nB1B2.out) _ _).other (Nat.ne_of_lt nB1B2.out) _ _))
  replace hB2 := Lib.hid (show Bx W5 Nil B2 #[.int .u64 (s.toNat : Int), .int .u64 (off.toNat : Int)] 162 by rw [hW5.out]; exact ((hB2.out.set _ _).set _ _))
  have k3 : Keeps Nil W5 W6 := by rw [hW6.out]; exact alloc_keeps _ _
  have e0B3 : B3 = W5.heap.size := by rw [eB3.out, hW5.out]; simp [World.setCell]
  have hB3 := Lib.hid (show Bx W6 Nil B3 #[.int .u64 (s.toNat : Int), .bool u, .int .i64 o] 35 by rw [hW6.out]; exact Bx.new Nil.lt _ _ e0B3)
  have gB3 := Lib.hid (show w.heap.size ≤ B3 by rw [e0B3]; exact hst.out.keeps.size)
  have nB1B3 := Lib.hid (show B1 < B3 by rw [e0B3]; exact hB1.out.lt)
  have nB2B3 := Lib.hid (show B2 < B3 by rw [e0B3]; exact hB2.out.lt)
  replace hst := Lib.hid (hst.out.nil k3)
  replace hB1 := Lib.hid (hB1.out.nil k3)
  replace hB2 := Lib.hid (hB2.out.nil k3)
  clear k3 e0B3
  refine bodyPost_ret (results_row rfl rfl hB2.out.1 Tryz.underlying162 rfl (by kernel_rfl)) rfl ?_
  exact ⟨rfl, hst.out.keeps⟩
end Go.Proofs.YtefpbljekfkefaaGreat

/- cmp.Compare, cmp.Or at what the program uses. -/
namespace Go.Proofs.YtefpbljekfkefaaGreat
open Go.RowKit

def cmp1 (a b : UInt64) : Int := if a.toNat < b.toNat then -1 else if b.toNat < a.toNat then 1 else 0
theorem isNaN_any (w : World) (a : UInt64) : Calls Tryz.prog 183 #[.int .u64 (a.toNat : Int)] w fun e w' => e = .returned (.bool false) ∧ w = w' := by
  go_enter Tryz.func183, Tryz.ntmps183
  go_wp2_with fail
  go_ret
  exact ⟨by simp, rfl⟩
theorem Compare_any (w : World) (a b : UInt64) : Calls Tryz.prog 157 #[.int .u64 (a.toNat : Int), .int .u64 (b.toNat : Int)] w fun e w' => e = .returned (.int .i64 (cmp1 a b)) ∧ w = w' := by
  unfold cmp1
  by_cases h : a.toNat < b.toNat
  · rw [if_pos h]
    go_enter Tryz.func157, Tryz.ntmps157
    go_wp2_with (go_at_call 183; refine (isNaN_any _ _).mono ?_; rintro _ _ ⟨rfl, rfl⟩)
    go_ret
    exact ⟨rfl, rfl⟩
  · rw [if_neg h]
    by_cases h2 : b.toNat < a.toNat
    · rw [if_pos h2]
      go_enter Tryz.func157, Tryz.ntmps157
      go_wp2_with (go_at_call 183; refine (isNaN_any _ _).mono ?_; rintro _ _ ⟨rfl, rfl⟩)
      go_ret
      exact ⟨rfl, rfl⟩
    · rw [if_neg h2]
      go_enter Tryz.func157, Tryz.ntmps157
      go_wp2_with (go_at_call 183; refine (isNaN_any _ _).mono ?_; rintro _ _ ⟨rfl, rfl⟩)
      go_ret
      exact ⟨rfl, rfl⟩
def or2 (x y : Int) : Int := if x = 0 then y else x
theorem Or_any (w : World) (b : Nat) (x y : Int) (h0 : w.cell? ⟨b, 0, none⟩ = some (.int .i64 x)) (h1 : w.cell? ⟨b, 1, none⟩ = some (.int .i64 y)) :
    Calls Tryz.prog 165 #[.slice (some ⟨b, 0, none⟩) 2 2] w fun e w' => e = .returned (.int .i64 (or2 x y)) ∧ w = w' := by
  unfold or2
  by_cases hx : x = 0
  · subst hx
    rw [if_pos rfl]
    by_cases hy : y = 0
    · subst hy
      go_enter Tryz.func165, Tryz.ntmps165
      go_wp2_with fail
      go_loopw [5, 8] (fun _ i wr => ∃ k : Nat, k ≤ 2 ∧ i = .int .i64 (k : Int) ∧ w = wr) (fun _ i _ => 2 - (intOf i).toNat)
      case atStart => exact ⟨0, by omega, rfl, rfl⟩
      case round =>
        obtain ⟨k, hk, rfl, rfl⟩ := hrel
        obtain rfl | rfl | rfl : k = 0 ∨ k = 1 ∨ k = 2 := by omega
        · go_wp2_with fail
          go_roundw
          case rel => exact ⟨1, by omega, by first | go_num | simp, by first | trivial | rfl⟩
          case measure => simp [intOf]
        · go_wp2_with fail
          go_roundw
          case rel => exact ⟨2, by omega, by first | go_num | simp, by first | trivial | rfl⟩
          case measure => simp [intOf]
        · go_wp2_with fail
          go_ret
          exact ⟨rfl, rfl⟩
    · go_enter Tryz.func165, Tryz.ntmps165
      go_wp2_with fail
      go_loopw [5, 8] (fun _ i wr => ∃ k : Nat, k ≤ 1 ∧ i = .int .i64 (k : Int) ∧ w = wr) (fun _ i _ => 2 - (intOf i).toNat)
      case atStart => exact ⟨0, by omega, rfl, rfl⟩
      case round =>
        obtain ⟨k, hk, rfl, rfl⟩ := hrel
        obtain rfl | rfl : k = 0 ∨ k = 1 := by omega
        · go_wp2_with fail
          go_roundw
          case rel => exact ⟨1, by omega, by first | go_num | simp, by first | trivial | rfl⟩
          case measure => simp [intOf]
        · go_wp2_with fail
          go_ret
          exact ⟨rfl, rfl⟩
  · rw [if_neg hx]
    go_enter Tryz.func165, Tryz.ntmps165
    go_wp2_with fail
    go_loopw [5, 8] (fun _ i wr => i = .int .i64 0 ∧ w = wr) (fun _ _ _ => 0)
    case atStart => exact ⟨rfl, rfl⟩
    case round =>
      obtain ⟨rfl, rfl⟩ := hrel
      go_wp2_with fail
      go_ret
      exact ⟨rfl, rfl⟩
end Go.Proofs.YtefpbljekfkefaaGreat
