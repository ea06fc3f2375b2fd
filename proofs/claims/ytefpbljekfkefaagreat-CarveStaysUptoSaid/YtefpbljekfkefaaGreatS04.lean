/- Glue, Row, Open, Open2, Facts, Live, Reads, RReads, Head: written short. -/
import Derived.Deep.RegionHeld3
import Derived.Test.YtefpbljekfkefaaGreatS03
import Derived.Test.YtefpbljekfkefaaGreatS01
import Derived.ProofKit
import Derived.Lib.SmallJoins
import Derived.Deep.Slices
import Derived.Deep.Fields
import Derived.Test.YtefpbljekfkefaaGreatS02
set_option maxRecDepth 100000
set_option maxHeartbeats 8000000
namespace Go.Proofs.YtefpbljekfkefaaGreat
section
open Go.RowKit
theorem keeps_drew (w : World) : Keeps Nil w w.drew := (Keeps.refl Nil w).drew
def thP (ws : List UInt64) (k : List Put) : List Put := k.foldl (fun acc x => txStore ws acc x.1 x.2) []
theorem thP_snoc (ws : List UInt64) (k : List Put) (x : Put) : thP ws (k ++ [x]) = txStore ws (thP ws k) x.1 x.2 := by simp [thP]
theorem thP_take {ws : List UInt64} {l : List Put} {k : Nat} {x : Put} (h : l[k]? = some x) : thP ws (l.take (k + 1)) = txStore ws (thP ws (l.take k)) x.1 x.2 := by rw [take_succ' h, thP_snoc]
theorem storeP_length (l : List Put) (off v : UInt64) : (storeP l off v).length ≤ l.length + 1 := by
 induction l with
 | nil => simp [storeP]
 | cons x l ih => simp only [storeP]; split <;> simp; omega
theorem txStore_length (ws : List UInt64) (l : List Put) (off v : UInt64) : (txStore ws l off v).length ≤ l.length + 1 := by
 unfold txStore; split
 · exact storeP_length l off v
 · omega
theorem foldl_store_length (ws : List UInt64) (k : List Put) : ∀ acc : List Put, (k.foldl (fun acc x => txStore ws acc x.1 x.2) acc).length ≤ acc.length + k.length := by
 induction k with
 | nil => intro acc; simp
 | cons x k ih =>
   intro acc
   have h1 := ih (txStore ws acc x.1 x.2)
   have h2 := txStore_length ws acc x.1 x.2
   simp only [List.foldl_cons, List.length_cons]
   omega
theorem thP_length (ws : List UInt64) (k : List Put) : (thP ws k).length ≤ k.length := by
 have := foldl_store_length ws k []
 simpa [thP] using this
def keysP (l : List Put) : List UInt64 := l.map (·.1)
theorem nodup_sub {α : Type} [DecidableEq α] {d : List α} : ∀ {k : List α}, d.Nodup → (∀ x ∈ d, x ∈ k) → d.length ≤ k.length := by
 induction d with
 | nil => intro k _ _; simp
 | cons x d ih =>
   intro k hn hs
   have hx : x ∈ k := hs x (by simp)
   have h1 := List.nodup_cons.1 hn
   have h2 := ih (k := k.erase x) h1.2 (fun y hy => by
    have hne : y ≠ x := fun e => h1.1 (by rw [← e]; exact hy)
    exact (List.mem_erase_of_ne hne).2 (hs y (by simp [hy])))
   rw [List.length_erase_of_mem hx] at h2
   have := List.length_pos_of_mem hx
   simp only [List.length_cons]
   omega
theorem keysP_store {l : List Put} (off v : UInt64) : keysP (storeP l off v) = if off ∈ keysP l then keysP l else keysP l ++ [off] := by
 induction l with
 | nil => simp [storeP, keysP]
 | cons x l ih =>
   unfold storeP
   split
   ·rename_i e; simp [keysP, e]
   ·rename_i e
    simp only [keysP, List.map_cons, List.mem_cons] at ih ⊢
    rw [ih]
    by_cases h : off ∈ List.map (fun x => x.1) l
    · simp [h]
    · simp [h, e]
theorem storeP_nodup {l : List Put} (hn : (keysP l).Nodup) (off v : UInt64) : (keysP (storeP l off v)).Nodup := by
 rw [keysP_store]
 split
 ·exact hn
 ·rename_i h
  rw [List.nodup_append]
  refine ⟨hn, by simp, fun a ha b hb e => ?_⟩
  simp at hb
  subst hb; subst e
  exact h ha
def GoodP (ws : List UInt64) (l : List Put) : Prop := (keysP l).Nodup ∧ ∀ x ∈ l, inB ws x.1 = true
theorem GoodP.nil (ws : List UInt64) : GoodP ws [] := ⟨by simp [keysP], by simp⟩
theorem GoodP.store {ws : List UInt64} {l : List Put} (h : GoodP ws l) (off v : UInt64) : GoodP ws (txStore ws l off v) := by
 unfold txStore
 split
 ·rename_i hin
  refine ⟨storeP_nodup h.1 off v, fun x hx => ?_⟩
  have : x.1 ∈ keysP (storeP l off v) := List.mem_map.2 ⟨x, hx, rfl⟩
  rw [keysP_store] at this
  have h2 : x.1 ∈ keysP l ∨ x.1 = off := by
   split at this
   · exact .inl this
   · simpa using this
  rcases h2 with h2 | h2
  ·obtain ⟨y, hy, e⟩ := List.mem_map.1 h2
   rw [← e]; exact h.2 y hy
  ·rw [h2]; exact hin
 ·exact h
theorem GoodP.fold {ws : List UInt64} (k : List Put) : ∀ {acc : List Put}, GoodP ws acc → GoodP ws (k.foldl (fun acc x => txStore ws acc x.1 x.2) acc) := by
 induction k with
 | nil => intro acc h; exact h
 | cons x k ih => intro acc h; exact ih (h.store x.1 x.2)
theorem good_thP (ws : List UInt64) (k : List Put) : GoodP ws (thP ws k) := GoodP.fold k (GoodP.nil ws)
theorem inB_iff {ws : List UInt64} {off : UInt64} : inB ws off = true ↔ off.toNat % 8 = 0 ∧ off.toNat < 8 * ws.length := by simp [inB]
theorem loadP_store {l : List Put} (off v o : UInt64) : loadP (storeP l off v) o = if o = off then some v else loadP l o := by
  induction l with
  | nil => simp [storeP, loadP]
  | cons x l ih =>
    unfold storeP
    split
    · rename_i e
      subst e
      unfold loadP
      split <;> rfl
    · rename_i e
      unfold loadP
      rw [ih]
      by_cases h : o = x.1
      · simp only [if_pos h]
        rw [if_neg (fun e2 => e (by rw [← e2, h]))]
      · simp only [if_neg h]
theorem good_length {ws : List UInt64} {l : List Put} (h : GoodP ws l) : l.length ≤ ws.length := by
 have := nodup_sub (d := keysP l) (k := (List.range ws.length).map (fun i => UInt64.ofNat (8 * i))) h.1 (fun o ho => by
  obtain ⟨x, hx, rfl⟩ := List.mem_map.1 ho
  have hb := inB_iff.1 (h.2 x hx)
  refine List.mem_map.2 ⟨x.1.toNat / 8, List.mem_range.2 (by omega), ?_⟩
  apply UInt64.toNat_inj.1
  rw [UInt64.toNat_ofNat']
  have := x.1.toNat_lt
  omega)
 simpa [keysP] using this
theorem row2 {w : World} {m : Nat} {a b : Value} {T : TypeId} (h : w.heap[m]? = some (.cells #[a, b] T (0, 0))) : w.cell? ⟨m, 0, none⟩ = some a ∧ w.cell? ⟨m, 1, none⟩ = some b :=
 ⟨by simp [World.cell?, h], by simp [World.cell?, h]⟩
theorem ne_u64 {a b : UInt64} (h : a ≠ b) : ((a.toNat : Int) == (b.toNat : Int)) = false := by
 rw [beq_eq_false_iff_ne]; intro e; exact h (UInt64.toNat_inj.1 (by omega))
section
variable {α : Type}
end
theorem Mem.again {w : World} {s t : Nat} {l : List Put} {ws : List UInt64} {S : Nat → Prop} (h : Mem w s t l ws S) :
  Calls Tryz.prog 130 #[.pointer (some ⟨s, 0, none⟩)] w fun e w' => ∃ t' S', e = .returned (.pointer (some ⟨t', 0, none⟩)) ∧ Mem w' s t' [] ws S' ∧ Keeps Nil w w' ∧ ∀ k, S' k → S k ∨ w.heap.size ≤ k := by
 obtain ⟨q, m, tv, h1, h2, h3, h4, h5⟩ := h
 refine (Mem.new h2).mono ?_
 rintro e w' ⟨t', S', rfl, g1, g2, g3, _⟩
 refine ⟨t', S', rfl, g1, g2, fun k hk => ?_⟩
 rcases g3 k hk with rfl | rfl | e
 · exact .inl ((h5 _).2 (.inr (.inl rfl)))
 · exact .inl ((h5 _).2 (.inr (.inr rfl)))
 · exact .inr e
end
section
open Go.ChangeShapes Go.WideShapes Go.ChangeAt Go.RowKit Go.Deep
theorem prog_own : ownKnob Tryz.prog.godebug = none := by kernel_rfl
theorem prog_laid : laidOutB Tryz.prog = true := by kernel_rfl
section
variable {H : Type} {enc : TypeId × Value → H} {P : Program} {W W' : World} {sp : Nat → Bool}
theorem trodAll_stays (hl : laidOutB P = true) : ∀ {ts : List TypeId} {vs : List Value} {ds : List (DataW H)} {ps : List MemPlace}, (ts.all fun t => P.readableRec t && decide (t < P.types.size)) = true →
   DataW.TrodAll enc P W 0 (fun _ => true) true ts vs ds ps → (∀ p ∈ ps, W.sameAt W' p) → (∀ p ∈ ps, sp p.block = true) → DataW.TrodAll enc P W' 0 sp true ts vs ds ps
 | [], [], [], _, _, h, _, _ => h
 | t :: ts, _ :: _, _ :: _, _, hr, ⟨p, q, h1, h2, e⟩, hs, hp => by
   simp only [List.all_cons, Bool.and_eq_true, decide_eq_true_eq] at hr
   exact ⟨p, q, WideElems.Trod_stays hl hr.1.1 hr.1.2 h1 (fun x hx => hs x (by rw [e]; exact List.mem_append_left _ hx)) (fun x hx => hp x (by rw [e]; exact List.mem_append_left _ hx)),
     trodAll_stays hl hr.2 h2 (fun x hx => hs x (by rw [e]; exact List.mem_append_right _ hx)) (fun x hx => hp x (by rw [e]; exact List.mem_append_right _ hx)), e⟩
theorem row_post {f : Func} {s : ChangeSpec} {apart fresh handsOn again : Bool} {args : Array Value} {ds gs : List (DataW H)} {before : List MemPlace} {t : TypeId}
  (hl : laidOutB P = true) (hW : DataW.Whole enc P f.params.toList s.vars apart W args.toList ds gs before) (hv : s.vars = []) (hread : (f.params.toList.all fun t => P.readableRec t && decide (t < P.types.size)) = true)
  (hres : f.resultTypes = #[t]) (ht : P.underlying t = some .bool) (hfn : s.fn H (ds ++ gs) = { results := [.lit (.bool true)], args := ds }) (hK : Keeps Nil W W') :
  s.post enc P f apart fresh handsOn again W args (.bool true) W' := by
 have hb := hK.below
 have hlt : ∀ p ∈ before, p.block < W.heap.size := fun p hp => hW.lt p hp
 have hfr : ∀ p ∈ before, W.sameAt W' p := fun p hp => hb.same (hlt p hp)
 have hW0 := hW
 obtain ⟨p, q, hA, hV, hbe, hz, hn⟩ := hW0
 have hV0 := hV
 rw [hv] at hV0
 obtain ⟨hg, hq⟩ := trodVars_none hV0
 have hpb : before = p := by rw [hbe, hq]; simp
 have hargs : ∀ sp : Nat → Bool, (∀ p ∈ before, sp p.block = true) → DataW.TrodAll enc P W' 0 sp true f.params.toList args.toList ds before := fun sp hsp =>
  trodAll_stays hl hread (by rw [hpb]; exact hA) hfr hsp
 have hvars : ∀ sp : Nat → Bool, DataW.TrodVars enc P W' sp s.vars (s.fn H (ds ++ gs)).vars [] := fun sp => by
  rw [hv, hfn]; exact rfl
 have hold : ∀ p ∈ before, (fun b => decide (b < W.heap.size)) p.block = true := fun p hp => by simpa using hlt p hp
 have hresT : ∀ (b : Nat) (sp : Nat → Bool) (hd : Bool), DataW.TrodAll enc P W' b sp hd f.resultTypes.toList ((Value.bool true).resultList f.resultTypes.size) (s.fn H (ds ++ gs)).results [] := fun b sp hd => by
  rw [hfn, hres]
  exact trodAll_mk1 (shut_bool ht true)
 have hargs' : ∀ sp : Nat → Bool, (∀ p ∈ before, sp p.block = true) → DataW.TrodAll enc P W' 0 sp true f.params.toList args.toList (s.fn H (ds ++ gs)).args before := fun sp hsp => by
  rw [hfn]; exact hargs sp hsp
 refine ⟨ds, gs, before, [], before, [], hW, hresT _ _ _, hargs' _ hold, hvars _, World.keptBut_mono (fun p hp => ⟨hp, ?_⟩) (hb.frame (· ∈ before)), fun _ => ?_⟩
 ·exact Or.inr (Or.inl hp)
 ·refine ⟨ok_one hres rfl (okWide_bool_mk ht true), _, _, ([] ++ before) ++ [], ⟨[] ++ before, [], trodAll_append (hargs' _ (fun _ _ => rfl)) (hresT _ _ _), hvars _, rfl, ?_, ?_⟩, ?_⟩
  ·intro b off hp
   have hin : MemPlace.cell b off ∈ before := by simpa using hp
   rw [hb.frozen (hlt _ hin)]
   exact hz b off hin
  ·intro ha
   have := hn ha
   simpa using this
  ·intro p hp _
   simpa using hp
end
end
section
open Go.ChangeShapes Go.WideShapes Go.ChangeAt Go.RowKit Go.Deep Go.Joins
theorem u64_some {n : Int} (h : (Lit.int .u64 n).wf = true) : ∃ x : UInt64, n = (x.toNat : Int) := by
 have h' : IntKind.u64.min ≤ n ∧ n ≤ IntKind.u64.max := by simpa [Lit.wf] using h
 have e1 : IntKind.u64.min = 0 := by rfl
 have e2 : IntKind.u64.max = 18446744073709551615 := by rfl
 rw [e1, e2] at h'
 refine ⟨UInt64.ofNat n.toNat, ?_⟩
 rw [UInt64.toNat_ofNat']
 omega
section
variable {H : Type} {enc : TypeId × Value → H} {W : World} {spare : Nat → Bool} {held : Bool} {base : Nat}
theorem open_look {α : Type} {K : Kind α} {P : Program} {t e : TypeId} {v : Value} {d : DataW H} {p : List MemPlace} (ht : P.underlying t = some (.slice e)) (hc : P.cellsOf e = K.size)
  (hdec : ∀ (fuel : Nat) (cs : List Value) (x : DataW H × List MemPlace), DataW.trod enc P W base spare held fuel e cs = some x → ∃ a : α, cs = K.enc a)
  (h : DataW.Trod enc P W base spare held t v d p) (hv : v.cells.toList = [v]) : ∃ l, Look K W v l := by
 obtain ⟨fuel, hf⟩ := h
 rw [hv] at hf
 rcases open_slice ht hf with ⟨h0, _⟩ | ⟨a, len, cap, m, n, D, Pl, hcs, hb, hl, hm, hmm, hx, hi⟩
 ·refine ⟨[], ?_⟩
  simp only [List.cons.injEq, and_true] at h0
  rw [h0]; exact Look.nil
 ·simp only [List.cons.injEq, and_true] at hcs
  rw [hcs]
  by_cases h0 : len = 0
  ·subst h0
   exact ⟨[], .inr ⟨⟨_, _, rfl⟩, rfl⟩⟩
  have hlm : len ≤ m := by rw [hmm]; split <;> omega
  have hex : ∀ i : Fin len, ∃ x : α, W.cells? base (a.add (i.1 * K.size)) K.size = some (K.enc x) := fun i => by
   obtain ⟨cs', h1, h2⟩ := hi i.1 (by omega)
   obtain ⟨x, rfl⟩ := hdec n cs' _ h2
   rw [hc] at h1
   exact ⟨x, h1⟩
  obtain ⟨f, hfs⟩ : ∃ f : Fin len → α, ∀ i : Fin len, W.cells? base (a.add (i.1 * K.size)) K.size = some (K.enc (f i)) := ⟨fun i => (hex i).choose, fun i => (hex i).choose_spec⟩
  clear hex
  have hcell : ∀ (i : Fin len) (j : Nat), j < K.size → W.cell? (a.add (i.1 * K.size + j)) = (K.enc (f i))[j]? := fun i j hj => by
   rw [← Go.Deep.add_add]
   exact (World.cells?_some (hfs i)).2.2 j hj
  obtain ⟨b, off, spot⟩ := a
  obtain ⟨i0, hi0⟩ : ∃ i0 : Fin len, i0.1 = 0 := ⟨⟨0, by omega⟩, rfl⟩
  have h1 := hcell i0 0 K.pos
  rw [hi0] at h1
  simp only [Nat.zero_mul, Nat.add_zero] at h1
  have hlp : 0 < (K.enc (f i0)).length := by rw [K.len]; exact K.pos
  obtain ⟨u, hu⟩ : ∃ u, (K.enc (f i0))[0]? = some u := ⟨_, List.getElem?_eq_getElem hlp⟩
  rw [hu] at h1
  have hspot : spot = none := by simpa [Addr.add] using World.cell?_spot h1
  subst hspot
  have hbl : b < W.heap.size := by
   rcases Nat.lt_or_ge b W.heap.size with h | h
   · exact h
   · simp [World.cell?, Addr.add, h] at h1
  refine ⟨List.ofFn f, .inl (.inr ⟨b, off, cap, ?_, ?_, hm, hbl, fun e => e, ?_⟩)⟩
  ·simp
  ·simpa using hl
  ·intro i j hj hi'
   have hi2 : i < len := by simpa using hi'
   have := hcell ⟨i, hi2⟩ j hj
   rw [add_plain] at this
   rw [this]
   simp [hi2]
theorem dec_put (fuel : Nat) (cs : List Value) (x : DataW H × List MemPlace) (h : DataW.trod enc Tryz.prog W base spare held fuel 108 cs = some x) : ∃ a : Put, cs = kP.enc a := by
 have hC : Tryz.prog.cellsOf 108 = 2 := by kernel_rfl
 have hu : Tryz.prog.cellsOf 25 = 1 := by kernel_rfl
 obtain ⟨y0, y1, n, _, hl, h0, h1⟩ := trod_struct2 Tryz.underlying108 h
 rw [hC] at hl
 match cs, hl with
 | [c0, c1], _ =>
   obtain ⟨n0, e0, _, w0⟩ := DataW.trod_int Tryz.underlying25 h0
   obtain ⟨n1, e1, _, w1⟩ := DataW.trod_int Tryz.underlying25 h1
   obtain ⟨z0, rfl⟩ := u64_some w0
   obtain ⟨z1, rfl⟩ := u64_some w1
   have q0 : c0 = .int .u64 (z0.toNat : Int) := by simpa [hu] using e0
   have q1 : c1 = .int .u64 (z1.toNat : Int) := by simpa [hu] using e1
   exact ⟨(z0, z1), by rw [q0, q1]⟩
end
end
section
open Go.ChangeShapes Go.WideShapes Go.ChangeAt Go.RowKit Go.Deep Go.Joins
theorem u8_some {n : Int} (h : (Lit.int .u8 n).wf = true) : ∃ x : UInt8, n = (x.toNat : Int) := by
 have h' : IntKind.u8.min ≤ n ∧ n ≤ IntKind.u8.max := by simpa [Lit.wf] using h
 have e1 : IntKind.u8.min = 0 := by rfl
 have e2 : IntKind.u8.max = 255 := by rfl
 rw [e1, e2] at h'
 refine ⟨UInt8.ofNat n.toNat, ?_⟩
 rw [UInt8.toNat_ofNat']
 omega
theorem u16_some {n : Int} (h : (Lit.int .u16 n).wf = true) : ∃ x : UInt16, n = (x.toNat : Int) := by
 have h' : IntKind.u16.min ≤ n ∧ n ≤ IntKind.u16.max := by simpa [Lit.wf] using h
 have e1 : IntKind.u16.min = 0 := by rfl
 have e2 : IntKind.u16.max = 65535 := by rfl
 rw [e1, e2] at h'
 refine ⟨UInt16.ofNat n.toNat, ?_⟩
 rw [UInt16.toNat_ofNat']
 omega
section
variable {H : Type} {enc : TypeId × Value → H} {P : Program} {W : World} {spare : Nat → Bool} {held : Bool} {base : Nat}
theorem open_enc {α : Type} {t : TypeId} {v : Value} {d : DataW H} {p : List MemPlace} {f : α → List Value} (hv : ∃ cs, v = .agg cs)
  (hdec : ∀ fuel cs x, DataW.trod enc P W base spare held fuel t cs = some x → ∃ a, cs = f a) (h : DataW.Trod enc P W base spare held t v d p) : ∃ a, v = .agg (f a).toArray := by
 obtain ⟨cs, rfl⟩ := hv
 obtain ⟨fuel, hf⟩ := h
 obtain ⟨a, ha⟩ := hdec fuel _ _ hf
 have ha' : cs.toList = f a := ha
 exact ⟨a, by rw [← ha']⟩
theorem okWide_arr {r : Reach} {b0 n : Nat} {t e : TypeId} {v : Value} (hu : P.underlying t = some (.array n e)) (h : Value.okWide P W r b0 t v) : ∃ cs, v = .agg cs := by
 unfold Value.okWide at h
 simp only [hu] at h
 obtain ⟨cs, h, _⟩ := h
 exact ⟨cs, h⟩
end
section
variable {H : Type} {enc : TypeId × Value → H} {W : World} {spare : Nat → Bool} {held : Bool} {base : Nat}
theorem dec_u64x2 (fuel : Nat) (cs : List Value) (x : DataW H × List MemPlace) (h : DataW.trod enc Tryz.prog W base spare held fuel 95 cs = some x) : ∃ a : UInt64 × UInt64, cs = [.int .u64 (a.1.toNat : Int), .int .u64 (a.2.toNat : Int)] := by
 have hC : Tryz.prog.cellsOf 95 = 2 := by kernel_rfl
 have hu : Tryz.prog.cellsOf 25 = 1 := by kernel_rfl
 obtain ⟨xs, m, _, _, hl, hxl, hi⟩ := DataW.trod_array Tryz.underlying95 h
 rw [hC] at hl
 match cs, hl, xs, hxl with
 | [c0, c1], _, [y0, y1], _ =>
   have h0 := hi 0 (by omega)
   have h1 := hi 1 (by omega)
   rw [hu] at h0 h1
   obtain ⟨n0, e0, _, w0⟩ := DataW.trod_int Tryz.underlying25 (show DataW.trod enc Tryz.prog W base spare held m 25 [c0] = some y0 from h0)
   obtain ⟨n1, e1, _, w1⟩ := DataW.trod_int Tryz.underlying25 (show DataW.trod enc Tryz.prog W base spare held m 25 [c1] = some y1 from h1)
   obtain ⟨z0, rfl⟩ := u64_some w0
   obtain ⟨z1, rfl⟩ := u64_some w1
   exact ⟨(z0, z1), by simp_all⟩
end
end
section
open Go.ChangeShapes Go.WideShapes Go.ChangeAt Go.RowKit
noncomputable abbrev K : Nat → Char := Char.ofNat
noncomputable abbrev cutW : List Char := [Char.ofNat 99, Char.ofNat 117, Char.ofNat 116]
noncomputable abbrev atW : List Char := [Char.ofNat 97, Char.ofNat 116]
section
variable {P : Program} {ws : List (List Char)}
theorem strip_of (ws : List (List Char)) : stripLifts liftWords (cutW :: atW :: ws) = ([], cutW :: atW :: ws) := by rfl
theorem enter_of (h : behindMainWord (wordsSigns P.initOrder.toList) = cutW :: atW :: ws) (h1 : P.laysLater = false) (h2 : P.bearsReflect = false) (h3 : P.doorFits [] = true) : P.mayEnter = true := by
 unfold Program.mayEnter
 rw [h, h1, h2]
 simp only [strip_of, h3]
 rfl
theorem lifts_of (h : behindMainWord (wordsSigns P.initOrder.toList) = cutW :: atW :: ws) : P.headLifts = [] := by
 unfold Program.headLifts
 rw [h]
 simp only [strip_of]
 rfl
theorem final_of (h : behindMainWord (wordsSigns P.initOrder.toList) = cutW :: atW :: ws) : P.liftsFinal = false := by
 unfold Program.liftsFinal
 rw [h, lifts_of h]
 rfl
theorem make_of (h : behindMainWord (wordsSigns P.initOrder.toList) = cutW :: atW :: ws) : P.make = some .cut := by
 unfold Program.make
 rw [h]
 rfl
end
def joinedRest (P : Program) (f : FuncId) (fn : Func) (s : ChangeSpec) (c : OpenClaim) : { b : Bool // P.mayEnter = true → P.liftsFinal = false → P.make = some .cut → b = true → joinedFacts P f fn s c = true } := by
 apply Subtype.mk
 intro h1 h2 h3 hb
 unfold joinedFacts
 rw [h1, h2, h3]
 exact hb
theorem word_is : Tryz.prog.initOrder = "harness 9ccfb62e94e0714a9067930a95cfadd0ee28147fdebcc24383dd404edd6b4b77 cut at carrack/carracklaw11.ReleaseCuts carrack/carracklaw11.ReleaseMerged carrack/carracklaw12.ResizeKeeps carrack/carracklaw12.ResizeBack carrack/carracklaw12.ResizeRoom carrack/carracklaw07.TreeTurns carrack/carracklaw07.TreeMixed carrack/carracklaw07.TreeGoes carrack/carracklaw07.TreeAfter carrack/carracklaw07.TreeSteps carrack/carracklaw10.CarveFits carrack/carracklaw10.CarveTakes carrack/carracklaw10.CarveBest carrack/carracklaw10.CarveNone carrack/carracklaw10.CarveZeros carrack/carracklaw10.CarveStays carrack/carracklaw11.ReleasePlays carrack/carracklaw11.ReleaseUndoes carrack/carracklaw11.ReleaseAll carrack/carracklaw11.ReleaseNone carrack/carracklaw12.ResizeTells carrack/carracklaw12.ResizeNone" := by kernel_rfl
noncomputable abbrev wI : List Char := [K 104, K 97, K 114, K 110, K 101, K 115, K 115, K 32, K 57, K 99, K 99, K 102, K 98, K 54, K 50, K 101, K 57, K 52, K 101, K 48, K 55, K 49, K 52, K 97, K 57, K 48, K 54, K 55, K 57, K 51, K 48, K 97, K 57, K 53, K 99, K 102, K 97, K 100, K 100, K 48, K 101, K 101, K 50, K 56, K 49, K 52, K 55, K 102, K 100, K 101, K 98, K 99, K 99, K 50, K 52, K 51, K 56, K 51, K 100, K 100, K 52, K 48, K 52, K 101, K 100, K 100, K 54, K 98, K 52, K 98, K 55, K 55, K 32, K 99, K 117, K 116, K 32, K 97, K 116, K 32, K 99, K 97, K 114, K 114, K 97, K 99, K 107, K 47, K 99, K 97, K 114, K 114, K 97, K 99, K 107, K 108, K 97, K 119, K 49, K 49, K 46, K 82, K 101, K 108, K 101, K 97, K 115, K 101, K 67, K 117, K 116, K 115, K 32, K 99, K 97, K 114, K 114, K 97, K 99, K 107, K 47, K 99, K 97, K 114, K 114, K 97, K 99, K 107, K 108, K 97, K 119, K 49, K 49, K 46, K 82, K 101, K 108, K 101, K 97, K 115, K 101, K 77, K 101, K 114, K 103, K 101, K 100, K 32, K 99, K 97, K 114, K 114, K 97, K 99, K 107, K 47, K 99, K 97, K 114, K 114, K 97, K 99, K 107, K 108, K 97, K 119, K 49, K 50, K 46, K 82, K 101, K 115, K 105, K 122, K 101, K 75, K 101, K 101, K 112, K 115, K 32, K 99, K 97, K 114, K 114, K 97, K 99, K 107, K 47, K 99, K 97, K 114, K 114, K 97, K 99, K 107, K 108, K 97, K 119, K 49, K 50, K 46, K 82, K 101, K 115, K 105, K 122, K 101, K 66, K 97, K 99, K 107, K 32, K 99, K 97, K 114, K 114, K 97, K 99, K 107, K 47, K 99, K 97, K 114, K 114, K 97, K 99, K 107, K 108, K 97, K 119, K 49, K 50, K 46, K 82, K 101, K 115, K 105, K 122, K 101, K 82, K 111, K 111, K 109, K 32, K 99, K 97, K 114, K 114, K 97, K 99, K 107, K 47, K 99, K 97, K 114, K 114, K 97, K 99, K 107, K 108, K 97, K 119, K 48, K 55, K 46, K 84, K 114, K 101, K 101, K 84, K 117, K 114, K 110, K 115, K 32, K 99, K 97, K 114, K 114, K 97, K 99, K 107, K 47, K 99, K 97, K 114, K 114, K 97, K 99, K 107, K 108, K 97, K 119, K 48, K 55, K 46, K 84, K 114, K 101, K 101, K 77, K 105, K 120, K 101, K 100, K 32, K 99, K 97, K 114, K 114, K 97, K 99, K 107, K 47, K 99, K 97, K 114, K 114, K 97, K 99, K 107, K 108, K 97, K 119, K 48, K 55, K 46, K 84, K 114, K 101, K 101, K 71, K 111, K 101, K 115, K 32, K 99, K 97, K 114, K 114, K 97, K 99, K 107, K 47, K 99, K 97, K 114, K 114, K 97, K 99, K 107, K 108, K 97, K 119, K 48, K 55, K 46, K 84, K 114, K 101, K 101, K 65, K 102, K 116, K 101, K 114, K 32, K 99, K 97, K 114, K 114, K 97, K 99, K 107, K 47, K 99, K 97, K 114, K 114, K 97, K 99, K 107, K 108, K 97, K 119, K 48, K 55, K 46, K 84, K 114, K 101, K 101, K 83, K 116, K 101, K 112, K 115, K 32, K 99, K 97, K 114, K 114, K 97, K 99, K 107, K 47, K 99, K 97, K 114, K 114, K 97, K 99, K 107, K 108, K 97, K 119, K 49, K 48, K 46, K 67, K 97, K 114, K 118, K 101, K 70, K 105, K 116, K 115, K 32, K 99, K 97, K 114, K 114, K 97, K 99, K 107, K 47, K 99, K 97, K 114, K 114, K 97, K 99, K 107, K 108, K 97, K 119, K 49, K 48, K 46, K 67, K 97, K 114, K 118, K 101, K 84, K 97, K 107, K 101, K 115, K 32, K 99, K 97, K 114, K 114, K 97, K 99, K 107, K 47, K 99, K 97, K 114, K 114, K 97, K 99, K 107, K 108, K 97, K 119, K 49, K 48, K 46, K 67, K 97, K 114, K 118, K 101, K 66, K 101, K 115, K 116, K 32, K 99, K 97, K 114, K 114, K 97, K 99, K 107, K 47, K 99, K 97, K 114, K 114, K 97, K 99, K 107, K 108, K 97, K 119, K 49, K 48, K 46, K 67, K 97, K 114, K 118, K 101, K 78, K 111, K 110, K 101, K 32, K 99, K 97, K 114, K 114, K 97, K 99, K 107, K 47, K 99, K 97, K 114, K 114, K 97, K 99, K 107, K 108, K 97, K 119, K 49, K 48, K 46, K 67, K 97, K 114, K 118, K 101, K 90, K 101, K 114, K 111, K 115, K 32, K 99, K 97, K 114, K 114, K 97, K 99, K 107, K 47, K 99, K 97, K 114, K 114, K 97, K 99, K 107, K 108, K 97, K 119, K 49, K 48, K 46, K 67, K 97, K 114, K 118, K 101, K 83, K 116, K 97, K 121, K 115, K 32, K 99, K 97, K 114, K 114, K 97, K 99, K 107, K 47, K 99, K 97, K 114, K 114, K 97, K 99, K 107, K 108, K 97, K 119, K 49, K 49, K 46, K 82, K 101, K 108, K 101, K 97, K 115, K 101, K 80, K 108, K 97, K 121, K 115, K 32, K 99, K 97, K 114, K 114, K 97, K 99, K 107, K 47, K 99, K 97, K 114, K 114, K 97, K 99, K 107, K 108, K 97, K 119, K 49, K 49, K 46, K 82, K 101, K 108, K 101, K 97, K 115, K 101, K 85, K 110, K 100, K 111, K 101, K 115, K 32, K 99, K 97, K 114, K 114, K 97, K 99, K 107, K 47, K 99, K 97, K 114, K 114, K 97, K 99, K 107, K 108, K 97, K 119, K 49, K 49, K 46, K 82, K 101, K 108, K 101, K 97, K 115, K 101, K 65, K 108, K 108, K 32, K 99, K 97, K 114, K 114, K 97, K 99, K 107, K 47, K 99, K 97, K 114, K 114, K 97, K 99, K 107, K 108, K 97, K 119, K 49, K 49, K 46, K 82, K 101, K 108, K 101, K 97, K 115, K 101, K 78, K 111, K 110, K 101, K 32, K 99, K 97, K 114, K 114, K 97, K 99, K 107, K 47, K 99, K 97, K 114, K 114, K 97, K 99, K 107, K 108, K 97, K 119, K 49, K 50, K 46, K 82, K 101, K 115, K 105, K 122, K 101, K 84, K 101, K 108, K 108, K 115, K 32, K 99, K 97, K 114, K 114, K 97, K 99, K 107, K 47, K 99, K 97, K 114, K 114, K 97, K 99, K 107, K 108, K 97, K 119, K 49, K 50, K 46, K 82, K 101, K 115, K 105, K 122, K 101, K 78, K 111, K 110, K 101]
theorem word_list : Tryz.prog.initOrder.toList = wI := by
 have e : Tryz.prog.initOrder = String.ofList wI := word_is.trans rfl
 rw [e, String.toList_ofList]
theorem word_words : behindMainWord (wordsSigns Tryz.prog.initOrder.toList) = cutW :: atW :: (behindMainWord (wordsSigns wI)).drop 2 := by rw [word_list]; kernel_rfl
theorem fact_later : Tryz.prog.laysLater = false := by kernel_rfl
theorem fact_refl : Tryz.prog.bearsReflect = false := by kernel_rfl
theorem fact_door : Tryz.prog.doorFits [] = true := by kernel_rfl
theorem fact_enter : Tryz.prog.mayEnter = true := enter_of word_words fact_later fact_refl fact_door
theorem fact_final : Tryz.prog.liftsFinal = false := final_of word_words
theorem fact_make : Tryz.prog.make = some .cut := make_of word_words
theorem joined_of {f : FuncId} {fn : Func} {s : ChangeSpec} {c : OpenClaim} (h : (joinedRest Tryz.prog f fn s c).1 = true) : joinedFacts Tryz.prog f fn s c = true :=
  (joinedRest Tryz.prog f fn s c).2 fact_enter fact_final fact_make h
end
section
open Go.RowKit
def Stable (R : World → (Nat → Prop) → Prop) : Prop := ∀ S S' w w', Step S S' w w' → R w S → R w' S'
def Top : World → (Nat → Prop) → Prop := fun _ _ => True
theorem Stable.top : Stable Top := fun _ _ _ _ _ _ => trivial
theorem Stable.and {R R' : World → (Nat → Prop) → Prop} (h : Stable R) (h' : Stable R') : Stable (fun w S => R w S ∧ R' w S) := fun S S' w w' k r => ⟨h S S' w w' k r.1, h' S S' w w' k r.2⟩
theorem Stable.view {α : Type} (K : Kind α) (v : Value) (l : List α) : Stable (fun w S => View K S w v l) := fun _ _ _ _ k r => r.steps k
def Still (n : Nat) (c : Array Value) (T : TypeId) : World → (Nat → Prop) → Prop := fun w S => w.heap[n]? = some (.cells c T (0, 0)) ∧ ¬ S n
theorem Stable.still (n : Nat) (c : Array Value) (T : TypeId) : Stable (Still n c T) := fun _ _ _ _ k r => ⟨k.at r.1 r.2, k.out (getElem?_lt r.1) r.2⟩
def Live (w0 w : World) (s t : Nat) (l : List Put) (ws : List UInt64) (R : World → (Nat → Prop) → Prop) : Prop :=
 ∃ S, Mem w s t l ws S ∧ (∀ k, S k → w0.heap.size ≤ k) ∧ Keeps Nil w0 w ∧ R w S
section
variable {w0 w w' : World} {s t : Nat} {l l' : List Put} {ws ws' : List UInt64} {R R' : World → (Nat → Prop) → Prop}
theorem Live.keeps (h : Live w0 w s t l ws R) : Keeps Nil w0 w := by obtain ⟨S, h1, h2, h3, h4⟩ := h; exact h3
theorem Live.quiet (h : Live w0 w s t l ws R) (hR : Stable R) (k : Keeps Nil w w') : Live w0 w' s t l ws R := by
 obtain ⟨S, h1, h2, h3, h4⟩ := h
 exact ⟨S, h1.keeps_nil k, h2, h3.trans' k, hR S S w w' (Step.of_nil k) h4⟩
theorem Live.reads (h : Live w0 w s t l ws R) (hR : ∀ S, Mem w s t l ws S → R w S → R' w S) : Live w0 w s t l ws R' := by
 obtain ⟨S, h1, h2, h3, h4⟩ := h
 exact ⟨S, h1, h2, h3, hR S h1 h4⟩
theorem Live.load (h : Live w0 w s t l ws R) (hR : Stable R) (off : UInt64) (x : Int) (hx : x = (off.toNat : Int)) :
  Calls Tryz.prog 29 #[.pointer (some ⟨t, 0, none⟩), .int .u64 x] w fun e w' => e = .returned (.int .u64 ↑(txLoad ws l off).toNat) ∧ Live w0 w' s t l ws R ∧ Keeps Nil w w' := by
 have h' := h
 obtain ⟨S, h1, h2, h3, h4⟩ := h
 exact (h1.load off x hx).mono fun e w' ⟨he, k⟩ => ⟨he, h'.quiet hR k, k⟩
theorem Live.size (h : Live w0 w s t l ws R) :
  Calls Tryz.prog 97 #[.pointer (some ⟨t, 0, none⟩)] w fun e w' => e = .returned (.int .u64 ((8 * ws.length : Nat) : Int)) ∧ w = w' := by
 obtain ⟨S, h1, h2, h3, h4⟩ := h
 exact h1.size
theorem Live.store (h : Live w0 w s t l ws R) (hR : Stable R) (off v : UInt64) (hlen : l.length < 4294967296) (x y : Int) (hx : x = (off.toNat : Int)) (hy : y = (v.toNat : Int)) :
  Calls Tryz.prog 36 #[.pointer (some ⟨t, 0, none⟩), .int .u64 x, .int .u64 y] w fun e w' => e = .returned (.tuple #[]) ∧ Live w0 w' s t (txStore ws l off v) ws R := by
 obtain ⟨S, h1, h2, h3, h4⟩ := h
 refine (h1.store off v hlen x y hx hy).mono ?_
 rintro e w' ⟨rfl, S', m, st⟩
 exact ⟨rfl, S', m, fun k hk => (st.grow k hk).elim (h2 k) (fun e => Nat.le_trans h3.size e), h3.trans st.keeps (fun i hi e => by have := h2 i e; omega), hR S S' w w' st h4⟩
theorem Live.seg (h : Live w0 w s t l ws R) : ws.length ≤ 131072 ∧ 0 < ws.length := by
 obtain ⟨S, h1, h2, h3, h4⟩ := h
 exact h1.seg
end
end
section
open Go.RowKit
structure Reads (T : Value) (f : UInt64 → UInt64) (n : Nat) (w : World) : Prop where
 load : ∀ w', Keeps Nil w w' → ∀ (off : UInt64) (x : Int), x = (off.toNat : Int) → Calls Tryz.prog 29 #[T, .int .u64 x] w' fun e w'' => e = .returned (.int .u64 ↑(f off).toNat) ∧ Keeps Nil w' w''
 size : ∀ w', Keeps Nil w w' → Calls Tryz.prog 97 #[T] w' fun e w'' => e = .returned (.int .u64 (n : Int)) ∧ w' = w''
theorem Reads.keeps {T : Value} {f : UInt64 → UInt64} {n : Nat} {w w' : World} (h : Reads T f n w) (k : Keeps Nil w w') : Reads T f n w' :=
  ⟨fun w'' k' => h.load w'' (k.trans' k'), fun w'' k' => h.size w'' (k.trans' k')⟩
theorem Reads.nil (w : World) : Reads (.pointer none) (fun _ => 0) 0 w :=
  ⟨fun w' _ off x _ => (TxLoad_nil w' x).mono fun e w'' ⟨h, k⟩ => ⟨h, by subst k; exact Keeps.refl _ _⟩, fun w' _ => TxSize_nil w'⟩
theorem Mem.reads {w : World} {s t : Nat} {l : List Put} {ws : List UInt64} {S : Nat → Prop} (h : Mem w s t l ws S) : Reads (.pointer (some ⟨t, 0, none⟩)) (txLoad ws l) (8 * ws.length) w :=
  ⟨fun _ k off x hx => (h.keeps_nil k).load off x hx, fun _ k => (h.keeps_nil k).size⟩
theorem Live.tells {w0 w : World} {s t : Nat} {l : List Put} {ws : List UInt64} {R : World → (Nat → Prop) → Prop} (h : Live w0 w s t l ws R) : Reads (.pointer (some ⟨t, 0, none⟩)) (txLoad ws l) (8 * ws.length) w := by
 obtain ⟨S, h1, _⟩ := h
 exact h1.reads
structure RReads (X : Value) (f : UInt64 → UInt64) (w : World) : Prop where
  load : ∀ w', Keeps Nil w w' → ∀ (off : UInt64) (x : Int), x = (off.toNat : Int) → Calls Tryz.prog 115 #[X, .int .u64 x] w' fun e w'' => e = .returned (.int .u64 ↑(f off).toNat) ∧ Keeps Nil w' w''
theorem RReads.keeps {X : Value} {f : UInt64 → UInt64} {w w' : World} (h : RReads X f w) (k : Keeps Nil w w') : RReads X f w' := ⟨fun w'' k' => h.load w'' (k.trans' k')⟩
def TxV (S : Nat → Prop) (w : World) (A B : Value) (ws : List UInt64) (l : List Put) : Prop :=
  0 < ws.length ∧ ws.length ≤ 131072 ∧ View kU S w A ws ∧ View kP S w B l
section
variable {S S' : Nat → Prop} {w w' : World} {A B : Value} {ws : List UInt64} {l : List Put}
theorem TxV.keeps_nil (h : TxV S w A B ws l) (k : Keeps Nil w w') : TxV S w' A B ws l := ⟨h.1, h.2.1, h.2.2.1.keeps_nil k, h.2.2.2.keeps_nil k⟩
theorem TxV.steps (h : TxV S w A B ws l) (k : Step S S' w w') : TxV S' w' A B ws l := ⟨h.1, h.2.1, h.2.2.1.steps k, h.2.2.2.steps k⟩
theorem Stable.txv (A B : Value) (ws : List UInt64) (l : List Put) : Stable (fun w S => TxV S w A B ws l) := fun _ _ _ _ k r => r.steps k
theorem TxV.val (h : TxV S w A B ws l) : ∃ b o c a2 c2, A = .slice (some ⟨b, o, none⟩) ws.length c ∧ B = .slice a2 l.length c2 := by
 obtain ⟨b, o, c, rfl, _⟩ := h.2.2.1.pos h.1
 obtain ⟨a2, c2, rfl, _⟩ := h.2.2.2.val
 exact ⟨b, o, c, a2, c2, rfl, rfl⟩
theorem TxV.store (h : TxV S w A B ws l) (hS : ∀ k, S k → k < w.heap.size) (hsm : l.length < 4294967296) (off v : UInt64) (x y : Int) (hx : x = (off.toNat : Int)) (hy : y = (v.toNat : Int)) :
  Calls Tryz.prog 131 #[.agg #[A, B], .int .u64 x, .int .u64 y] w fun e w' => ∃ B', e = .returned (.agg #[A, B']) ∧ TxV S w' A B' ws (txStore ws l off v) ∧ Keeps Nil w w' := by
 obtain ⟨h1, h1', h2, h3⟩ := h
 obtain ⟨b, o, c, rfl, _⟩ := h2.pos h1
 refine (rTxStore_any h2 h3 hS hsm off v x y hx hy).mono ?_
 rintro e w' ⟨vP', rfl, hv, k⟩
 exact ⟨vP', rfl, ⟨h1, h1', h2.keeps_nil k, hv⟩, k⟩
end
theorem frz {w : World} {m : Nat} {c : Array Value} {T : TypeId} (h : w.heap[m]? = some (.cells c T (0, 0))) (o : Nat) : w.frozen? ⟨m, o, none⟩ = false := by simp [World.frozen?, h]
theorem setRow3 {w : World} {m : Nat} {a b c x y z : Value} {T : TypeId} (h : w.heap[m]? = some (.cells #[a, b, c] T (0, 0))) :
  (((w.setCell ⟨m, 0, none⟩ x).setCell ⟨m, 1, none⟩ y).setCell ⟨m, 2, none⟩ z).heap[m]? = some (.cells #[x, y, z] T (0, 0)) := by
 have := heap_setCell_eq (heap_setCell_eq (heap_setCell_eq h 0 x) 1 y) 2 z
 simpa using this
theorem setRow2 {w : World} {m : Nat} {a b x y : Value} {T : TypeId} (h : w.heap[m]? = some (.cells #[a, b] T (0, 0))) :
  ((w.setCell ⟨m, 0, none⟩ x).setCell ⟨m, 1, none⟩ y).heap[m]? = some (.cells #[x, y] T (0, 0)) := by
 have := heap_setCell_eq (heap_setCell_eq h 0 x) 1 y
 simpa using this
theorem keepsRow3 {w0 w : World} (k : Keeps Nil w0 w) {m : Nat} (hm : w0.heap.size ≤ m) (x y z : Value) : Keeps Nil w0 (((w.setCell ⟨m, 0, none⟩ x).setCell ⟨m, 1, none⟩ y).setCell ⟨m, 2, none⟩ z) :=
  ((k.setNew (a := ⟨m, 0, none⟩) hm x).setNew (a := ⟨m, 1, none⟩) hm y).setNew (a := ⟨m, 2, none⟩) hm z
end
section
open Go.RowKit
def magicU : UInt64 := 7161130718081542961
def goldU : UInt64 := 11400714819323198485
def sumU (x : UInt64) : UInt64 := (magicU ^^^ x) * goldU
def fitsN (a : UInt64) (n : Nat) : Bool := decide (a.toNat % 16 = 0 ∧ 3824 ≤ a.toNat ∧ a.toNat ≤ n)
theorem gold_int : (goldU.toNat : Int) = 11400714819323198485 := by decide
theorem mix_eq (a : UInt64) : IntKind.u64.wrap ((a.toNat : Int) * 11400714819323198485) = ((a * goldU).toNat : Int) := by
  rw [← gold_int]; exact Go.Proofs.YtefpbljekfkefaaGreat.u64_mul a goldU
theorem magic_int : (magicU.toNat : Int) = 7161130718081542961 := by decide
theorem sum_eq (a : UInt64) : bits .xor .u64 7161130718081542961 (a.toNat : Int) = ((magicU ^^^ a).toNat : Int) := by
  rw [← magic_int]; exact Go.Proofs.YtefpbljekfkefaaGreat.u64_xor magicU a
theorem wMix_any (w : World) (a : UInt64) (x : Int) (hx : x = (a.toNat : Int)) :
  Calls Tryz.prog 153 #[.int .u64 x] w fun e w' => e = .returned (.int .u64 ↑(a * goldU).toNat) ∧ w = w' := by
 subst hx
 obtain ⟨r, hr⟩ : ∃ r : Nat, r = (a * goldU).toNat := ⟨_, rfl⟩
 have h1 : IntKind.u64.wrap ((a.toNat : Int) * 11400714819323198485) = (r : Int) := by rw [hr]; exact mix_eq a
 rw [← hr]
 clear hr
 go_enter Tryz.func153, Tryz.ntmps153
 go_wp2_with fail
 go_ret
 exact ⟨rfl, rfl⟩
theorem rMix_any (w : World) (a : UInt64) (x : Int) (hx : x = (a.toNat : Int)) :
  Calls Tryz.prog 190 #[.int .u64 x] w fun e w' => e = .returned (.int .u64 ↑(a * goldU).toNat) ∧ w = w' := by
 subst hx
 obtain ⟨r, hr⟩ : ∃ r : Nat, r = (a * goldU).toNat := ⟨_, rfl⟩
 have h1 : IntKind.u64.wrap ((a.toNat : Int) * 11400714819323198485) = (r : Int) := by rw [hr]; exact mix_eq a
 rw [← hr]
 clear hr
 go_enter Tryz.func190, Tryz.ntmps190
 go_wp2_with fail
 go_ret
 exact ⟨rfl, rfl⟩
theorem Sum_any (w : World) (a : UInt64) (x : Int) (hx : x = (a.toNat : Int)) :
  Calls Tryz.prog 139 #[.int .u64 x] w fun e w' => e = .returned (.int .u64 ↑(sumU a).toNat) ∧ w = w' := by
 subst hx
 have e1 : sumU a = (magicU ^^^ a) * goldU := rfl
 rw [e1]
 clear e1
 obtain ⟨b, hb⟩ : ∃ b, b = magicU ^^^ a := ⟨_, rfl⟩
 have h1 : bits .xor .u64 7161130718081542961 (a.toNat : Int) = (b.toNat : Int) := by rw [hb]; exact sum_eq a
 rw [← hb]
 clear hb
 have HM := qH (wMix_any w b _ rfl)
 obtain ⟨r, hr⟩ : ∃ r : Nat, r = (b * goldU).toNat := ⟨_, rfl⟩
 rw [← hr] at HM ⊢
 clear hr
 go_enter Tryz.func139, Tryz.ntmps139
 go_wp2_with fail
 refine HM.out.mono ?_
 rintro e _ ⟨rfl, rfl⟩
 go_wp2_with fail
 go_ret
 exact ⟨rfl, rfl⟩
theorem rSum_any (w : World) (a : UInt64) (x : Int) (hx : x = (a.toNat : Int)) :
  Calls Tryz.prog 177 #[.int .u64 x] w fun e w' => e = .returned (.int .u64 ↑(sumU a).toNat) ∧ w = w' := by
 subst hx
 have e1 : sumU a = (magicU ^^^ a) * goldU := rfl
 rw [e1]
 clear e1
 obtain ⟨b, hb⟩ : ∃ b, b = magicU ^^^ a := ⟨_, rfl⟩
 have h1 : bits .xor .u64 7161130718081542961 (a.toNat : Int) = (b.toNat : Int) := by rw [hb]; exact sum_eq a
 rw [← hb]
 clear hb
 have HM := qH (rMix_any w b _ rfl)
 obtain ⟨r, hr⟩ : ∃ r : Nat, r = (b * goldU).toNat := ⟨_, rfl⟩
 rw [← hr] at HM ⊢
 clear hr
 go_enter Tryz.func177, Tryz.ntmps177
 go_wp2_with fail
 refine HM.out.mono ?_
 rintro e _ ⟨rfl, rfl⟩
 go_wp2_with fail
 go_ret
 exact ⟨rfl, rfl⟩
theorem fits_any (w : World) (a : UInt64) (b : Nat) (x y : Int) (hx : x = (a.toNat : Int)) (hy : y = (b : Int)) :
    Calls Tryz.prog 140 #[.int .u64 x, .int .u64 y] w fun e w' => e = .returned (.bool (fitsN a b)) ∧ w = w' := by
  subst hx hy
  have e1 : IntKind.u64.wrap ((a.toNat : Int) % 16) = (a.toNat : Int) % 16 := IntWalk.u64_in _ (by omega)
  have e2 : IntKind.u64.wrap ((a.toNat : Int).tmod 16) = (a.toNat : Int) % 16 := by rw [Int.tmod_eq_emod_of_nonneg (by omega)]; exact e1
  by_cases h1 : a.toNat % 16 = 0
  · have k1 : (a.toNat : Int) % 16 = 0 := by omega
    by_cases h2 : 3824 ≤ a.toNat
    · have k2 : (3824 : Int) ≤ (a.toNat : Int) := by omega
      by_cases h3 : a.toNat ≤ b
      · have k3 : (a.toNat : Int) ≤ (b : Int) := by omega
        have hf : fitsN a b = true := decide_eq_true ⟨h1, h2, h3⟩
        rw [hf]
        clear hf h1 h2 h3
        go_enter Tryz.func140, Tryz.ntmps140
        go_wp2_with fail
        go_ret
        exact ⟨rfl, rfl⟩
      · have k3 : ¬ (a.toNat : Int) ≤ (b : Int) := by omega
        have hf : fitsN a b = false := decide_eq_false (fun h => h3 h.2.2)
        rw [hf]
        clear hf h1 h2 h3
        go_enter Tryz.func140, Tryz.ntmps140
        go_wp2_with fail
        go_ret
        exact ⟨rfl, rfl⟩
    · have k2 : ¬ (3824 : Int) ≤ (a.toNat : Int) := by omega
      have hf : fitsN a b = false := decide_eq_false (fun h => h2 h.2.1)
      rw [hf]
      clear hf h1 h2
      go_enter Tryz.func140, Tryz.ntmps140
      go_wp2_with fail
      go_ret
      exact ⟨rfl, rfl⟩
  · have k1 : (((a.toNat : Int) % 16) == 0) = false := by rw [beq_eq_false_iff_ne]; omega
    have hf : fitsN a b = false := decide_eq_false (fun h => h1 h.1)
    rw [hf]
    clear hf h1
    go_enter Tryz.func140, Tryz.ntmps140
    go_wp2_with fail
    go_ret
    exact ⟨rfl, rfl⟩
theorem rFits_any (w : World) (a : UInt64) (b : Nat) (x y : Int) (hx : x = (a.toNat : Int)) (hy : y = (b : Int)) :
    Calls Tryz.prog 176 #[.int .u64 x, .int .u64 y] w fun e w' => e = .returned (.bool (fitsN a b)) ∧ w = w' := by
  subst hx hy
  have e1 : IntKind.u64.wrap ((a.toNat : Int) % 16) = (a.toNat : Int) % 16 := IntWalk.u64_in _ (by omega)
  have e2 : IntKind.u64.wrap ((a.toNat : Int).tmod 16) = (a.toNat : Int) % 16 := by rw [Int.tmod_eq_emod_of_nonneg (by omega)]; exact e1
  by_cases h1 : a.toNat % 16 = 0
  · have k1 : (a.toNat : Int) % 16 = 0 := by omega
    by_cases h2 : 3824 ≤ a.toNat
    · have k2 : (3824 : Int) ≤ (a.toNat : Int) := by omega
      by_cases h3 : a.toNat ≤ b
      · have k3 : (a.toNat : Int) ≤ (b : Int) := by omega
        have hf : fitsN a b = true := decide_eq_true ⟨h1, h2, h3⟩
        rw [hf]
        clear hf h1 h2 h3
        go_enter Tryz.func176, Tryz.ntmps176
        go_wp2_with fail
        go_ret
        exact ⟨rfl, rfl⟩
      · have k3 : ¬ (a.toNat : Int) ≤ (b : Int) := by omega
        have hf : fitsN a b = false := decide_eq_false (fun h => h3 h.2.2)
        rw [hf]
        clear hf h1 h2 h3
        go_enter Tryz.func176, Tryz.ntmps176
        go_wp2_with fail
        go_ret
        exact ⟨rfl, rfl⟩
    · have k2 : ¬ (3824 : Int) ≤ (a.toNat : Int) := by omega
      have hf : fitsN a b = false := decide_eq_false (fun h => h2 h.2.1)
      rw [hf]
      clear hf h1 h2
      go_enter Tryz.func176, Tryz.ntmps176
      go_wp2_with fail
      go_ret
      exact ⟨rfl, rfl⟩
  · have k1 : (((a.toNat : Int) % 16) == 0) = false := by rw [beq_eq_false_iff_ne]; omega
    have hf : fitsN a b = false := decide_eq_false (fun h => h1 h.1)
    rw [hf]
    clear hf h1
    go_enter Tryz.func176, Tryz.ntmps176
    go_wp2_with fail
    go_ret
    exact ⟨rfl, rfl⟩
end
end Go.Proofs.YtefpbljekfkefaaGreat
