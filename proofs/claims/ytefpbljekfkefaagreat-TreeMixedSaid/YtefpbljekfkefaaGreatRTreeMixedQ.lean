/- carracklaw07.TreeMixed returns true for every input, with no condition, and its arguments read behind the call as they read before. -/
import Derived.Test.YtefpbljekfkefaaGreatM03
import Derived.Test.YtefpbljekfkefaaGreatOpen8Q
import Derived.Test.YtefpbljekfkefaaGreatM04
import Derived.Test.YtefpbljekfkefaaGreatW7mQ
namespace Go.Proofs.YtefpbljekfkefaaGreat
open Go.ChangeShapes Go.WideShapes Go.ChangeAt Go.RowKit Go.Deep Go.Joins

set_option maxRecDepth 100000 in
theorem treeMixed_lifted (os : Os) (started : os.Started) (H : Type) (enc : TypeId × Value → H) :
    ReturnsInHanded {} Tryz.checked os 9 .any (Rows.treeMixedSpec.pre6 enc Tryz.prog Tryz.f9 Rows.treeMixedRow.domain false) (Rows.treeMixedSpec.post enc Tryz.prog Tryz.f9 false true false false) := by
  refine returnsInHanded_of_change (C := Tryz.checked) prog_own started (by kernel_rfl) Tryz.func9
    (ChangeSpec.witness6 (enc := enc) (C := Tryz.checked) false ⟨#[], #[.slice none 0 0, .slice none 0 0], []⟩ 8 (by kernel_rfl) (by kernel_rfl) (by kernel_rfl) (by kernel_rfl)) ?_
  intro W base args ds gs before hval0 hW hcnd _
  have hval : ∀ (j : Nat) t v, Tryz.f9.params[j]? = some t → args[j]? = some v → Value.okWide Tryz.prog W .any base t v := hval0
  have hW' := hW
  obtain ⟨p, q, hA0, hV, rfl, hfz, hnd⟩ := hW
  have hA : DataW.TrodAll enc Tryz.prog W 0 (fun _ => true) true Tryz.f9.params.toList args.toList ds p := hA0
  rw [Tryz.params9] at hA hval
  obtain ⟨v0, v1, d0, d1, p0, p1, rfl, rfl, rfl, h0, h1⟩ := trodAll_two hA
  obtain ⟨rfl, rfl⟩ := trodVars_none hV
  have s0 : v0.cells.toList = [v0] := by obtain ⟨_, _, _, rfl⟩ := okWide_slice Tryz.underlying67 (hval 0 67 v0 rfl rfl); rfl
  obtain ⟨l0, k0⟩ := open_look (K := kPc) Tryz.underlying67 (by kernel_rfl) dec_piece h0 s0
  have s1 : v1.cells.toList = [v1] := by obtain ⟨_, _, _, rfl⟩ := okWide_slice Tryz.underlying81 (hval 1 81 v1 rfl rfl); rfl
  obtain ⟨l1, k1⟩ := open_look (K := kY) Tryz.underlying81 (by kernel_rfl) dec_u8s h1 s1
  simp only [List.append_nil] at hW'
  refine (treeMixed_any k0 k1).mono fun e W' ⟨he, hK⟩ => ?_
  subst he
  exact ⟨_, rfl, row_post prog_laid (by first | exact hW' | simpa using hW') rfl (by kernel_rfl) (by kernel_rfl) Tryz.underlying4 rfl hK⟩

set_option maxRecDepth 100000 in
theorem treeMixed_holds : Rows.TreeMixedSaid :=
  OpenClaim.holds_of_wide 9 Tryz.f9 rfl rfl rfl rfl rfl rfl rfl ⟨rfl, rfl, rfl, rfl, rfl⟩ rfl rfl rfl rfl rfl (by kernel_rfl) Tryz.func9 (joined_of (by kernel_rfl))
    (of_decide_eq_true (by kernel_rfl)) (by unfold Func.isWrapper; rw [if_neg (by decide +kernel)]; exact ⟨rfl, rfl⟩)
    (fun os started H enc _ => treeMixed_lifted os started H enc)
end Go.Proofs.YtefpbljekfkefaaGreat
