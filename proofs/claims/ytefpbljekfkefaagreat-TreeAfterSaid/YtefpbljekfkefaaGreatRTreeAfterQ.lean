/- carracklaw07.TreeAfter returns true for every input, with no condition, and its arguments read behind the call as they read before. -/
import Derived.Test.YtefpbljekfkefaaGreatM03
import Derived.Test.YtefpbljekfkefaaGreatM17
import Derived.Test.YtefpbljekfkefaaGreatM04
import Derived.Test.YtefpbljekfkefaaGreatW7aQ
namespace Go.Proofs.YtefpbljekfkefaaGreat
open Go.ChangeShapes Go.WideShapes Go.ChangeAt Go.RowKit Go.Deep Go.Joins

set_option maxRecDepth 100000 in
theorem treeAfter_lifted (os : Os) (started : os.Started) (H : Type) (enc : TypeId × Value → H) :
    ReturnsInHanded {} Tryz.checked os 11 .any (Rows.treeAfterSpec.pre6 enc Tryz.prog Tryz.f11 Rows.treeAfterRow.domain false) (Rows.treeAfterSpec.post enc Tryz.prog Tryz.f11 false true false false) := by
  refine returnsInHanded_of_change (C := Tryz.checked) prog_own started (by kernel_rfl) Tryz.func11
    (ChangeSpec.witness6 (enc := enc) (C := Tryz.checked) false ⟨#[], #[.slice none 0 0, .int .u64 0, .int .u64 0], []⟩ 8 (by kernel_rfl) (by kernel_rfl) (by kernel_rfl) (by kernel_rfl)) ?_
  intro W base args ds gs before hval0 hW hcnd _
  have hval : ∀ (j : Nat) t v, Tryz.f11.params[j]? = some t → args[j]? = some v → Value.okWide Tryz.prog W .any base t v := hval0
  have hW' := hW
  obtain ⟨p, q, hA0, hV, rfl, hfz, hnd⟩ := hW
  have hA : DataW.TrodAll enc Tryz.prog W 0 (fun _ => true) true Tryz.f11.params.toList args.toList ds p := hA0
  rw [Tryz.params11] at hA hval
  obtain ⟨v0, v1, v2, d0, d1, d2, p0, p1, p2, rfl, rfl, rfl, h0, h1, h2⟩ := trodAll_three hA
  obtain ⟨rfl, rfl⟩ := trodVars_none hV
  have s0 : v0.cells.toList = [v0] := by obtain ⟨_, _, _, rfl⟩ := okWide_slice Tryz.underlying67 (hval 0 67 v0 rfl rfl); rfl
  obtain ⟨l0, k0⟩ := open_look (K := kPc) Tryz.underlying67 (by kernel_rfl) dec_piece h0 s0
  obtain ⟨n1, rfl, rfl, rfl, w1⟩ := open_int Tryz.underlying25 (hval 1 25 v1 rfl rfl) h1
  obtain ⟨u1, rfl⟩ := u64_some w1
  obtain ⟨n2, rfl, rfl, rfl, w2⟩ := open_int Tryz.underlying25 (hval 2 25 v2 rfl rfl) h2
  obtain ⟨u2, rfl⟩ := u64_some w2
  simp only [List.append_nil] at hW'
  refine (treeAfter_any u1 u2 k0).mono fun e W' ⟨he, hK⟩ => ?_
  subst he
  exact ⟨_, rfl, row_post prog_laid (by first | exact hW' | simpa using hW') rfl (by kernel_rfl) (by kernel_rfl) Tryz.underlying4 rfl hK⟩

set_option maxRecDepth 100000 in
theorem treeAfter_holds : Rows.TreeAfterSaid :=
  OpenClaim.holds_of_wide 11 Tryz.f11 rfl rfl rfl rfl rfl rfl rfl ⟨rfl, rfl, rfl, rfl, rfl⟩ rfl rfl rfl rfl rfl (by kernel_rfl) Tryz.func11 (joined_of (by kernel_rfl))
    (of_decide_eq_true (by kernel_rfl)) (by unfold Func.isWrapper; rw [if_neg (by decide +kernel)]; exact ⟨rfl, rfl⟩)
    (fun os started H enc _ => treeAfter_lifted os started H enc)
end Go.Proofs.YtefpbljekfkefaaGreat
