/- carracklaw06.PhysRaw returns true for every input, with no condition, and its arguments read behind the call as they read before. -/
import Derived.Test.YtccllkgaakmdhaaOpen2
import Derived.Test.YtccllkgaakmdhaaFacts
import Derived.Test.YtccllkgaakmdhaaW6a
namespace Go.Proofs.Ytccllkgaakmdhaa
open Go.ChangeShapes Go.WideShapes Go.ChangeAt Go.RowKit Go.Deep Go.Joins

set_option maxRecDepth 100000 in
theorem physRaw_lifted (os : Os) (started : os.Started) (H : Type) (enc : TypeId × Value → H) :
    ReturnsInHanded {} Try.checked os 20 .any (Rows.physRawSpec.pre6 enc Try.prog Try.f20 Rows.physRawRow.domain false) (Rows.physRawSpec.post enc Try.prog Try.f20 false true false false) := by
  refine returnsInHanded_of_change (C := Try.checked) prog_own started (by kernel_rfl) Try.func20
    (ChangeSpec.witness6 (enc := enc) (C := Try.checked) false ⟨#[], #[.int .u64 0, .slice none 0 0], []⟩ 8 (by kernel_rfl) (by kernel_rfl) (by kernel_rfl) (by kernel_rfl)) ?_
  intro W base args ds gs before hval0 hW hcnd _
  have hval : ∀ (j : Nat) t v, Try.f20.params[j]? = some t → args[j]? = some v → Value.okWide Try.prog W .any base t v := hval0
  have hW' := hW
  obtain ⟨p, q, hA0, hV, rfl, hfz, hnd⟩ := hW
  have hA : DataW.TrodAll enc Try.prog W 0 (fun _ => true) true Try.f20.params.toList args.toList ds p := hA0
  rw [Try.params20] at hA hval
  obtain ⟨v0, v1, d0, d1, p0, p1, rfl, rfl, rfl, h0, h1⟩ := trodAll_two hA
  obtain ⟨rfl, rfl⟩ := trodVars_none hV
  obtain ⟨n0, rfl, rfl, rfl, w0⟩ := open_int Try.underlying36 (hval 0 36 v0 rfl rfl) h0
  obtain ⟨u0, rfl⟩ := u64_some w0
  have s1 : v1.cells.toList = [v1] := by obtain ⟨_, _, _, rfl⟩ := okWide_slice Try.underlying22 (hval 1 22 v1 rfl rfl); rfl
  obtain ⟨l1, k1⟩ := open_look (K := kP) Try.underlying22 (by kernel_rfl) dec_put h1 s1
  simp only [List.append_nil] at hW'
  refine (physRaw_any u0 k1).mono fun e W' ⟨he, hK⟩ => ?_
  subst he
  exact ⟨_, rfl, row_post prog_laid (by first | exact hW' | simpa using hW') rfl (by kernel_rfl) (by kernel_rfl) Try.underlying4 rfl hK⟩

set_option maxRecDepth 100000 in
theorem physRaw_holds : Rows.PhysRawSaid :=
  OpenClaim.holds_of_wide 20 Try.f20 rfl rfl rfl rfl rfl rfl rfl ⟨rfl, rfl, rfl, rfl, rfl⟩ rfl rfl rfl rfl rfl (by kernel_rfl) Try.func20 (joined_of (by kernel_rfl))
    (of_decide_eq_true (by kernel_rfl)) (by unfold Func.isWrapper; rw [if_neg (by decide +kernel)]; exact ⟨rfl, rfl⟩)
    (fun os started H enc _ => physRaw_lifted os started H enc)
end Go.Proofs.Ytccllkgaakmdhaa
