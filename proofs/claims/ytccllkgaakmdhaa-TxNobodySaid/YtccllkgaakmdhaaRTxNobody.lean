/- carracklaw03.TxNobody returns true for every input, with no condition, and its argument reads behind the call as it read before. -/
import Derived.Test.YtccllkgaakmdhaaOpen
import Derived.Test.YtccllkgaakmdhaaFacts
import Derived.Test.YtccllkgaakmdhaaW7
namespace Go.Proofs.Ytccllkgaakmdhaa
open Go.ChangeShapes Go.WideShapes Go.ChangeAt Go.RowKit Go.Deep Go.Joins

set_option maxRecDepth 100000 in
theorem txNobody_lifted (os : Os) (started : os.Started) (H : Type) (enc : TypeId × Value → H) :
    ReturnsInHanded {} Try.checked os 7 .any (Rows.txNobodySpec.pre6 enc Try.prog Try.f7 Rows.txNobodyRow.domain false) (Rows.txNobodySpec.post enc Try.prog Try.f7 false true false false) := by
  refine returnsInHanded_of_change (C := Try.checked) prog_own started (by kernel_rfl) Try.func7
    (ChangeSpec.witness6 (enc := enc) (C := Try.checked) false ⟨#[], #[.agg #[.int .u64 0, .int .u64 0]], []⟩ 8 (by kernel_rfl) (by kernel_rfl) (by kernel_rfl) (by kernel_rfl)) ?_
  intro W base args ds gs before hval0 hW hcnd _
  have hval : ∀ (j : Nat) t v, Try.f7.params[j]? = some t → args[j]? = some v → Value.okWide Try.prog W .any base t v := hval0
  have hW' := hW
  obtain ⟨p, q, hA0, hV, rfl, hfz, hnd⟩ := hW
  have hA : DataW.TrodAll enc Try.prog W 0 (fun _ => true) true Try.f7.params.toList args.toList ds p := hA0
  rw [Try.params7] at hA hval
  obtain ⟨v0, d0, rfl, rfl, h0⟩ := trodAll_one hA
  obtain ⟨rfl, rfl⟩ := trodVars_none hV
  obtain ⟨c0, e0, y0, z0, m0, rfl, rfl, rfl, hy0, hz0⟩ := open_agg2 Try.underlying38 (by kernel_rfl) (by kernel_rfl) (hval 0 38 v0 rfl rfl) h0
  obtain ⟨nc0, qc0, rfl, wc0⟩ := DataW.trod_int Try.underlying36 hy0
  obtain ⟨uc0, rfl⟩ := u64_some wc0
  simp only [List.cons.injEq, and_true] at qc0
  subst qc0
  obtain ⟨ne0, qe0, rfl, we0⟩ := DataW.trod_int Try.underlying36 hz0
  obtain ⟨ue0, rfl⟩ := u64_some we0
  simp only [List.cons.injEq, and_true] at qe0
  subst qe0
  simp only [List.append_nil] at hW'
  refine (nobody_any uc0 ue0).mono fun e W' ⟨he, hK⟩ => ?_
  subst he
  exact ⟨_, rfl, row_post prog_laid (by simpa using hW') rfl (by kernel_rfl) (by kernel_rfl) Try.underlying4 rfl hK⟩

set_option maxRecDepth 100000 in
theorem txNobody_holds : Rows.TxNobodySaid :=
  OpenClaim.holds_of_wide 7 Try.f7 rfl rfl rfl rfl rfl rfl rfl ⟨rfl, rfl, rfl, rfl, rfl⟩ rfl rfl rfl rfl rfl (by kernel_rfl) Try.func7 (joined_of (by kernel_rfl))
    (of_decide_eq_true (by kernel_rfl)) (by unfold Func.isWrapper; rw [if_neg (by decide +kernel)]; exact ⟨rfl, rfl⟩)
    (fun os started H enc _ => txNobody_lifted os started H enc)
end Go.Proofs.Ytccllkgaakmdhaa
