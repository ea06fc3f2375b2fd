/- carracklaw04.HeadAgain returns true for every input, with no condition, and its arguments read behind the call as they read before. -/
import Derived.Test.YtccllkgaakmdhaaOpen2
import Derived.Test.YtccllkgaakmdhaaFacts
import Derived.Test.YtccllkgaakmdhaaWHAgain
namespace Go.Proofs.Ytccllkgaakmdhaa
open Go.ChangeShapes Go.WideShapes Go.ChangeAt Go.RowKit Go.Deep Go.Joins

set_option maxRecDepth 100000 in
theorem headAgain_lifted (os : Os) (started : os.Started) (H : Type) (enc : TypeId × Value → H) :
    ReturnsInHanded {} Try.checked os 12 .any (Rows.headAgainSpec.pre6 enc Try.prog Try.f12 Rows.headAgainRow.domain false) (Rows.headAgainSpec.post enc Try.prog Try.f12 false true false false) := by
  refine returnsInHanded_of_change (C := Try.checked) prog_own started (by kernel_rfl) Try.func12
    (ChangeSpec.witness6 (enc := enc) (C := Try.checked) false ⟨#[], #[.slice none 0 0, .agg #[.int .u64 0, .int .u64 0]], []⟩ 8 (by kernel_rfl) (by kernel_rfl) (by kernel_rfl) (by kernel_rfl)) ?_
  intro W base args ds gs before hval0 hW hcnd _
  have hval : ∀ (j : Nat) t v, Try.f12.params[j]? = some t → args[j]? = some v → Value.okWide Try.prog W .any base t v := hval0
  have hW' := hW
  obtain ⟨p, q, hA0, hV, rfl, hfz, hnd⟩ := hW
  have hA : DataW.TrodAll enc Try.prog W 0 (fun _ => true) true Try.f12.params.toList args.toList ds p := hA0
  rw [Try.params12] at hA hval
  obtain ⟨v0, v1, d0, d1, p0, p1, rfl, rfl, rfl, h0, h1⟩ := trodAll_two hA
  obtain ⟨rfl, rfl⟩ := trodVars_none hV
  have s0 : v0.cells.toList = [v0] := by obtain ⟨_, _, _, rfl⟩ := okWide_slice Try.underlying22 (hval 0 22 v0 rfl rfl); rfl
  obtain ⟨l0, k0⟩ := open_look (K := kP) Try.underlying22 (by kernel_rfl) dec_put h0 s0
  obtain ⟨x1, rfl⟩ := open_enc (f := fun a : UInt64 × UInt64 => [.int .u64 (a.1.toNat : Int), .int .u64 (a.2.toNat : Int)]) (okWide_arr Try.underlying64 (hval 1 64 v1 rfl rfl)) dec_u64x2 h1
  simp only [List.append_nil] at hW'
  refine (hagain_any x1.1 x1.2 k0).mono fun e W' ⟨he, hK⟩ => ?_
  subst he
  exact ⟨_, rfl, row_post prog_laid (by first | exact hW' | simpa using hW') rfl (by kernel_rfl) (by kernel_rfl) Try.underlying4 rfl hK⟩

set_option maxRecDepth 100000 in
theorem headAgain_holds : Rows.HeadAgainSaid :=
  OpenClaim.holds_of_wide 12 Try.f12 rfl rfl rfl rfl rfl rfl rfl ⟨rfl, rfl, rfl, rfl, rfl⟩ rfl rfl rfl rfl rfl (by kernel_rfl) Try.func12 (joined_of (by kernel_rfl))
    (of_decide_eq_true (by kernel_rfl)) (by unfold Func.isWrapper; rw [if_neg (by decide +kernel)]; exact ⟨rfl, rfl⟩)
    (fun os started H enc _ => headAgain_lifted os started H enc)
end Go.Proofs.Ytccllkgaakmdhaa
