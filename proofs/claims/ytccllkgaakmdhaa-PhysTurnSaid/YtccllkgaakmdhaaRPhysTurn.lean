/- carracklaw06.PhysTurn returns true for every input, with no condition, and its arguments read behind the call as they read before. -/
import Derived.Test.YtccllkgaakmdhaaOpen2
import Derived.Test.YtccllkgaakmdhaaOpen6
import Derived.Test.YtccllkgaakmdhaaFacts
import Derived.Test.YtccllkgaakmdhaaW6e
namespace Go.Proofs.Ytccllkgaakmdhaa
open Go.ChangeShapes Go.WideShapes Go.ChangeAt Go.RowKit Go.Deep Go.Joins

set_option maxRecDepth 100000 in
theorem physTurn_lifted (os : Os) (started : os.Started) (H : Type) (enc : TypeId × Value → H) :
    ReturnsInHanded {} Try.checked os 25 .any (Rows.physTurnSpec.pre6 enc Try.prog Try.f25 Rows.physTurnRow.domain false) (Rows.physTurnSpec.post enc Try.prog Try.f25 false true false false) := by
  refine returnsInHanded_of_change (C := Try.checked) prog_own started (by kernel_rfl) Try.func25
    (ChangeSpec.witness6 (enc := enc) (C := Try.checked) false ⟨#[], #[.slice none 0 0], []⟩ 8 (by kernel_rfl) (by kernel_rfl) (by kernel_rfl) (by kernel_rfl)) ?_
  intro W base args ds gs before hval0 hW hcnd _
  have hval : ∀ (j : Nat) t v, Try.f25.params[j]? = some t → args[j]? = some v → Value.okWide Try.prog W .any base t v := hval0
  have hW' := hW
  obtain ⟨p, q, hA0, hV, rfl, hfz, hnd⟩ := hW
  have hA : DataW.TrodAll enc Try.prog W 0 (fun _ => true) true Try.f25.params.toList args.toList ds p := hA0
  rw [Try.params25] at hA hval
  obtain ⟨v0, d0, rfl, rfl, h0⟩ := trodAll_one hA
  obtain ⟨rfl, rfl⟩ := trodVars_none hV
  have s0 : v0.cells.toList = [v0] := by obtain ⟨_, _, _, rfl⟩ := okWide_slice Try.underlying100 (hval 0 100 v0 rfl rfl); rfl
  obtain ⟨l0, k0⟩ := open_look (K := kPc) Try.underlying100 (by kernel_rfl) dec_piece h0 s0
  simp only [List.append_nil] at hW'
  refine (physTurn_any k0).mono fun e W' ⟨he, hK⟩ => ?_
  subst he
  exact ⟨_, rfl, row_post prog_laid (by first | exact hW' | simpa using hW') rfl (by kernel_rfl) (by kernel_rfl) Try.underlying4 rfl hK⟩

set_option maxRecDepth 100000 in
theorem physTurn_holds : Rows.PhysTurnSaid :=
  OpenClaim.holds_of_wide 25 Try.f25 rfl rfl rfl rfl rfl rfl rfl ⟨rfl, rfl, rfl, rfl, rfl⟩ rfl rfl rfl rfl rfl (by kernel_rfl) Try.func25 (joined_of (by kernel_rfl))
    (of_decide_eq_true (by kernel_rfl)) (by unfold Func.isWrapper; rw [if_neg (by decide +kernel)]; exact ⟨rfl, rfl⟩)
    (fun os started H enc _ => physTurn_lifted os started H enc)
end Go.Proofs.Ytccllkgaakmdhaa
