/- carracklaw03.TxJoins returns true for every input whose reading is of bulk at most 1048576, and its arguments read behind the call as they read before. -/
import Derived.Test.YtccllkgaakmdhaaOpen
import Derived.Test.YtccllkgaakmdhaaFacts
import Derived.Test.YtccllkgaakmdhaaUpto
import Derived.Test.YtccllkgaakmdhaaW6
namespace Go.Proofs.Ytccllkgaakmdhaa
open Go.ChangeShapes Go.WideShapes Go.ChangeAt Go.RowKit Go.Deep Go.Joins

set_option maxRecDepth 100000 in
theorem txJoins_lifted (os : Os) (started : os.Started) (H : Type) (enc : TypeId × Value → H) (F0 : Stop.Interp) :
    ReturnsInHanded {} Try.checked os 6 .any ((Rows.OpenSpec.upto Rows.txJoinsSpec).pre6 enc Try.prog Try.f6 Rows.txJoinsUptoRow.domain false) (((Rows.OpenSpec.upto Rows.txJoinsSpec).at F0).post enc Try.prog Try.f6 false true false false) := by
  refine returnsInHanded_of_cond (C := Try.checked) (s := Rows.OpenSpec.upto Rows.txJoinsSpec) (k := Rows.uptoSmall) rfl prog_own started (by kernel_rfl) Try.func6
    (OpenSpec.witness (enc := enc) (C := Try.checked) (s := Rows.OpenSpec.upto Rows.txJoinsSpec) (k := Rows.uptoSmall) rfl false ⟨#[], #[.slice none 0 0, .slice none 0 0, .slice none 0 0], []⟩ 8 (by kernel_rfl) (by kernel_rfl) (by kernel_rfl)
      (x := ([.nil, .nil, .nil], [], [])) (by kernel_rfl) (by kernel_rfl) (by kernel_rfl)) ?_
  intro W base args ds gs before hval0 hW _ hbulk0 _
  have hval : ∀ (j : Nat) t v, Try.f6.params[j]? = some t → args[j]? = some v → Value.okWide Try.prog W .any base t v := hval0
  have hW' := hW
  obtain ⟨p, q, hA0, hV, rfl, hfz, hnd⟩ := hW
  have hA : DataW.TrodAll enc Try.prog W 0 (fun _ => true) true Try.f6.params.toList args.toList ds p := hA0
  rw [Try.params6] at hA hval
  obtain ⟨v0, v1, v2, d0, d1, d2, p0, p1, p2, rfl, rfl, rfl, h0, h1, h2⟩ := trodAll_three hA
  obtain ⟨rfl, rfl⟩ := trodVars_none hV
  have s0 : v0.cells.toList = [v0] := by obtain ⟨_, _, _, rfl⟩ := okWide_slice Try.underlying22 (hval 0 22 v0 rfl rfl); rfl
  obtain ⟨l0, k0⟩ := open_look (K := kP) Try.underlying22 (by kernel_rfl) dec_put h0 s0
  have s1 : v1.cells.toList = [v1] := by obtain ⟨_, _, _, rfl⟩ := okWide_slice Try.underlying22 (hval 1 22 v1 rfl rfl); rfl
  obtain ⟨l1, k1⟩ := open_look (K := kP) Try.underlying22 (by kernel_rfl) dec_put h1 s1
  have s2 : v2.cells.toList = [v2] := by obtain ⟨_, _, _, rfl⟩ := okWide_slice Try.underlying22 (hval 2 22 v2 rfl rfl); rfl
  obtain ⟨l2, k2⟩ := open_look (K := kP) Try.underlying22 (by kernel_rfl) dec_put h2 s2
  simp only [List.append_nil] at hW'
  have hbulk : Rows.uptoBulkAll ([d0, d1, d2] ++ []) ≤ 1048576 := of_decide_eq_true hbulk0
  simp only [List.append_nil, Rows.uptoBulkAll] at hbulk
  have b0 : l0.length ≤ 1048576 := by have := look_len Try.underlying22 h0 s0 k0; omega
  have b1 : l1.length ≤ 1048576 := by have := look_len Try.underlying22 h1 s1 k1; omega
  have b2 : l2.length ≤ 1048576 := by have := look_len Try.underlying22 h2 s2 k2; omega
  refine (joins_any k0 k1 k2 b0 b1 b2).mono fun e W' ⟨he, hK⟩ => ?_
  subst he
  exact ⟨_, rfl, row_post prog_laid (by first | exact hW' | simpa using hW') rfl (by kernel_rfl) (by kernel_rfl) Try.underlying4 rfl hK⟩

set_option maxRecDepth 100000 in
theorem txJoins_holds : Rows.TxJoinsUptoSaid :=
  OpenClaim.holds_of_cond 6 Try.f6 rfl rfl rfl rfl rfl rfl rfl ⟨rfl, rfl, rfl, rfl, rfl⟩ rfl rfl rfl rfl rfl (by kernel_rfl) Try.func6 (joined_of (by kernel_rfl))
    (of_decide_eq_true (by kernel_rfl)) (by unfold Func.isWrapper; rw [if_neg (by decide +kernel)]; exact ⟨rfl, rfl⟩)
    (fun os started H enc _ F0 => txJoins_lifted os started H enc F0)
end Go.Proofs.Ytccllkgaakmdhaa
