/- Results that lie in two cells of one block each. -/
import Derived.Test.YtccllkgaakmdhaaWalkP
namespace Go.Proofs.Ytccllkgaakmdhaa
open Go.RowKit

theorem results_cell2 {P : Program} {fn : Func} {tmps : Array Value} {w : World} {p q : Tmp} {ty ty2 : TypeId} {g g2 : Nat} {v v2 : Value} (h : fn.results = #[.cell p ty, .cell q ty2]) (ht : tmps.getD p undef = .pointer (some ⟨g, 0, none⟩)) (hq : tmps.getD q undef = .pointer (some ⟨g2, 0, none⟩))
    (hr : (loadVar ty ⟨g, 0, none⟩).run P w = .ok v w) (hr2 : (loadVar ty2 ⟨g2, 0, none⟩).run P w = .ok v2 w) : (results fn tmps).run P w = .ok (.tuple #[v, v2]) w := by
  have ht' : tmps[p]?.getD undef = .pointer (some ⟨g, 0, none⟩) := by simpa using ht
  have hq' : tmps[q]?.getD undef = .pointer (some ⟨g2, 0, none⟩) := by simpa using hq
  simp only [results, h]
  simp [Sem.run_bind, Result.andThen, ht', hq', asAddr, hr, hr2]
theorem loadVar_slice {w : World} {g : Nat} {v : Value} (hc : w.cell? ⟨g, 0, none⟩ = some v) : (loadVar 93 ⟨g, 0, none⟩).run Try.prog w = .ok v w := by
  have hu := Try.underlying93
  simp [loadVar, run_underlying hu, go_sem, hc]
theorem loadVar_errno {w : World} {g : Nat} {v : Value} (hc : w.cell? ⟨g, 0, none⟩ = some v) : (loadVar 39 ⟨g, 0, none⟩).run Try.prog w = .ok v w := by
  have hu := Try.underlying39
  simp [loadVar, run_underlying hu, go_sem, hc]
end Go.Proofs.Ytccllkgaakmdhaa
