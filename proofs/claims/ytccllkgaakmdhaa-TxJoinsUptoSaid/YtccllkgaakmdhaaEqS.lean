/- '==' of the program's structs. -/
import Derived.Laws.StructEq
import Derived.Test.YtccllkgaakmdhaaBase
namespace Go.Proofs.Ytccllkgaakmdhaa
open Go.RowKit

theorem eqFields_one {d : Nat} {xs ys : Array Value} {f : Field} {fs : List Field} {a b : Value} {r s : Bool} {w : World} (hn : f.name ≠ "_") (ha : (part f.type xs f.offset).run Try.prog w = .ok a w) (hb : (part f.type ys f.offset).run Try.prog w = .ok b w)
    (he : (Op.equalIn d f.type a b).run Try.prog w = .ok r w) (hr : (Op.eqFields d xs ys fs).run Try.prog w = .ok s w) : (Op.eqFields d xs ys (f :: fs)).run Try.prog w = .ok (r && s) w := by
  rw [Op.eqFields]
  simp only [if_pos hn, Sem.run_bind, ha, hb, he, Result.andThen_ok]
  cases r
  · simp
  · simpa using hr
theorem eqFields_none {d : Nat} {xs ys : Array Value} {w : World} : (Op.eqFields d xs ys []).run Try.prog w = .ok true w := by simp [Op.eqFields]
theorem equalIn_fields {d : Nat} {xs ys : Array Value} {r : Bool} {w : World} {t : TypeId} {fs : Array Field} (hu : Try.prog.underlying t = some (.struct fs)) (hp : Try.prog.stoodInHeld t = false) (h : (Op.eqFields d xs ys fs.toList).run Try.prog w = .ok r w) : (Op.equalIn (d + 1) t (.agg xs) (.agg ys)).run Try.prog w = .ok r w := by
  have hf : Try.prog.fieldsOf t = fs := by simp [Program.fieldsOf, hu]
  rw [run_equalIn_struct (P := Try.prog) w d t xs ys (by rw [hf]; exact hu) hp, hf]
  exact h

theorem equalIn_int {d : Nat} {t : TypeId} {k : IntKind} {a b : Int} {w : World} (h : Try.prog.underlying t = some (.int k)) : (Op.equalIn (d + 1) t (.int k a) (.int k b)).run Try.prog w = .ok (a == b) w := by
  simp [Op.equalIn, run_underlying h]
theorem equalIn_bool {d : Nat} {t : TypeId} {a b : Bool} {w : World} (h : Try.prog.underlying t = some .bool) : (Op.equalIn (d + 1) t (.bool a) (.bool b)).run Try.prog w = .ok (a == b) w := by
  simp [Op.equalIn, run_underlying h]

theorem part_one {t : TypeId} {xs : Array Value} {o : Nat} {v : Value} {w : World} (h : (part t xs o).run Try.prog w = .ok v w) : (part t xs o).run Try.prog w = .ok v w := h

theorem eqPut (a b c e : Int) (w : World) : (Op.equalIn 10000 38 (.agg #[.int .u64 a, .int .u64 b]) (.agg #[.int .u64 c, .int .u64 e])).run Try.prog w = .ok ((a == c) && ((b == e) && true)) w := by
  refine equalIn_fields (d := 9999) Try.underlying38 (by kernel_rfl) ?_
  refine eqFields_one (by decide) (a := .int .u64 a) (b := .int .u64 c) (by kernel_rfl) (by kernel_rfl) (equalIn_int (d := 9998) Try.underlying36) ?_
  exact eqFields_one (by decide) (a := .int .u64 b) (b := .int .u64 e) (by kernel_rfl) (by kernel_rfl) (equalIn_int (d := 9998) Try.underlying36) eqFields_none

theorem eql_put (a b c e : Int) (w : World) : (binOp .eql 38 (.agg #[.int .u64 a, .int .u64 b]) (.agg #[.int .u64 c, .int .u64 e])).run Try.prog w = .ok (.bool ((a == c) && (b == e))) w := by
  rw [run_eql_struct, eqPut]; simp [Result.andThen]
theorem neq_put (a b c e : Int) (w : World) : (binOp .neq 38 (.agg #[.int .u64 a, .int .u64 b]) (.agg #[.int .u64 c, .int .u64 e])).run Try.prog w = .ok (.bool (!((a == c) && (b == e)))) w := by
  rw [run_neq_struct, eqPut]; simp [Result.andThen]

theorem eqg_put : Try.prog.eqGuardType Try.prog.depth 38 = false := by kernel_rfl

/-- two Puts: as their words are -/
theorem put_beq (x y : UInt64 × UInt64) : (((x.1.toNat : Int) == (y.1.toNat : Int)) && ((x.2.toNat : Int) == (y.2.toNat : Int))) = decide (x = y) := by
  by_cases h : x = y
  · subst h; simp
  · rw [decide_eq_false h, Bool.and_eq_false_iff, beq_eq_false_iff_ne, beq_eq_false_iff_ne]
    by_cases h1 : x.1 = y.1
    · right; intro e; exact h (Prod.ext h1 (UInt64.toNat_inj.1 (by omega)))
    · left; intro e; exact h1 (UInt64.toNat_inj.1 (by omega))

end Go.Proofs.Ytccllkgaakmdhaa
