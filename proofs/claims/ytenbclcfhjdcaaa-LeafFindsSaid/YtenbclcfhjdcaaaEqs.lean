/- Keys and entries held against each other by ==. -/
import Derived.Test.YtenbclcfhjdcaaaProg
import Derived.Test.YtenbclcfhjdcaaaBase
import Derived.Laws.StructEq
namespace Go.Proofs.Ytenbclcfhjdcaaa
open Go.RowKit B
section
variable {P : Program} {d : Nat} {xs ys : Array Value} {f : Field} {fs : List Field} {a b : Value} {r s : Bool} {w : World}
theorem fields_one (hn : (f.name == "_") = false) (ha : (part f.type xs f.offset).run P w = .ok a w) (hb : (part f.type ys f.offset).run P w = .ok b w) (he : (Op.equalIn d f.type a b).run P w = .ok r w) (hr : (Op.eqFields d xs ys fs).run P w = .ok s w) :
    (Op.eqFields d xs ys (f :: fs)).run P w = .ok (r && s) w := by
  have hn' : f.name ≠ "_" := by simpa using hn
  rw [Op.eqFields]
  simp only [if_pos hn', Sem.run_bind, ha, hb, he, Result.andThen_ok]
  cases r
  · simp
  · simpa using hr
theorem fields_none : (Op.eqFields d xs ys []).run P w = .ok true w := by simp [Op.eqFields]
theorem agg_eq {t : TypeId} {fs : Array Field} (hu : P.underlying t = some (.struct fs)) (hp : P.stoodInHeld t = false) (h : (Op.eqFields d xs ys fs.toList).run P w = .ok r w) : (Op.equalIn (d + 1) t (.agg xs) (.agg ys)).run P w = .ok r w := by
  have hf : P.fieldsOf t = fs := by simp [Program.fieldsOf, hu]
  rw [run_equalIn_struct (P := P) w d t xs ys (by rw [hf]; exact hu) hp, hf]
  exact h
end
theorem eq_key (d : Nat) (w : World) (a0 b0 a1 b1 : Int) :
    (Op.equalIn (d + 2) 46 (.agg #[.int .i64 a0, .int .i64 a1]) (.agg #[.int .i64 b0, .int .i64 b1])).run Try.prog w = .ok (a0 == b0 && (a1 == b1 && true)) w := by
  refine agg_eq Try.underlying46 (by kernel_rfl) ?_
  refine fields_one (by rfl) (by go_simp; rfl) (by go_simp; rfl) (by go_simp) ?_
  exact fields_one (by rfl) (by go_simp; rfl) (by go_simp; rfl) (by go_simp) fields_none
theorem eql_key (w : World) (a0 b0 a1 b1 : Int) :
    (binOp .eql 46 (.agg #[.int .i64 a0, .int .i64 a1]) (.agg #[.int .i64 b0, .int .i64 b1])).run Try.prog w = .ok (.bool (a0 == b0 && a1 == b1)) w := by
  rw [run_eql_struct, eq_key 9998]
  simp
end Go.Proofs.Ytenbclcfhjdcaaa
