/- '==' and '!=' of relations and of arcs, as the model runs them. -/
import Derived.Test.YtpnobpnknlpjnaaGreatDoorWords
import Derived.Laws.StructEq
set_option linter.unusedVariables false
set_option linter.unusedSimpArgs false
namespace Go.Proofs.YtpnobpnknlpjnaaGreatDoor
open Go Go.RowKit Go.Lib

/-- The test under '==': the fields one by one. -/
theorem eqR (x y : Rel) (w : World) : (Op.equalIn 10000 25 (.agg #[.int .i64 x.1, .string x.2.1, .string x.2.2]) (.agg #[.int .i64 y.1, .string y.2.1, .string y.2.2])).run Tryz.prog w = .ok (decide (x = y)) w := by
  have u3 := Tryz.underlying3
  have a3 := Tryz.isAgg3
  have z3 := Tryz.sizeOf3
  have u9 := Tryz.underlying9
  have a9 := Tryz.isAgg9
  have z9 := Tryz.sizeOf9
  have hS : Tryz.prog.underlying 25 = some (.struct (Tryz.prog.fieldsOf 25)) := by kernel_rfl
  have hp : Tryz.prog.stoodInHeld 25 = false := by kernel_rfl
  obtain ⟨x1, x2, x3⟩ := x
  obtain ⟨y1, y2, y3⟩ := y
  have e2 := K.beq_str x2 y2
  have e3 := K.beq_str x3 y3
  rw [show (10000 : Nat) = 9999 + 1 from rfl, run_equalIn_agg w 9999 25 _ _ hS hp]
  simp only [Program.fieldsOf, Tryz.underlying25]
  go_simp
  by_cases h1 : x1 = y1 <;> by_cases h2 : x2 = y2 <;> by_cases h3 : x3 = y3 <;> simp [h1, h2, h3]
theorem eqA (x y : Arc) (w : World) : (Op.equalIn 10000 49 (.agg #[.string x.1, .string x.2]) (.agg #[.string y.1, .string y.2])).run Tryz.prog w = .ok (decide (x = y)) w := by
  have u9 := Tryz.underlying9
  have a9 := Tryz.isAgg9
  have z9 := Tryz.sizeOf9
  have hS : Tryz.prog.underlying 49 = some (.struct (Tryz.prog.fieldsOf 49)) := by kernel_rfl
  have hp : Tryz.prog.stoodInHeld 49 = false := by kernel_rfl
  obtain ⟨x2, x3⟩ := x
  obtain ⟨y2, y3⟩ := y
  have e2 := K.beq_str x2 y2
  have e3 := K.beq_str x3 y3
  rw [show (10000 : Nat) = 9999 + 1 from rfl, run_equalIn_agg w 9999 49 _ _ hS hp]
  simp only [Program.fieldsOf, Tryz.underlying49]
  go_simp
  by_cases h2 : x2 = y2 <;> by_cases h3 : x3 = y3 <;> simp [h2, h3]
theorem eqlR (x y : Rel) (w : World) : (binOp .eql 25 (.agg #[.int .i64 x.1, .string x.2.1, .string x.2.2]) (.agg #[.int .i64 y.1, .string y.2.1, .string y.2.2])).run Tryz.prog w = .ok (.bool (decide (x = y))) w := by
  rw [run_eql_struct, eqR, Result.andThen_ok]
theorem neqR (x y : Rel) (w : World) : (binOp .neq 25 (.agg #[.int .i64 x.1, .string x.2.1, .string x.2.2]) (.agg #[.int .i64 y.1, .string y.2.1, .string y.2.2])).run Tryz.prog w = .ok (.bool (!decide (x = y))) w := by
  rw [run_neq_struct, eqR, Result.andThen_ok]
theorem eqlA (x y : Arc) (w : World) : (binOp .eql 49 (.agg #[.string x.1, .string x.2]) (.agg #[.string y.1, .string y.2])).run Tryz.prog w = .ok (.bool (decide (x = y))) w := by
  rw [run_eql_struct, eqA, Result.andThen_ok]
theorem neqA (x y : Arc) (w : World) : (binOp .neq 49 (.agg #[.string x.1, .string x.2]) (.agg #[.string y.1, .string y.2])).run Tryz.prog w = .ok (.bool (!decide (x = y))) w := by
  rw [run_neq_struct, eqA, Result.andThen_ok]
end Go.Proofs.YtpnobpnknlpjnaaGreatDoor
