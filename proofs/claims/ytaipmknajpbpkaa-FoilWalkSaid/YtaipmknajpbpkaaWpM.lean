/- Keys of two numbers. -/
import Derived.Test.YtaipmknajpbpkaaWpK
import Derived.Test.YtaipmknajpbpkaaTy
import Derived.DeepKeys4
set_option linter.unusedSimpArgs false
set_option linter.unusedVariables false
set_option maxRecDepth 8000
namespace Go.Par
open Go.Proofs

theorem laid_all : laidOutB Try.prog = true := by kernel_rfl
theorem law_key2 : WideMaps.KeyLaw Try.prog 47 := deep_law_laid laid_all (m := 3) (by decide) (of_decide_eq_true (by kernel_rfl)) (by kernel_rfl) (by kernel_rfl)
theorem under_int : Try.prog.underlying 3 = some (.int .i64) := by kernel_rfl
theorem under_two : Try.prog.underlying 47 = some (.array 2 3) := by kernel_rfl
theorem cells_int : Try.prog.cellsOf 3 = 1 := by kernel_rfl
theorem cells_two : Try.prog.cellsOf 47 = 2 := by kernel_rfl
theorem type_two : Try.prog.keyType 47 = true := by kernel_rfl
theorem types_two : ∃ d, Try.prog.types.size = d + 1 := ⟨Try.prog.types.size - 1, by kernel_rfl⟩
theorem key2 (a b : Int) (ha : (Lit.int .i64 a).wf = true) (hb : (Lit.int .i64 b).wf = true) : KeyA Try.prog 47 (.agg ([a, b].map (AV.int .i64))) := by
  refine ⟨[a, b], intsA_map _, law_key2, ?_⟩
  obtain ⟨d, hd⟩ := types_two
  have hc : (Value.agg #[Value.int .i64 a, Value.int .i64 b]).cells = #[Value.int .i64 a, Value.int .i64 b] := rfl
  simp [hc, keyOf, under_two, type_two, Program.keyLits, cells_two, Value.formed, hd, List.range_succ, under_int, cells_int, ha, hb]
theorem wf_nat {n : Nat} (h : n < 9223372036854775808) : (Lit.int .i64 (n : Int)).wf = true := by
  simp only [Lit.wf, Bool.and_eq_true, decide_eq_true_eq, IntKind.min, IntKind.max]
  constructor <;> simp [IntKind.signed, IntKind.bits] <;> omega
end Go.Par
