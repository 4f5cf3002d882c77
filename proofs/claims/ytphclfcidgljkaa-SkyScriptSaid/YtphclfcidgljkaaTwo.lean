/- '==' of arrays of two whole numbers. -/
import Derived.Test.YtphclfcidgljkaaSkySteps
import Derived.ChangeKeysEq
set_option linter.unusedVariables false
set_option linter.unusedSimpArgs false
namespace Go.Proofs.Ytphclfcidgljkaa
open Go.RowKit Go.Proofs.YtphclfcidgljkaaW.PrintWords Go.Proofs.YtphclfcidgljkaaW.PrintLast Go.Proofs.YtphclfcidgljkaaW.PrintMore
theorem eqTwo (d : Nat) (w : World) (x0 y0 : Int) (x1 y1 : Int) :
    (Op.equalIn (d + 2) 44 (.agg #[.int .i64 x0, .int .i64 x1]) (.agg #[.int .i64 y0, .int .i64 y1])).run Try.prog w = .ok (x0 == y0 && (x1 == y1)) w := by
  obtain ⟨i, hi⟩ := Option.isSome_iff_exists.1 (by kernel_rfl : (Try.prog.info? 3).isSome = true)
  rw [Go.run_equalIn_array w (d + 1) _ _ Try.underlying44 hi, show Try.prog.cellsOf 3 = 1 by kernel_rfl, show List.range 2 = [0, 1] from rfl]
  simp only [Go.Op.eqItems]
  go_simp
  cases h : (x0 == y0)
  · simp at h
    simp [h]
  · simp at h
    simp [h]
    by_cases h2 : x1 = y1 <;> simp [h2]
end Go.Proofs.Ytphclfcidgljkaa
