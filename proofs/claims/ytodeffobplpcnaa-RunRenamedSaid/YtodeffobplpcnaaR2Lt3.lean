/-
  What the evaluator leaves of the functions of this seat: arms whose rest is the same. Conditions: none.
-/
import Derived.Test.YtodeffobplpcnaaR2Lt
set_option linter.unusedVariables false
set_option linter.unusedSimpArgs false
namespace Go.Proofs.Ytodeffobplpcnaa
open Go

theorem p10_9 : (Out.pK (Out.pK (Out.pS (Out.pF (Out.pS (Out.pE (Out.pK ev10))))))) = pick10 := by kernel_rfl
theorem p10_10 : (Out.pK (Out.pF (Out.pK (Out.pF (Out.pS (Out.pS (Out.pE (Out.pK ev10)))))))) = pick10 := by kernel_rfl
theorem p10_11 : (Out.pK (Out.pS (Out.pK (Out.pF (Out.pS (Out.pS (Out.pE (Out.pK ev10)))))))) = pick10 := by kernel_rfl
theorem p10_12 : (Out.pK (Out.pK (Out.pS (Out.pS (Out.pS (Out.pE (Out.pK ev10))))))) = pick10 := by kernel_rfl
end Go.Proofs.Ytodeffobplpcnaa
