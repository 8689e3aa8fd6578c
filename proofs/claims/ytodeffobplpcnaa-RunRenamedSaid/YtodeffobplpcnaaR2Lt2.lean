/-
  What the evaluator leaves of the functions of this seat: arms whose rest is the same. Conditions: none.
-/
import Derived.Test.YtodeffobplpcnaaR2Lt
set_option linter.unusedVariables false
set_option linter.unusedSimpArgs false
namespace Go.Proofs.Ytodeffobplpcnaa
open Go

theorem p10_5 : (Out.pK (Out.pF (Out.pS (Out.pS (Out.pK (Out.pF (Out.pE (Out.pK ev10)))))))) = pick10 := by kernel_rfl
theorem p10_6 : (Out.pK (Out.pS (Out.pS (Out.pS (Out.pK (Out.pF (Out.pE (Out.pK ev10)))))))) = pick10 := by kernel_rfl
theorem p10_7 : (Out.pK (Out.pF (Out.pK (Out.pF (Out.pF (Out.pS (Out.pE (Out.pK ev10)))))))) = pick10 := by kernel_rfl
theorem p10_8 : (Out.pK (Out.pS (Out.pK (Out.pF (Out.pF (Out.pS (Out.pE (Out.pK ev10)))))))) = pick10 := by kernel_rfl
end Go.Proofs.Ytodeffobplpcnaa
