/-
  What the evaluator leaves of a closure of this seat (a tree, printed by a program of ours), and its contract from it. Conditions: none.
-/
import Derived.Test.YtodeffobplpcnaaR2Lw
set_option linter.unusedVariables false
set_option linter.unusedSimpArgs false
namespace Go.Proofs.Ytodeffobplpcnaa
open Go

/-- What is left of outworker/outworkerlaw06.RunRenamed$1. -/
def t28k : Out :=
 (.ite (.cmp .eql (.var 0) (.var 2))
  (.done (.int .i64 (.var 1)) [[(.int .i64 (.var 1))], [(.int .i64 (.var 2))]])
  (.ite (.cmp .eql (.var 0) (.var 1))
   (.done (.int .i64 (.var 2)) [[(.int .i64 (.var 1))], [(.int .i64 (.var 2))]])
   (.done (.int .i64 (.var 0)) [[(.int .i64 (.var 1))], [(.int .i64 (.var 2))]])))
def l28k : List (Nat × List Nat × List (Nat × Nat) × List Nat) := []
theorem e28k : ev Try.prog ⟨allF, [], l28k⟩ (bodyOf Try.f28) 0 (initSt [(.int .i64 (.var 0)), (.loc 1000001 0), (.loc 1000000 0)] [[(.int .i64 (.var 1))], [(.int .i64 (.var 2))]] Try.f28.ntmps [.int .i64, .int .i64, .int .i64]) (finK Try.prog Try.f28.results [1, 1]) = t28k := by kernel_rfl
theorem c28k {G : List Value} {h : H} {R : Value → List (List Value) → H → Prop} (hG : FitsL [.int .i64, .int .i64, .int .i64] G) (H : holds Try.prog R t28k G [] h) : CallsA Try.prog 28 (fun e => SV.denL G (fun k => e (k - 1000000)) [(.int .i64 (.var 0)), (.loc 1000001 0), (.loc 1000000 0)]) ([[(.int .i64 (.var 1))], [(.int .i64 (.var 2))]].map (SV.denL G dE)) h R :=
  CallsA.of_ev (cf := ⟨allF, [], l28k⟩) (fn := Try.f28) (c := bodyOf Try.f28) (pcs := [[(.int .i64 (.var 1))], [(.int .i64 (.var 2))]]) Try.func28 (by rfl) callOK (by rfl) hG (by rfl) (by rw [show ([[(.int .i64 (.var 1))], [(.int .i64 (.var 2))]] : List (List SV)).map List.length = [1, 1] from rfl, e28k]; exact H)
/-- The same, its chunks the other way round. -/
def t28j : Out :=
 (.ite (.cmp .eql (.var 0) (.var 1))
  (.done (.int .i64 (.var 2)) [[(.int .i64 (.var 1))], [(.int .i64 (.var 2))]])
  (.ite (.cmp .eql (.var 0) (.var 2))
   (.done (.int .i64 (.var 1)) [[(.int .i64 (.var 1))], [(.int .i64 (.var 2))]])
   (.done (.int .i64 (.var 0)) [[(.int .i64 (.var 1))], [(.int .i64 (.var 2))]])))
theorem e28j : ev Try.prog ⟨allF, [], l28k⟩ (bodyOf Try.f28) 0 (initSt [(.int .i64 (.var 0)), (.loc 1000000 0), (.loc 1000001 0)] [[(.int .i64 (.var 1))], [(.int .i64 (.var 2))]] Try.f28.ntmps [.int .i64, .int .i64, .int .i64]) (finK Try.prog Try.f28.results [1, 1]) = t28j := by kernel_rfl
theorem c28j {G : List Value} {h : H} {R : Value → List (List Value) → H → Prop} (hG : FitsL [.int .i64, .int .i64, .int .i64] G) (H : holds Try.prog R t28j G [] h) : CallsA Try.prog 28 (fun e => SV.denL G (fun k => e (k - 1000000)) [(.int .i64 (.var 0)), (.loc 1000000 0), (.loc 1000001 0)]) ([[(.int .i64 (.var 1))], [(.int .i64 (.var 2))]].map (SV.denL G dE)) h R :=
  CallsA.of_ev (cf := ⟨allF, [], l28k⟩) (fn := Try.f28) (c := bodyOf Try.f28) (pcs := [[(.int .i64 (.var 1))], [(.int .i64 (.var 2))]]) Try.func28 (by rfl) callOK (by rfl) hG (by rfl) (by rw [show ([[(.int .i64 (.var 1))], [(.int .i64 (.var 2))]] : List (List SV)).map List.length = [1, 1] from rfl, e28j]; exact H)
end Go.Proofs.Ytodeffobplpcnaa
