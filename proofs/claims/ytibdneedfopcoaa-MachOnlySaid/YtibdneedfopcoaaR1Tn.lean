/-
  What the evaluator leaves of the functions of this seat (trees, printed by a program of ours), and their contracts from it. Conditions: none.
-/
import Derived.Test.YtibdneedfopcoaaR1Tr
set_option linter.unusedVariables false
set_option linter.unusedSimpArgs false
namespace Go.Proofs.Ytibdneedfopcoaa
open Go

/-- What is left of outworker/outworkerlaw05.Made$1. -/
def t41k : Out :=
 (.need (.tt true) [(.cmp .neq (.var 2) (.lit 0))] 
 (.done (.int .i64 (.op .rem .i64 (.var 0) (.var 2))) [[(.int .i64 (.var 1)), (.int .i64 (.var 2)), (.int .i64 (.var 3)), (.val 4)]]))
def l41k : List (Nat × List Nat × List (Nat × Nat) × List Nat) := []
theorem e41k : ev Try.prog ⟨allF, [], l41k⟩ (bodyOf Try.f41) 0 (initSt [(.int .i64 (.var 0)), (.loc 1000000 0)] [[(.int .i64 (.var 1)), (.int .i64 (.var 2)), (.int .i64 (.var 3)), (.val 4)]] Try.f41.ntmps [.int .i64, .int .i64, .int .i64, .int .i64, .sl]) (finK Try.prog Try.f41.results [4]) = t41k := by kernel_rfl
theorem c41k {G : List Value} {h : H} {R : Value → List (List Value) → H → Prop} (hG : FitsL [.int .i64, .int .i64, .int .i64, .int .i64, .sl] G) (H : holds Try.prog R t41k G [] h) : CallsA Try.prog 41 (fun e => SV.denL G (fun k => e (k - 1000000)) [(.int .i64 (.var 0)), (.loc 1000000 0)]) ([[(.int .i64 (.var 1)), (.int .i64 (.var 2)), (.int .i64 (.var 3)), (.val 4)]].map (SV.denL G dE)) h R :=
  CallsA.of_ev (cf := ⟨allF, [], l41k⟩) (fn := Try.f41) (c := bodyOf Try.f41) (pcs := [[(.int .i64 (.var 1)), (.int .i64 (.var 2)), (.int .i64 (.var 3)), (.val 4)]]) Try.func41 (by rfl) callOK (by rfl) hG (by rfl) (by rw [show ([[(.int .i64 (.var 1)), (.int .i64 (.var 2)), (.int .i64 (.var 3)), (.val 4)]] : List (List SV)).map List.length = [4] from rfl, e41k]; exact H)
end Go.Proofs.Ytibdneedfopcoaa
