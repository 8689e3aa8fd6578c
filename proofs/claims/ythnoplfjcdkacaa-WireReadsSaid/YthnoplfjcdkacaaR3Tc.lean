/-
  What the evaluator leaves of the functions of this seat (trees, printed by a program of ours), and their contracts from it. Conditions: none.
-/
import Derived.Test.YthnoplfjcdkacaaR1Tr
set_option linter.unusedVariables false
set_option linter.unusedSimpArgs false
namespace Go.Proofs.Ythnoplfjcdkacaa
open Go

/-- What is left of outworker/wire.ReadCert. -/
def t25 : Out :=
 (.call 44 [(.val 0)] [] [] [] [(false, [.ptr])] 
 (.call 45 [(.val 1), (.int .i64 (.lit 17))] [] [] [] [(false, [.int .i64])] 
 (.loop 0 [(.cst (.slice none 0 0)), (.int .i64 (.lit 0))] [.sl, .int .i64] 
  (.ite (.cmp .lss (.var 4) (.var 2))
   (.call 45 [(.val 1), (.int .i64 (.lit 65536))] [] [] [] [(false, [.int .i64])] 
   (.loop 1 [(.cst (.slice none 0 0)), (.int .i64 (.lit 0))] [.sl, .int .i64] 
    (.ite (.cmp .lss (.var 7) (.var 5))
     (.call 46 [(.val 1)] [] [] [] [(false, [.int .i64])] 
     (.ite (.cmp .eql (.var 8) (.lit 0))
      (.call 45 [(.val 1), (.int .i64 (.lit 4096))] [] [] [] [(false, [.int .i64])] 
      (.call 45 [(.val 1), (.int .i64 (.lit 4096))] [] [] [] [(false, [.int .i64])] 
      (.app 106 2 16 (.val 6) (.cells [(.int .i64 (.var 9)), (.int .i64 (.var 10))] 1) 
      (.again 1 [(.val 11), (.int .i64 (.op .add .i64 (.var 7) (.lit 1)))]))))
      (.again 1 [(.val 6), (.int .i64 (.op .add .i64 (.var 7) (.lit 1)))])))
     (.app 53 1 24 (.val 3) (.cells [(.val 6)] 1) 
     (.again 0 [(.val 8), (.int .i64 (.op .add .i64 (.var 4) (.lit 1)))])))))
   (.call 47 [(.val 1)] [] [] [] [(false, [.int .i64])] 
   (.ite (.cmp .neq (.var 5) (.lit 0))
    (.done (.tup [(.cst (.slice none 0 0)), (.int .i64 (.var 5))]) [])
    (.done (.tup [(.val 3), (.int .i64 (.lit 0))]) [])))))))
def l25 : List (Nat × List Nat × List (Nat × Nat) × List Nat) := [(4, [5, 12], [], [13, 6, 14, 15, 16, 17, 18, 19, 20, 21, 22, 23, 24, 25, 26, 27, 28, 29, 30, 31, 32, 33, 34]), (7, [6, 16], [], [17, 18, 19, 20, 21, 22, 23, 24, 25, 26, 27, 28, 29])]
theorem e25 : ev Try.prog ⟨allF, [], l25⟩ (bodyOf Try.f25) 0 (initSt [(.val 0)] [] Try.f25.ntmps [.sl]) (finK Try.prog Try.f25.results []) = t25 := by kernel_rfl
theorem c25 {G : List Value} {h : H} {R : Value → List (List Value) → H → Prop} (hG : FitsL [.sl] G) (H : holds Try.prog R t25 G [] h) : CallsA Try.prog 25 (fun e => SV.denL G (fun k => e (k - 1000000)) [(.val 0)]) ([].map (SV.denL G dE)) h R :=
  CallsA.of_ev (cf := ⟨allF, [], l25⟩) (fn := Try.f25) (c := bodyOf Try.f25) (pcs := []) Try.func25 (by rfl) callOK (by rfl) hG (by rfl) (by rw [show ([] : List (List SV)).map List.length = [] from rfl, e25]; exact H)
end Go.Proofs.Ythnoplfjcdkacaa
