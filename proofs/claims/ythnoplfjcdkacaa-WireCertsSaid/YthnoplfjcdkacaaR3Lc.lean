/-
  What the evaluator leaves of the functions of this seat (trees, printed by a program of ours), and their contracts from it. Conditions: none.
-/
import Derived.Test.YthnoplfjcdkacaaR1Tr
set_option linter.unusedVariables false
set_option linter.unusedSimpArgs false
namespace Go.Proofs.Ythnoplfjcdkacaa
open Go

/-- What is left of outworker/outworkerlaw08.WireCerts. -/
def t6 : Out :=
 (.call 10 [] [] [] [] [(false, [.bool])] 
 (.ite (.not (.var 4))
  (.done (.bool (.tt false)) [])
  (.ite (.ite (.cmp .gtr (.len 0) (.lit 100)) (.tt true) (.cmp .gtr (.len 1) (.lit 3000)))
   (.done (.bool (.tt true)) [])
   (.loop 0 [(.int .i64 (.lit 0))] [.int .i64] 
    (.ite (.cmp .lss (.var 5) (.len 0))
     (.need (.tt true) [(.cmp .geq (.var 5) (.lit 0)), (.cmp .lss (.var 5) (.len 0))] 
     (.load (.tt true) (.idx (.var 0) (.var 5) 1) [.sl] 
     (.ite (.cmp .gtr (.len 6) (.lit 500))
      (.done (.bool (.tt true)) [])
      (.again 0 [(.int .i64 (.op .add .i64 (.var 5) (.lit 1)))]))))
     (.call 22 [(.val 0)] [] [] [] [(false, [.sl]), (false, [.int .i64])] 
     (.call 23 [(.val 0)] [] [] [] [(false, [.sl]), (false, [.int .i64])] 
     (.ite (.not (.cmp .neq (.var 7) (.var 9)))
      (.bstr (.val 6) 
      (.bstr (.val 8) 
      (.ite (.not (.seq (.var 10) (.var 11)))
       (.done (.bool (.tt false)) [])
       (.call 24 [(.val 6), (.val 2), (.val 3)] [] [] [] [(false, [.sl])] 
       (.alloc 25 [(.val 1), (.val 6), (.val 12)] (.lsl 3) 
       (.loop 0 [(.int .i64 (.lit 0))] [.int .i64] 
        (.ite (.cmp .lss (.var 14) (.len 13))
         (.need (.tt true) [(.cmp .geq (.var 14) (.lit 0)), (.cmp .lss (.var 14) (.len 13))] 
         (.load (.tt true) (.idx (.var 13) (.var 14) 1) [.sl] 
         (.call 25 [(.val 15)] [] [] [] [(false, [.sl]), (false, [.int .i64])] 
         (.call 26 [(.val 15)] [] [] [] [(false, [.sl]), (false, [.int .i64])] 
         (.ite (.not (.cmp .neq (.var 17) (.var 19)))
          (.call 27 [(.val 16), (.val 18)] [] [] [] [(false, [.bool])] 
          (.ite (.not (.var 20))
           (.done (.bool (.tt false)) [])
           (.again 0 [(.int .i64 (.op .add .i64 (.var 14) (.lit 1)))])))
          (.done (.bool (.tt false)) []))))))
         (.done (.bool (.tt true)) []))))))))
      (.done (.bool (.tt false)) [])))))))))
def l6 : List (Nat × List Nat × List (Nat × Nat) × List Nat) := [(6, [33], [], [34, 35, 36, 10, 37, 38, 39, 8, 40]), (16, [69], [], [70, 71, 72, 16, 74, 75, 73, 76, 77, 17, 18, 79, 80, 78, 81, 82, 19, 20, 83, 84, 85, 86, 87, 88, 89, 90, 91, 8, 92])]
theorem e6 : ev Try.prog ⟨allF, [67], l6⟩ (bodyOf Try.f6) 0 (initSt [(.val 0), (.val 1), (.val 2), (.val 3)] [] Try.f6.ntmps [.sl, .sl, .sl, .sl]) (finK Try.prog Try.f6.results []) = t6 := by kernel_rfl
theorem c6 {G : List Value} {h : H} {R : Value → List (List Value) → H → Prop} (hG : FitsL [.sl, .sl, .sl, .sl] G) (H : holds Try.prog R t6 G [] h) : CallsA Try.prog 6 (fun e => SV.denL G (fun k => e (k - 1000000)) [(.val 0), (.val 1), (.val 2), (.val 3)]) ([].map (SV.denL G dE)) h R :=
  CallsA.of_ev (cf := ⟨allF, [67], l6⟩) (fn := Try.f6) (c := bodyOf Try.f6) (pcs := []) Try.func6 (by rfl) callOK (by rfl) hG (by rfl) (by rw [show ([] : List (List SV)).map List.length = [] from rfl, e6]; exact H)
end Go.Proofs.Ythnoplfjcdkacaa
