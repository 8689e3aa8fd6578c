/-
  What the evaluator leaves of the functions of this seat (trees, printed by a program of ours), and their contracts from it. Conditions: none.
-/
import Derived.Test.YthnoplfjcdkacaaR1Tr
set_option linter.unusedVariables false
set_option linter.unusedSimpArgs false
namespace Go.Proofs.Ythnoplfjcdkacaa
open Go

/-- What is left of outworker/outworkerlaw08.WireOne. -/
def t9 : Out :=
 (.call 10 [] [] [] [] [(false, [.bool])] 
 (.ite (.not (.var 7))
  (.done (.bool (.tt false)) [])
  (.ite (.cmp .gtr (.len 0) (.lit 3000))
   (.done (.bool (.tt true)) [])
   (.call 12 [(.agg [(.int .u8 (.var 1)), (.int .u8 (.var 2)), (.int .u8 (.var 3)), (.val 4)])] [] [] [] [(true, [.int .i64, .int .i64, .sl])] 
   (.call 14 [(.agg [(.int .i64 (.var 8)), (.int .i64 (.var 9)), (.val 10)])] [] [] [] [(false, [.sl]), (false, [.int .i64])] 
   (.call 24 [(.val 11), (.val 5), (.val 6)] [] [] [] [(false, [.sl])] 
   (.alloc 25 [(.val 0), (.val 13)] (.lsl 2) 
   (.loop 0 [(.int .i64 (.lit 0))] [.int .i64] 
    (.ite (.cmp .lss (.var 15) (.len 14))
     (.need (.tt true) [(.cmp .geq (.var 15) (.lit 0)), (.cmp .lss (.var 15) (.len 14))] 
     (.load (.tt true) (.idx (.var 14) (.var 15) 1) [.sl] 
     (.call 28 [(.val 16)] [] [] [] [(true, [.int .i64, .int .i64, .sl]), (false, [.int .i64])] 
     (.ite (.cmp .eql (.var 20) (.lit 0))
      (.call 14 [(.agg [(.int .i64 (.var 17)), (.int .i64 (.var 18)), (.val 19)])] [] [] [] [(false, [.sl]), (false, [.int .i64])] 
      (.ite (.not (.cmp .neq (.var 22) (.lit 0)))
       (.bstr (.val 21) 
       (.bstr (.val 16) 
       (.ite (.not (.seq (.var 23) (.var 24)))
        (.done (.bool (.tt false)) [])
        (.call 30 [(.val 16)] [] [] [] [(true, [.int .i64, .int .i64, .int .i64, .sl]), (false, [.int .i64])] 
        (.ite (.cmp .eql (.var 29) (.lit 0))
         (.call 19 [(.agg [(.int .i64 (.var 25)), (.int .i64 (.var 26)), (.int .i64 (.var 27)), (.val 28)])] [] [] [] [(false, [.sl]), (false, [.int .i64])] 
         (.ite (.not (.cmp .neq (.var 31) (.lit 0)))
          (.bstr (.val 30) 
          (.bstr (.val 16) 
          (.ite (.not (.seq (.var 32) (.var 33)))
           (.done (.bool (.tt false)) [])
           (.call 25 [(.val 16)] [] [] [] [(false, [.sl]), (false, [.int .i64])] 
           (.ite (.cmp .eql (.var 35) (.lit 0))
            (.call 22 [(.val 34)] [] [] [] [(false, [.sl]), (false, [.int .i64])] 
            (.ite (.not (.cmp .neq (.var 37) (.lit 0)))
             (.bstr (.val 36) 
             (.bstr (.val 16) 
             (.ite (.not (.seq (.var 38) (.var 39)))
              (.done (.bool (.tt false)) [])
              (.again 0 [(.int .i64 (.op .add .i64 (.var 15) (.lit 1)))]))))
             (.done (.bool (.tt false)) [])))
            (.again 0 [(.int .i64 (.op .add .i64 (.var 15) (.lit 1)))]))))))
          (.done (.bool (.tt false)) [])))
         (.call 25 [(.val 16)] [] [] [] [(false, [.sl]), (false, [.int .i64])] 
         (.ite (.cmp .eql (.var 31) (.lit 0))
          (.call 22 [(.val 30)] [] [] [] [(false, [.sl]), (false, [.int .i64])] 
          (.ite (.not (.cmp .neq (.var 33) (.lit 0)))
           (.bstr (.val 32) 
           (.bstr (.val 16) 
           (.ite (.not (.seq (.var 34) (.var 35)))
            (.done (.bool (.tt false)) [])
            (.again 0 [(.int .i64 (.op .add .i64 (.var 15) (.lit 1)))]))))
           (.done (.bool (.tt false)) [])))
          (.again 0 [(.int .i64 (.op .add .i64 (.var 15) (.lit 1)))]))))))))
       (.done (.bool (.tt false)) [])))
      (.call 30 [(.val 16)] [] [] [] [(true, [.int .i64, .int .i64, .int .i64, .sl]), (false, [.int .i64])] 
      (.ite (.cmp .eql (.var 25) (.lit 0))
       (.call 19 [(.agg [(.int .i64 (.var 21)), (.int .i64 (.var 22)), (.int .i64 (.var 23)), (.val 24)])] [] [] [] [(false, [.sl]), (false, [.int .i64])] 
       (.ite (.not (.cmp .neq (.var 27) (.lit 0)))
        (.bstr (.val 26) 
        (.bstr (.val 16) 
        (.ite (.not (.seq (.var 28) (.var 29)))
         (.done (.bool (.tt false)) [])
         (.call 25 [(.val 16)] [] [] [] [(false, [.sl]), (false, [.int .i64])] 
         (.ite (.cmp .eql (.var 31) (.lit 0))
          (.call 22 [(.val 30)] [] [] [] [(false, [.sl]), (false, [.int .i64])] 
          (.ite (.not (.cmp .neq (.var 33) (.lit 0)))
           (.bstr (.val 32) 
           (.bstr (.val 16) 
           (.ite (.not (.seq (.var 34) (.var 35)))
            (.done (.bool (.tt false)) [])
            (.again 0 [(.int .i64 (.op .add .i64 (.var 15) (.lit 1)))]))))
           (.done (.bool (.tt false)) [])))
          (.again 0 [(.int .i64 (.op .add .i64 (.var 15) (.lit 1)))]))))))
        (.done (.bool (.tt false)) [])))
       (.call 25 [(.val 16)] [] [] [] [(false, [.sl]), (false, [.int .i64])] 
       (.ite (.cmp .eql (.var 27) (.lit 0))
        (.call 22 [(.val 26)] [] [] [] [(false, [.sl]), (false, [.int .i64])] 
        (.ite (.not (.cmp .neq (.var 29) (.lit 0)))
         (.bstr (.val 28) 
         (.bstr (.val 16) 
         (.ite (.not (.seq (.var 30) (.var 31)))
          (.done (.bool (.tt false)) [])
          (.again 0 [(.int .i64 (.op .add .i64 (.var 15) (.lit 1)))]))))
         (.done (.bool (.tt false)) [])))
        (.again 0 [(.int .i64 (.op .add .i64 (.var 15) (.lit 1)))])))))))))
     (.done (.bool (.tt true)) []))))))))))
def l9 : List (Nat × List Nat × List (Nat × Nat) × List Nat) := [(7, [43], [], [44, 45, 46, 12, 48, 49, 47, 50, 51, 13, 14, 52, 53, 55, 56, 54, 57, 58, 15, 16, 59, 60, 61, 62, 63, 64, 65, 66, 67, 8, 69, 70, 68, 71, 72, 17, 18, 73, 74, 76, 77, 75, 78, 79, 19, 20, 80, 81, 82, 83, 84, 85, 86, 87, 88, 90, 91, 89, 92, 93, 21, 22, 94, 95, 97, 98, 96, 99, 100, 23, 24, 101, 102, 103, 104, 105, 106, 107, 108, 109, 110])]
theorem e9 : ev Try.prog ⟨allF, [41], l9⟩ (bodyOf Try.f9) 0 (initSt [(.val 0), (.agg [(.int .u8 (.var 1)), (.int .u8 (.var 2)), (.int .u8 (.var 3)), (.val 4)]), (.val 5), (.val 6)] [] Try.f9.ntmps [.sl, .int .u8, .int .u8, .int .u8, .sl, .sl, .sl]) (finK Try.prog Try.f9.results []) = t9 := by kernel_rfl
theorem c9 {G : List Value} {h : H} {R : Value → List (List Value) → H → Prop} (hG : FitsL [.sl, .int .u8, .int .u8, .int .u8, .sl, .sl, .sl] G) (H : holds Try.prog R t9 G [] h) : CallsA Try.prog 9 (fun e => SV.denL G (fun k => e (k - 1000000)) [(.val 0), (.agg [(.int .u8 (.var 1)), (.int .u8 (.var 2)), (.int .u8 (.var 3)), (.val 4)]), (.val 5), (.val 6)]) ([].map (SV.denL G dE)) h R :=
  CallsA.of_ev (cf := ⟨allF, [41], l9⟩) (fn := Try.f9) (c := bodyOf Try.f9) (pcs := []) Try.func9 (by rfl) callOK (by rfl) hG (by rfl) (by rw [show ([] : List (List SV)).map List.length = [] from rfl, e9]; exact H)
end Go.Proofs.Ythnoplfjcdkacaa
