/-
  What the evaluator leaves of the functions of this seat (trees, printed by a program of ours), and their contracts from it. Conditions: none.
-/
import Derived.Test.YthnoplfjcdkacaaR1Tr
set_option linter.unusedVariables false
set_option linter.unusedSimpArgs false
namespace Go.Proofs.Ythnoplfjcdkacaa
open Go

/-- What is left of outworker/outworkerlaw08.WireReads. -/
def t7 : Out :=
 (.call 10 [] [] [] [] [(false, [.bool])] 
 (.ite (.not (.var 9))
  (.done (.bool (.tt false)) [])
  (.ite (.cmp .gtr (.len 0) (.lit 3000))
   (.done (.bool (.tt true)) [])
   (.call 12 [(.agg [(.int .u8 (.var 1)), (.int .u8 (.var 2)), (.int .u8 (.var 3)), (.val 4)])] [] [] [] [(true, [.int .i64, .int .i64, .sl])] 
   (.call 16 [(.agg [(.int .i64 (.var 10)), (.int .i64 (.var 11)), (.val 12)])] [] [] [] [(false, [.sl])] 
   (.call 18 [(.agg [(.int .u8 (.var 1)), (.int .u8 (.var 2)), (.int .u8 (.var 3)), (.val 4)]), (.int .u8 (.var 5)), (.int .u8 (.lit 3)), (.val 6)] [] [] [] [(true, [.int .i64, .int .i64, .int .i64, .sl])] 
   (.call 21 [(.agg [(.int .i64 (.var 14)), (.int .i64 (.var 15)), (.int .i64 (.var 16)), (.val 17)])] [] [] [] [(false, [.sl])] 
   (.call 24 [(.val 13), (.val 7), (.val 8)] [] [] [] [(false, [.sl])] 
   (.call 24 [(.val 18), (.val 7), (.val 8)] [] [] [] [(false, [.sl])] 
   (.alloc 5 [] (.lsl 0) 
   (.app 5 1 1 (.val 21) (.sl (.val 13)) 
   (.app 5 1 1 (.val 22) (.sl (.val 0)) 
   (.alloc 25 [(.val 0), (.val 13), (.val 18), (.val 19), (.val 20), (.val 23)] (.lsl 6) 
   (.loop 0 [(.int .i64 (.lit 0))] [.int .i64] 
    (.ite (.cmp .lss (.var 25) (.len 24))
     (.need (.tt true) [(.cmp .geq (.var 25) (.lit 0)), (.cmp .lss (.var 25) (.len 24))] 
     (.load (.tt true) (.idx (.var 24) (.var 25) 1) [.sl] 
     (.call 28 [(.val 26)] [] [] [] [(true, [.int .i64, .int .i64, .sl]), (false, [.int .i64])] 
     (.call 29 [(.val 26)] [] [] [] [(true, [.int .i64, .int .i64, .sl]), (false, [.int .i64])] 
     (.ite (.not (.cmp .neq (.var 30) (.var 34)))
      (.call 17 [(.agg [(.int .i64 (.var 27)), (.int .i64 (.var 28)), (.val 29)]), (.agg [(.int .i64 (.var 31)), (.int .i64 (.var 32)), (.val 33)])] [] [] [] [(false, [.bool])] 
      (.ite (.not (.var 35))
       (.done (.bool (.tt false)) [])
       (.call 30 [(.val 26)] [] [] [] [(true, [.int .i64, .int .i64, .int .i64, .sl]), (false, [.int .i64])] 
       (.call 31 [(.val 26)] [] [] [] [(true, [.int .i64, .int .i64, .int .i64, .sl]), (false, [.int .i64])] 
       (.ite (.not (.cmp .neq (.var 40) (.var 45)))
        (.call 32 [(.agg [(.int .i64 (.var 36)), (.int .i64 (.var 37)), (.int .i64 (.var 38)), (.val 39)]), (.agg [(.int .i64 (.var 41)), (.int .i64 (.var 42)), (.int .i64 (.var 43)), (.val 44)])] [] [] [] [(false, [.bool])] 
        (.ite (.not (.var 46))
         (.done (.bool (.tt false)) [])
         (.again 0 [(.int .i64 (.op .add .i64 (.var 25) (.lit 1)))])))
        (.done (.bool (.tt false)) []))))))
      (.done (.bool (.tt false)) []))))))
     (.done (.bool (.tt true)) []))))))))))))))))
def l7 : List (Nat × List Nat × List (Nat × Nat) × List Nat) := [(8, [56], [], [57, 58, 59, 16, 61, 62, 60, 63, 64, 17, 18, 66, 67, 65, 68, 69, 19, 20, 70, 71, 72, 73, 74, 75, 76, 77, 78, 12, 80, 81, 79, 82, 83, 21, 22, 85, 86, 84, 87, 88, 23, 24, 89, 90, 91, 92, 93, 94, 95, 96, 97, 98])]
theorem e7 : ev Try.prog ⟨allF, [49, 54], l7⟩ (bodyOf Try.f7) 0 (initSt [(.val 0), (.agg [(.int .u8 (.var 1)), (.int .u8 (.var 2)), (.int .u8 (.var 3)), (.val 4)]), (.int .u8 (.var 5)), (.val 6), (.val 7), (.val 8)] [] Try.f7.ntmps [.sl, .int .u8, .int .u8, .int .u8, .sl, .int .u8, .sl, .sl, .sl]) (finK Try.prog Try.f7.results []) = t7 := by kernel_rfl
theorem c7 {G : List Value} {h : H} {R : Value → List (List Value) → H → Prop} (hG : FitsL [.sl, .int .u8, .int .u8, .int .u8, .sl, .int .u8, .sl, .sl, .sl] G) (H : holds Try.prog R t7 G [] h) : CallsA Try.prog 7 (fun e => SV.denL G (fun k => e (k - 1000000)) [(.val 0), (.agg [(.int .u8 (.var 1)), (.int .u8 (.var 2)), (.int .u8 (.var 3)), (.val 4)]), (.int .u8 (.var 5)), (.val 6), (.val 7), (.val 8)]) ([].map (SV.denL G dE)) h R :=
  CallsA.of_ev (cf := ⟨allF, [49, 54], l7⟩) (fn := Try.f7) (c := bodyOf Try.f7) (pcs := []) Try.func7 (by rfl) callOK (by rfl) hG (by rfl) (by rw [show ([] : List (List SV)).map List.length = [] from rfl, e7]; exact H)
end Go.Proofs.Ythnoplfjcdkacaa
