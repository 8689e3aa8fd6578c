/-
  What the evaluator leaves of the functions of this seat (trees, printed by a program of ours), and their contracts from it. Conditions: none.
-/
import Derived.Test.YthnoplfjcdkacaaR1Tr
set_option linter.unusedVariables false
set_option linter.unusedSimpArgs false
namespace Go.Proofs.Ythnoplfjcdkacaa
open Go

/-- What is left of outworker/outworkerlaw08.WireBack. -/
def t8 : Out :=
 (.call 10 [] [] [] [] [(false, [.bool])] 
 (.ite (.not (.var 7))
  (.done (.bool (.tt false)) [])
  (.both 
   (.call 12 [(.agg [(.int .u8 (.var 0)), (.int .u8 (.var 1)), (.int .u8 (.var 2)), (.val 3)])] [] [] [] [(true, [.int .i64, .int .i64, .sl])] 
   (.both 
    (.call 18 [(.agg [(.int .u8 (.var 0)), (.int .u8 (.var 1)), (.int .u8 (.var 2)), (.val 3)]), (.int .u8 (.var 4)), (.int .u8 (.lit 3)), (.val 5)] [] [] [] [(true, [.int .i64, .int .i64, .int .i64, .sl])] 
    (.both 
     (.call 14 [(.agg [(.int .i64 (.var 8)), (.int .i64 (.var 9)), (.val 10)])] [] [] [] [(false, [.sl]), (false, [.int .i64])] 
     (.call 19 [(.agg [(.int .i64 (.var 11)), (.int .i64 (.var 12)), (.int .i64 (.var 13)), (.val 14)])] [] [] [] [(false, [.sl]), (false, [.int .i64])] 
     (.call 28 [(.val 15)] [] [] [] [(true, [.int .i64, .int .i64, .sl]), (false, [.int .i64])] 
     (.call 30 [(.val 17)] [] [] [] [(true, [.int .i64, .int .i64, .int .i64, .sl]), (false, [.int .i64])] 
     (.ite (.not (.ite (.ite (.ite (.cmp .neq (.var 16) (.lit 0)) (.tt true) (.cmp .neq (.var 18) (.lit 0))) (.tt true) (.cmp .neq (.var 22) (.lit 0))) (.tt true) (.cmp .neq (.var 27) (.lit 0))))
      (.call 17 [(.agg [(.int .i64 (.var 19)), (.int .i64 (.var 20)), (.val 21)]), (.agg [(.int .i64 (.var 8)), (.int .i64 (.var 9)), (.val 10)])] [] [] [] [(false, [.bool])] 
      (.ite (.var 28)
       (.call 32 [(.agg [(.int .i64 (.var 23)), (.int .i64 (.var 24)), (.int .i64 (.var 25)), (.val 26)]), (.agg [(.int .i64 (.var 11)), (.int .i64 (.var 12)), (.int .i64 (.var 13)), (.val 14)])] [] [] [] [(false, [.bool])] 
       (.ite (.not (.var 29))
        (.done (.bool (.tt false)) [])
        (.need (.tt true) [(.cmp .neq (.conv .u64 (.len 15)) (.lit 0))] 
        (.need (.tt true) [(.cmp .geq (.conv .i64 (.op .rem .u64 (.conv .u64 (.var 6)) (.conv .u64 (.len 15)))) (.lit 0)), (.cmp .leq (.conv .i64 (.op .rem .u64 (.conv .u64 (.var 6)) (.conv .u64 (.len 15)))) (.cap 15))] 
        (.bnd (.slice (.val 15) none (some (.conv .i64 (.op .rem .u64 (.conv .u64 (.var 6)) (.conv .u64 (.len 15))))) 1) 
        (.call 28 [(.val 30)] [] [] [] [(true, [.int .i64, .int .i64, .sl]), (false, [.int .i64])] 
        (.need (.tt true) [(.cmp .neq (.conv .u64 (.len 17)) (.lit 0))] 
        (.need (.tt true) [(.cmp .geq (.conv .i64 (.op .rem .u64 (.conv .u64 (.var 6)) (.conv .u64 (.len 17)))) (.lit 0)), (.cmp .leq (.conv .i64 (.op .rem .u64 (.conv .u64 (.var 6)) (.conv .u64 (.len 17)))) (.cap 17))] 
        (.bnd (.slice (.val 17) none (some (.conv .i64 (.op .rem .u64 (.conv .u64 (.var 6)) (.conv .u64 (.len 17))))) 1) 
        (.call 30 [(.val 35)] [] [] [] [(true, [.int .i64, .int .i64, .int .i64, .sl]), (false, [.int .i64])] 
        (.app 5 1 1 (.val 15) (.cells [(.int .u8 (.lit 0))] 1) 
        (.call 28 [(.val 41)] [] [] [] [(true, [.int .i64, .int .i64, .sl]), (false, [.int .i64])] 
        (.app 5 1 1 (.val 17) (.cells [(.int .u8 (.lit 0))] 1) 
        (.call 30 [(.val 46)] [] [] [] [(true, [.int .i64, .int .i64, .int .i64, .sl]), (false, [.int .i64])] 
        (.done (.bool (.ite (.ite (.ite (.cmp .eql (.var 34) (.lit 3)) (.cmp .eql (.var 40) (.lit 3)) (.tt false)) (.cmp .eql (.var 45) (.lit 5)) (.tt false)) (.cmp .eql (.var 51) (.lit 5)) (.tt false))) [])))))))))))))))
       (.done (.bool (.tt false)) [])))
      (.done (.bool (.tt false)) [])))))) 
     (.call 14 [(.agg [(.int .i64 (.var 8)), (.int .i64 (.var 9)), (.val 10)])] [] [] [] [(false, [.sl]), (false, [.int .i64])] 
     (.call 19 [(.agg [(.int .i64 (.var 11)), (.int .i64 (.var 12)), (.int .i64 (.var 13)), (.val 14)])] [] [] [] [(false, [.sl]), (false, [.int .i64])] 
     (.call 28 [(.val 15)] [] [] [] [(true, [.int .i64, .int .i64, .sl]), (false, [.int .i64])] 
     (.call 30 [(.val 17)] [] [] [] [(true, [.int .i64, .int .i64, .int .i64, .sl]), (false, [.int .i64])] 
     (.ite (.not (.ite (.ite (.ite (.cmp .neq (.var 16) (.lit 0)) (.tt true) (.cmp .neq (.var 18) (.lit 0))) (.tt true) (.cmp .neq (.var 22) (.lit 0))) (.tt true) (.cmp .neq (.var 27) (.lit 0))))
      (.call 17 [(.agg [(.int .i64 (.var 19)), (.int .i64 (.var 20)), (.val 21)]), (.agg [(.int .i64 (.var 8)), (.int .i64 (.var 9)), (.val 10)])] [] [] [] [(false, [.bool])] 
      (.ite (.var 28)
       (.call 32 [(.agg [(.int .i64 (.var 23)), (.int .i64 (.var 24)), (.int .i64 (.var 25)), (.val 26)]), (.agg [(.int .i64 (.var 11)), (.int .i64 (.var 12)), (.int .i64 (.var 13)), (.val 14)])] [] [] [] [(false, [.bool])] 
       (.ite (.not (.var 29))
        (.done (.bool (.tt false)) [])
        (.need (.tt true) [(.cmp .neq (.conv .u64 (.len 15)) (.lit 0))] 
        (.need (.tt true) [(.cmp .geq (.conv .i64 (.op .rem .u64 (.conv .u64 (.var 6)) (.conv .u64 (.len 15)))) (.lit 0)), (.cmp .leq (.conv .i64 (.op .rem .u64 (.conv .u64 (.var 6)) (.conv .u64 (.len 15)))) (.cap 15))] 
        (.bnd (.slice (.val 15) none (some (.conv .i64 (.op .rem .u64 (.conv .u64 (.var 6)) (.conv .u64 (.len 15))))) 1) 
        (.call 28 [(.val 30)] [] [] [] [(true, [.int .i64, .int .i64, .sl]), (false, [.int .i64])] 
        (.need (.tt true) [(.cmp .neq (.conv .u64 (.len 17)) (.lit 0))] 
        (.need (.tt true) [(.cmp .geq (.conv .i64 (.op .rem .u64 (.conv .u64 (.var 6)) (.conv .u64 (.len 17)))) (.lit 0)), (.cmp .leq (.conv .i64 (.op .rem .u64 (.conv .u64 (.var 6)) (.conv .u64 (.len 17)))) (.cap 17))] 
        (.bnd (.slice (.val 17) none (some (.conv .i64 (.op .rem .u64 (.conv .u64 (.var 6)) (.conv .u64 (.len 17))))) 1) 
        (.call 30 [(.val 35)] [] [] [] [(true, [.int .i64, .int .i64, .int .i64, .sl]), (false, [.int .i64])] 
        (.app 5 1 1 (.val 15) (.cells [(.int .u8 (.lit 0))] 1) 
        (.call 28 [(.val 41)] [] [] [] [(true, [.int .i64, .int .i64, .sl]), (false, [.int .i64])] 
        (.app 5 1 1 (.val 17) (.cells [(.int .u8 (.lit 0))] 1) 
        (.call 30 [(.val 46)] [] [] [] [(true, [.int .i64, .int .i64, .int .i64, .sl]), (false, [.int .i64])] 
        (.done (.bool (.ite (.ite (.ite (.cmp .eql (.var 34) (.lit 3)) (.cmp .eql (.var 40) (.lit 3)) (.tt false)) (.cmp .eql (.var 45) (.lit 5)) (.tt false)) (.cmp .eql (.var 51) (.lit 5)) (.tt false))) [])))))))))))))))
       (.done (.bool (.tt false)) [])))
      (.done (.bool (.tt false)) [])))))))) 
    (.both 
     (.both 
      (.call 18 [(.agg [(.int .u8 (.var 0)), (.int .u8 (.var 1)), (.int .u8 (.var 2)), (.val 3)]), (.int .u8 (.var 4)), (.int .u8 (.lit 3)), (.val 5)] [] [] [] [(true, [.int .i64, .int .i64, .int .i64, .sl])] 
      (.call 14 [(.agg [(.int .i64 (.var 8)), (.int .i64 (.var 9)), (.val 10)])] [] [] [] [(false, [.sl]), (false, [.int .i64])] 
      (.call 19 [(.agg [(.int .i64 (.var 11)), (.int .i64 (.var 12)), (.int .i64 (.var 13)), (.val 14)])] [] [] [] [(false, [.sl]), (false, [.int .i64])] 
      (.call 28 [(.val 15)] [] [] [] [(true, [.int .i64, .int .i64, .sl]), (false, [.int .i64])] 
      (.call 30 [(.val 17)] [] [] [] [(true, [.int .i64, .int .i64, .int .i64, .sl]), (false, [.int .i64])] 
      (.ite (.not (.ite (.ite (.ite (.cmp .neq (.var 16) (.lit 0)) (.tt true) (.cmp .neq (.var 18) (.lit 0))) (.tt true) (.cmp .neq (.var 22) (.lit 0))) (.tt true) (.cmp .neq (.var 27) (.lit 0))))
       (.call 17 [(.agg [(.int .i64 (.var 19)), (.int .i64 (.var 20)), (.val 21)]), (.agg [(.int .i64 (.var 8)), (.int .i64 (.var 9)), (.val 10)])] [] [] [] [(false, [.bool])] 
       (.ite (.var 28)
        (.call 32 [(.agg [(.int .i64 (.var 23)), (.int .i64 (.var 24)), (.int .i64 (.var 25)), (.val 26)]), (.agg [(.int .i64 (.var 11)), (.int .i64 (.var 12)), (.int .i64 (.var 13)), (.val 14)])] [] [] [] [(false, [.bool])] 
        (.ite (.not (.var 29))
         (.done (.bool (.tt false)) [])
         (.need (.tt true) [(.cmp .neq (.conv .u64 (.len 15)) (.lit 0))] 
         (.need (.tt true) [(.cmp .geq (.conv .i64 (.op .rem .u64 (.conv .u64 (.var 6)) (.conv .u64 (.len 15)))) (.lit 0)), (.cmp .leq (.conv .i64 (.op .rem .u64 (.conv .u64 (.var 6)) (.conv .u64 (.len 15)))) (.cap 15))] 
         (.bnd (.slice (.val 15) none (some (.conv .i64 (.op .rem .u64 (.conv .u64 (.var 6)) (.conv .u64 (.len 15))))) 1) 
         (.call 28 [(.val 30)] [] [] [] [(true, [.int .i64, .int .i64, .sl]), (false, [.int .i64])] 
         (.need (.tt true) [(.cmp .neq (.conv .u64 (.len 17)) (.lit 0))] 
         (.need (.tt true) [(.cmp .geq (.conv .i64 (.op .rem .u64 (.conv .u64 (.var 6)) (.conv .u64 (.len 17)))) (.lit 0)), (.cmp .leq (.conv .i64 (.op .rem .u64 (.conv .u64 (.var 6)) (.conv .u64 (.len 17)))) (.cap 17))] 
         (.bnd (.slice (.val 17) none (some (.conv .i64 (.op .rem .u64 (.conv .u64 (.var 6)) (.conv .u64 (.len 17))))) 1) 
         (.call 30 [(.val 35)] [] [] [] [(true, [.int .i64, .int .i64, .int .i64, .sl]), (false, [.int .i64])] 
         (.app 5 1 1 (.val 15) (.cells [(.int .u8 (.lit 0))] 1) 
         (.call 28 [(.val 41)] [] [] [] [(true, [.int .i64, .int .i64, .sl]), (false, [.int .i64])] 
         (.app 5 1 1 (.val 17) (.cells [(.int .u8 (.lit 0))] 1) 
         (.call 30 [(.val 46)] [] [] [] [(true, [.int .i64, .int .i64, .int .i64, .sl]), (false, [.int .i64])] 
         (.done (.bool (.ite (.ite (.ite (.cmp .eql (.var 34) (.lit 3)) (.cmp .eql (.var 40) (.lit 3)) (.tt false)) (.cmp .eql (.var 45) (.lit 5)) (.tt false)) (.cmp .eql (.var 51) (.lit 5)) (.tt false))) [])))))))))))))))
        (.done (.bool (.tt false)) [])))
       (.done (.bool (.tt false)) []))))))) 
      (.call 18 [(.agg [(.int .u8 (.var 0)), (.int .u8 (.var 1)), (.int .u8 (.var 2)), (.val 3)]), (.int .u8 (.var 4)), (.int .u8 (.lit 3)), (.val 5)] [] [] [] [(true, [.int .i64, .int .i64, .int .i64, .sl])] 
      (.call 14 [(.agg [(.int .i64 (.var 8)), (.int .i64 (.var 9)), (.val 10)])] [] [] [] [(false, [.sl]), (false, [.int .i64])] 
      (.call 19 [(.agg [(.int .i64 (.var 11)), (.int .i64 (.var 12)), (.int .i64 (.var 13)), (.val 14)])] [] [] [] [(false, [.sl]), (false, [.int .i64])] 
      (.call 28 [(.val 15)] [] [] [] [(true, [.int .i64, .int .i64, .sl]), (false, [.int .i64])] 
      (.call 30 [(.val 17)] [] [] [] [(true, [.int .i64, .int .i64, .int .i64, .sl]), (false, [.int .i64])] 
      (.ite (.not (.ite (.ite (.ite (.cmp .neq (.var 16) (.lit 0)) (.tt true) (.cmp .neq (.var 18) (.lit 0))) (.tt true) (.cmp .neq (.var 22) (.lit 0))) (.tt true) (.cmp .neq (.var 27) (.lit 0))))
       (.call 17 [(.agg [(.int .i64 (.var 19)), (.int .i64 (.var 20)), (.val 21)]), (.agg [(.int .i64 (.var 8)), (.int .i64 (.var 9)), (.val 10)])] [] [] [] [(false, [.bool])] 
       (.ite (.var 28)
        (.call 32 [(.agg [(.int .i64 (.var 23)), (.int .i64 (.var 24)), (.int .i64 (.var 25)), (.val 26)]), (.agg [(.int .i64 (.var 11)), (.int .i64 (.var 12)), (.int .i64 (.var 13)), (.val 14)])] [] [] [] [(false, [.bool])] 
        (.ite (.not (.var 29))
         (.done (.bool (.tt false)) [])
         (.need (.tt true) [(.cmp .neq (.conv .u64 (.len 15)) (.lit 0))] 
         (.need (.tt true) [(.cmp .geq (.conv .i64 (.op .rem .u64 (.conv .u64 (.var 6)) (.conv .u64 (.len 15)))) (.lit 0)), (.cmp .leq (.conv .i64 (.op .rem .u64 (.conv .u64 (.var 6)) (.conv .u64 (.len 15)))) (.cap 15))] 
         (.bnd (.slice (.val 15) none (some (.conv .i64 (.op .rem .u64 (.conv .u64 (.var 6)) (.conv .u64 (.len 15))))) 1) 
         (.call 28 [(.val 30)] [] [] [] [(true, [.int .i64, .int .i64, .sl]), (false, [.int .i64])] 
         (.need (.tt true) [(.cmp .neq (.conv .u64 (.len 17)) (.lit 0))] 
         (.need (.tt true) [(.cmp .geq (.conv .i64 (.op .rem .u64 (.conv .u64 (.var 6)) (.conv .u64 (.len 17)))) (.lit 0)), (.cmp .leq (.conv .i64 (.op .rem .u64 (.conv .u64 (.var 6)) (.conv .u64 (.len 17)))) (.cap 17))] 
         (.bnd (.slice (.val 17) none (some (.conv .i64 (.op .rem .u64 (.conv .u64 (.var 6)) (.conv .u64 (.len 17))))) 1) 
         (.call 30 [(.val 35)] [] [] [] [(true, [.int .i64, .int .i64, .int .i64, .sl]), (false, [.int .i64])] 
         (.app 5 1 1 (.val 15) (.cells [(.int .u8 (.lit 0))] 1) 
         (.call 28 [(.val 41)] [] [] [] [(true, [.int .i64, .int .i64, .sl]), (false, [.int .i64])] 
         (.app 5 1 1 (.val 17) (.cells [(.int .u8 (.lit 0))] 1) 
         (.call 30 [(.val 46)] [] [] [] [(true, [.int .i64, .int .i64, .int .i64, .sl]), (false, [.int .i64])] 
         (.done (.bool (.ite (.ite (.ite (.cmp .eql (.var 34) (.lit 3)) (.cmp .eql (.var 40) (.lit 3)) (.tt false)) (.cmp .eql (.var 45) (.lit 5)) (.tt false)) (.cmp .eql (.var 51) (.lit 5)) (.tt false))) [])))))))))))))))
        (.done (.bool (.tt false)) [])))
       (.done (.bool (.tt false)) [])))))))) 
     (.both 
      (.call 18 [(.agg [(.int .u8 (.var 0)), (.int .u8 (.var 1)), (.int .u8 (.var 2)), (.val 3)]), (.int .u8 (.var 4)), (.int .u8 (.lit 3)), (.val 5)] [] [] [] [(true, [.int .i64, .int .i64, .int .i64, .sl])] 
      (.call 14 [(.agg [(.int .i64 (.var 8)), (.int .i64 (.var 9)), (.val 10)])] [] [] [] [(false, [.sl]), (false, [.int .i64])] 
      (.call 19 [(.agg [(.int .i64 (.var 11)), (.int .i64 (.var 12)), (.int .i64 (.var 13)), (.val 14)])] [] [] [] [(false, [.sl]), (false, [.int .i64])] 
      (.call 28 [(.val 15)] [] [] [] [(true, [.int .i64, .int .i64, .sl]), (false, [.int .i64])] 
      (.call 30 [(.val 17)] [] [] [] [(true, [.int .i64, .int .i64, .int .i64, .sl]), (false, [.int .i64])] 
      (.ite (.not (.ite (.ite (.ite (.cmp .neq (.var 16) (.lit 0)) (.tt true) (.cmp .neq (.var 18) (.lit 0))) (.tt true) (.cmp .neq (.var 22) (.lit 0))) (.tt true) (.cmp .neq (.var 27) (.lit 0))))
       (.call 17 [(.agg [(.int .i64 (.var 19)), (.int .i64 (.var 20)), (.val 21)]), (.agg [(.int .i64 (.var 8)), (.int .i64 (.var 9)), (.val 10)])] [] [] [] [(false, [.bool])] 
       (.ite (.var 28)
        (.call 32 [(.agg [(.int .i64 (.var 23)), (.int .i64 (.var 24)), (.int .i64 (.var 25)), (.val 26)]), (.agg [(.int .i64 (.var 11)), (.int .i64 (.var 12)), (.int .i64 (.var 13)), (.val 14)])] [] [] [] [(false, [.bool])] 
        (.ite (.not (.var 29))
         (.done (.bool (.tt false)) [])
         (.need (.tt true) [(.cmp .neq (.conv .u64 (.len 15)) (.lit 0))] 
         (.need (.tt true) [(.cmp .geq (.conv .i64 (.op .rem .u64 (.conv .u64 (.var 6)) (.conv .u64 (.len 15)))) (.lit 0)), (.cmp .leq (.conv .i64 (.op .rem .u64 (.conv .u64 (.var 6)) (.conv .u64 (.len 15)))) (.cap 15))] 
         (.bnd (.slice (.val 15) none (some (.conv .i64 (.op .rem .u64 (.conv .u64 (.var 6)) (.conv .u64 (.len 15))))) 1) 
         (.call 28 [(.val 30)] [] [] [] [(true, [.int .i64, .int .i64, .sl]), (false, [.int .i64])] 
         (.need (.tt true) [(.cmp .neq (.conv .u64 (.len 17)) (.lit 0))] 
         (.need (.tt true) [(.cmp .geq (.conv .i64 (.op .rem .u64 (.conv .u64 (.var 6)) (.conv .u64 (.len 17)))) (.lit 0)), (.cmp .leq (.conv .i64 (.op .rem .u64 (.conv .u64 (.var 6)) (.conv .u64 (.len 17)))) (.cap 17))] 
         (.bnd (.slice (.val 17) none (some (.conv .i64 (.op .rem .u64 (.conv .u64 (.var 6)) (.conv .u64 (.len 17))))) 1) 
         (.call 30 [(.val 35)] [] [] [] [(true, [.int .i64, .int .i64, .int .i64, .sl]), (false, [.int .i64])] 
         (.app 5 1 1 (.val 15) (.cells [(.int .u8 (.lit 0))] 1) 
         (.call 28 [(.val 41)] [] [] [] [(true, [.int .i64, .int .i64, .sl]), (false, [.int .i64])] 
         (.app 5 1 1 (.val 17) (.cells [(.int .u8 (.lit 0))] 1) 
         (.call 30 [(.val 46)] [] [] [] [(true, [.int .i64, .int .i64, .int .i64, .sl]), (false, [.int .i64])] 
         (.done (.bool (.ite (.ite (.ite (.cmp .eql (.var 34) (.lit 3)) (.cmp .eql (.var 40) (.lit 3)) (.tt false)) (.cmp .eql (.var 45) (.lit 5)) (.tt false)) (.cmp .eql (.var 51) (.lit 5)) (.tt false))) [])))))))))))))))
        (.done (.bool (.tt false)) [])))
       (.done (.bool (.tt false)) []))))))) 
      (.call 18 [(.agg [(.int .u8 (.var 0)), (.int .u8 (.var 1)), (.int .u8 (.var 2)), (.val 3)]), (.int .u8 (.var 4)), (.int .u8 (.lit 3)), (.val 5)] [] [] [] [(true, [.int .i64, .int .i64, .int .i64, .sl])] 
      (.call 14 [(.agg [(.int .i64 (.var 8)), (.int .i64 (.var 9)), (.val 10)])] [] [] [] [(false, [.sl]), (false, [.int .i64])] 
      (.call 19 [(.agg [(.int .i64 (.var 11)), (.int .i64 (.var 12)), (.int .i64 (.var 13)), (.val 14)])] [] [] [] [(false, [.sl]), (false, [.int .i64])] 
      (.call 28 [(.val 15)] [] [] [] [(true, [.int .i64, .int .i64, .sl]), (false, [.int .i64])] 
      (.call 30 [(.val 17)] [] [] [] [(true, [.int .i64, .int .i64, .int .i64, .sl]), (false, [.int .i64])] 
      (.ite (.not (.ite (.ite (.ite (.cmp .neq (.var 16) (.lit 0)) (.tt true) (.cmp .neq (.var 18) (.lit 0))) (.tt true) (.cmp .neq (.var 22) (.lit 0))) (.tt true) (.cmp .neq (.var 27) (.lit 0))))
       (.call 17 [(.agg [(.int .i64 (.var 19)), (.int .i64 (.var 20)), (.val 21)]), (.agg [(.int .i64 (.var 8)), (.int .i64 (.var 9)), (.val 10)])] [] [] [] [(false, [.bool])] 
       (.ite (.var 28)
        (.call 32 [(.agg [(.int .i64 (.var 23)), (.int .i64 (.var 24)), (.int .i64 (.var 25)), (.val 26)]), (.agg [(.int .i64 (.var 11)), (.int .i64 (.var 12)), (.int .i64 (.var 13)), (.val 14)])] [] [] [] [(false, [.bool])] 
        (.ite (.not (.var 29))
         (.done (.bool (.tt false)) [])
         (.need (.tt true) [(.cmp .neq (.conv .u64 (.len 15)) (.lit 0))] 
         (.need (.tt true) [(.cmp .geq (.conv .i64 (.op .rem .u64 (.conv .u64 (.var 6)) (.conv .u64 (.len 15)))) (.lit 0)), (.cmp .leq (.conv .i64 (.op .rem .u64 (.conv .u64 (.var 6)) (.conv .u64 (.len 15)))) (.cap 15))] 
         (.bnd (.slice (.val 15) none (some (.conv .i64 (.op .rem .u64 (.conv .u64 (.var 6)) (.conv .u64 (.len 15))))) 1) 
         (.call 28 [(.val 30)] [] [] [] [(true, [.int .i64, .int .i64, .sl]), (false, [.int .i64])] 
         (.need (.tt true) [(.cmp .neq (.conv .u64 (.len 17)) (.lit 0))] 
         (.need (.tt true) [(.cmp .geq (.conv .i64 (.op .rem .u64 (.conv .u64 (.var 6)) (.conv .u64 (.len 17)))) (.lit 0)), (.cmp .leq (.conv .i64 (.op .rem .u64 (.conv .u64 (.var 6)) (.conv .u64 (.len 17)))) (.cap 17))] 
         (.bnd (.slice (.val 17) none (some (.conv .i64 (.op .rem .u64 (.conv .u64 (.var 6)) (.conv .u64 (.len 17))))) 1) 
         (.call 30 [(.val 35)] [] [] [] [(true, [.int .i64, .int .i64, .int .i64, .sl]), (false, [.int .i64])] 
         (.app 5 1 1 (.val 15) (.cells [(.int .u8 (.lit 0))] 1) 
         (.call 28 [(.val 41)] [] [] [] [(true, [.int .i64, .int .i64, .sl]), (false, [.int .i64])] 
         (.app 5 1 1 (.val 17) (.cells [(.int .u8 (.lit 0))] 1) 
         (.call 30 [(.val 46)] [] [] [] [(true, [.int .i64, .int .i64, .int .i64, .sl]), (false, [.int .i64])] 
         (.done (.bool (.ite (.ite (.ite (.cmp .eql (.var 34) (.lit 3)) (.cmp .eql (.var 40) (.lit 3)) (.tt false)) (.cmp .eql (.var 45) (.lit 5)) (.tt false)) (.cmp .eql (.var 51) (.lit 5)) (.tt false))) [])))))))))))))))
        (.done (.bool (.tt false)) [])))
       (.done (.bool (.tt false)) []))))))))))) 
   (.both 
    (.both 
     (.call 12 [(.agg [(.int .u8 (.var 0)), (.int .u8 (.var 1)), (.int .u8 (.var 2)), (.val 3)])] [] [] [] [(true, [.int .i64, .int .i64, .sl])] 
     (.both 
      (.call 18 [(.agg [(.int .u8 (.var 0)), (.int .u8 (.var 1)), (.int .u8 (.var 2)), (.val 3)]), (.int .u8 (.var 4)), (.int .u8 (.lit 3)), (.val 5)] [] [] [] [(true, [.int .i64, .int .i64, .int .i64, .sl])] 
      (.call 14 [(.agg [(.int .i64 (.var 8)), (.int .i64 (.var 9)), (.val 10)])] [] [] [] [(false, [.sl]), (false, [.int .i64])] 
      (.call 19 [(.agg [(.int .i64 (.var 11)), (.int .i64 (.var 12)), (.int .i64 (.var 13)), (.val 14)])] [] [] [] [(false, [.sl]), (false, [.int .i64])] 
      (.call 28 [(.val 15)] [] [] [] [(true, [.int .i64, .int .i64, .sl]), (false, [.int .i64])] 
      (.call 30 [(.val 17)] [] [] [] [(true, [.int .i64, .int .i64, .int .i64, .sl]), (false, [.int .i64])] 
      (.ite (.not (.ite (.ite (.ite (.cmp .neq (.var 16) (.lit 0)) (.tt true) (.cmp .neq (.var 18) (.lit 0))) (.tt true) (.cmp .neq (.var 22) (.lit 0))) (.tt true) (.cmp .neq (.var 27) (.lit 0))))
       (.call 17 [(.agg [(.int .i64 (.var 19)), (.int .i64 (.var 20)), (.val 21)]), (.agg [(.int .i64 (.var 8)), (.int .i64 (.var 9)), (.val 10)])] [] [] [] [(false, [.bool])] 
       (.ite (.var 28)
        (.call 32 [(.agg [(.int .i64 (.var 23)), (.int .i64 (.var 24)), (.int .i64 (.var 25)), (.val 26)]), (.agg [(.int .i64 (.var 11)), (.int .i64 (.var 12)), (.int .i64 (.var 13)), (.val 14)])] [] [] [] [(false, [.bool])] 
        (.ite (.not (.var 29))
         (.done (.bool (.tt false)) [])
         (.need (.tt true) [(.cmp .neq (.conv .u64 (.len 15)) (.lit 0))] 
         (.need (.tt true) [(.cmp .geq (.conv .i64 (.op .rem .u64 (.conv .u64 (.var 6)) (.conv .u64 (.len 15)))) (.lit 0)), (.cmp .leq (.conv .i64 (.op .rem .u64 (.conv .u64 (.var 6)) (.conv .u64 (.len 15)))) (.cap 15))] 
         (.bnd (.slice (.val 15) none (some (.conv .i64 (.op .rem .u64 (.conv .u64 (.var 6)) (.conv .u64 (.len 15))))) 1) 
         (.call 28 [(.val 30)] [] [] [] [(true, [.int .i64, .int .i64, .sl]), (false, [.int .i64])] 
         (.need (.tt true) [(.cmp .neq (.conv .u64 (.len 17)) (.lit 0))] 
         (.need (.tt true) [(.cmp .geq (.conv .i64 (.op .rem .u64 (.conv .u64 (.var 6)) (.conv .u64 (.len 17)))) (.lit 0)), (.cmp .leq (.conv .i64 (.op .rem .u64 (.conv .u64 (.var 6)) (.conv .u64 (.len 17)))) (.cap 17))] 
         (.bnd (.slice (.val 17) none (some (.conv .i64 (.op .rem .u64 (.conv .u64 (.var 6)) (.conv .u64 (.len 17))))) 1) 
         (.call 30 [(.val 35)] [] [] [] [(true, [.int .i64, .int .i64, .int .i64, .sl]), (false, [.int .i64])] 
         (.app 5 1 1 (.val 15) (.cells [(.int .u8 (.lit 0))] 1) 
         (.call 28 [(.val 41)] [] [] [] [(true, [.int .i64, .int .i64, .sl]), (false, [.int .i64])] 
         (.app 5 1 1 (.val 17) (.cells [(.int .u8 (.lit 0))] 1) 
         (.call 30 [(.val 46)] [] [] [] [(true, [.int .i64, .int .i64, .int .i64, .sl]), (false, [.int .i64])] 
         (.done (.bool (.ite (.ite (.ite (.cmp .eql (.var 34) (.lit 3)) (.cmp .eql (.var 40) (.lit 3)) (.tt false)) (.cmp .eql (.var 45) (.lit 5)) (.tt false)) (.cmp .eql (.var 51) (.lit 5)) (.tt false))) [])))))))))))))))
        (.done (.bool (.tt false)) [])))
       (.done (.bool (.tt false)) []))))))) 
      (.call 18 [(.agg [(.int .u8 (.var 0)), (.int .u8 (.var 1)), (.int .u8 (.var 2)), (.val 3)]), (.int .u8 (.var 4)), (.int .u8 (.lit 3)), (.val 5)] [] [] [] [(true, [.int .i64, .int .i64, .int .i64, .sl])] 
      (.call 14 [(.agg [(.int .i64 (.var 8)), (.int .i64 (.var 9)), (.val 10)])] [] [] [] [(false, [.sl]), (false, [.int .i64])] 
      (.call 19 [(.agg [(.int .i64 (.var 11)), (.int .i64 (.var 12)), (.int .i64 (.var 13)), (.val 14)])] [] [] [] [(false, [.sl]), (false, [.int .i64])] 
      (.call 28 [(.val 15)] [] [] [] [(true, [.int .i64, .int .i64, .sl]), (false, [.int .i64])] 
      (.call 30 [(.val 17)] [] [] [] [(true, [.int .i64, .int .i64, .int .i64, .sl]), (false, [.int .i64])] 
      (.ite (.not (.ite (.ite (.ite (.cmp .neq (.var 16) (.lit 0)) (.tt true) (.cmp .neq (.var 18) (.lit 0))) (.tt true) (.cmp .neq (.var 22) (.lit 0))) (.tt true) (.cmp .neq (.var 27) (.lit 0))))
       (.call 17 [(.agg [(.int .i64 (.var 19)), (.int .i64 (.var 20)), (.val 21)]), (.agg [(.int .i64 (.var 8)), (.int .i64 (.var 9)), (.val 10)])] [] [] [] [(false, [.bool])] 
       (.ite (.var 28)
        (.call 32 [(.agg [(.int .i64 (.var 23)), (.int .i64 (.var 24)), (.int .i64 (.var 25)), (.val 26)]), (.agg [(.int .i64 (.var 11)), (.int .i64 (.var 12)), (.int .i64 (.var 13)), (.val 14)])] [] [] [] [(false, [.bool])] 
        (.ite (.not (.var 29))
         (.done (.bool (.tt false)) [])
         (.need (.tt true) [(.cmp .neq (.conv .u64 (.len 15)) (.lit 0))] 
         (.need (.tt true) [(.cmp .geq (.conv .i64 (.op .rem .u64 (.conv .u64 (.var 6)) (.conv .u64 (.len 15)))) (.lit 0)), (.cmp .leq (.conv .i64 (.op .rem .u64 (.conv .u64 (.var 6)) (.conv .u64 (.len 15)))) (.cap 15))] 
         (.bnd (.slice (.val 15) none (some (.conv .i64 (.op .rem .u64 (.conv .u64 (.var 6)) (.conv .u64 (.len 15))))) 1) 
         (.call 28 [(.val 30)] [] [] [] [(true, [.int .i64, .int .i64, .sl]), (false, [.int .i64])] 
         (.need (.tt true) [(.cmp .neq (.conv .u64 (.len 17)) (.lit 0))] 
         (.need (.tt true) [(.cmp .geq (.conv .i64 (.op .rem .u64 (.conv .u64 (.var 6)) (.conv .u64 (.len 17)))) (.lit 0)), (.cmp .leq (.conv .i64 (.op .rem .u64 (.conv .u64 (.var 6)) (.conv .u64 (.len 17)))) (.cap 17))] 
         (.bnd (.slice (.val 17) none (some (.conv .i64 (.op .rem .u64 (.conv .u64 (.var 6)) (.conv .u64 (.len 17))))) 1) 
         (.call 30 [(.val 35)] [] [] [] [(true, [.int .i64, .int .i64, .int .i64, .sl]), (false, [.int .i64])] 
         (.app 5 1 1 (.val 15) (.cells [(.int .u8 (.lit 0))] 1) 
         (.call 28 [(.val 41)] [] [] [] [(true, [.int .i64, .int .i64, .sl]), (false, [.int .i64])] 
         (.app 5 1 1 (.val 17) (.cells [(.int .u8 (.lit 0))] 1) 
         (.call 30 [(.val 46)] [] [] [] [(true, [.int .i64, .int .i64, .int .i64, .sl]), (false, [.int .i64])] 
         (.done (.bool (.ite (.ite (.ite (.cmp .eql (.var 34) (.lit 3)) (.cmp .eql (.var 40) (.lit 3)) (.tt false)) (.cmp .eql (.var 45) (.lit 5)) (.tt false)) (.cmp .eql (.var 51) (.lit 5)) (.tt false))) [])))))))))))))))
        (.done (.bool (.tt false)) [])))
       (.done (.bool (.tt false)) []))))))))) 
     (.call 12 [(.agg [(.int .u8 (.var 0)), (.int .u8 (.var 1)), (.int .u8 (.var 2)), (.val 3)])] [] [] [] [(true, [.int .i64, .int .i64, .sl])] 
     (.call 18 [(.agg [(.int .u8 (.var 0)), (.int .u8 (.var 1)), (.int .u8 (.var 2)), (.val 3)]), (.int .u8 (.var 4)), (.int .u8 (.lit 3)), (.val 5)] [] [] [] [(true, [.int .i64, .int .i64, .int .i64, .sl])] 
     (.call 14 [(.agg [(.int .i64 (.var 8)), (.int .i64 (.var 9)), (.val 10)])] [] [] [] [(false, [.sl]), (false, [.int .i64])] 
     (.call 19 [(.agg [(.int .i64 (.var 11)), (.int .i64 (.var 12)), (.int .i64 (.var 13)), (.val 14)])] [] [] [] [(false, [.sl]), (false, [.int .i64])] 
     (.call 28 [(.val 15)] [] [] [] [(true, [.int .i64, .int .i64, .sl]), (false, [.int .i64])] 
     (.call 30 [(.val 17)] [] [] [] [(true, [.int .i64, .int .i64, .int .i64, .sl]), (false, [.int .i64])] 
     (.ite (.not (.ite (.ite (.ite (.cmp .neq (.var 16) (.lit 0)) (.tt true) (.cmp .neq (.var 18) (.lit 0))) (.tt true) (.cmp .neq (.var 22) (.lit 0))) (.tt true) (.cmp .neq (.var 27) (.lit 0))))
      (.call 17 [(.agg [(.int .i64 (.var 19)), (.int .i64 (.var 20)), (.val 21)]), (.agg [(.int .i64 (.var 8)), (.int .i64 (.var 9)), (.val 10)])] [] [] [] [(false, [.bool])] 
      (.ite (.var 28)
       (.call 32 [(.agg [(.int .i64 (.var 23)), (.int .i64 (.var 24)), (.int .i64 (.var 25)), (.val 26)]), (.agg [(.int .i64 (.var 11)), (.int .i64 (.var 12)), (.int .i64 (.var 13)), (.val 14)])] [] [] [] [(false, [.bool])] 
       (.ite (.not (.var 29))
        (.done (.bool (.tt false)) [])
        (.need (.tt true) [(.cmp .neq (.conv .u64 (.len 15)) (.lit 0))] 
        (.need (.tt true) [(.cmp .geq (.conv .i64 (.op .rem .u64 (.conv .u64 (.var 6)) (.conv .u64 (.len 15)))) (.lit 0)), (.cmp .leq (.conv .i64 (.op .rem .u64 (.conv .u64 (.var 6)) (.conv .u64 (.len 15)))) (.cap 15))] 
        (.bnd (.slice (.val 15) none (some (.conv .i64 (.op .rem .u64 (.conv .u64 (.var 6)) (.conv .u64 (.len 15))))) 1) 
        (.call 28 [(.val 30)] [] [] [] [(true, [.int .i64, .int .i64, .sl]), (false, [.int .i64])] 
        (.need (.tt true) [(.cmp .neq (.conv .u64 (.len 17)) (.lit 0))] 
        (.need (.tt true) [(.cmp .geq (.conv .i64 (.op .rem .u64 (.conv .u64 (.var 6)) (.conv .u64 (.len 17)))) (.lit 0)), (.cmp .leq (.conv .i64 (.op .rem .u64 (.conv .u64 (.var 6)) (.conv .u64 (.len 17)))) (.cap 17))] 
        (.bnd (.slice (.val 17) none (some (.conv .i64 (.op .rem .u64 (.conv .u64 (.var 6)) (.conv .u64 (.len 17))))) 1) 
        (.call 30 [(.val 35)] [] [] [] [(true, [.int .i64, .int .i64, .int .i64, .sl]), (false, [.int .i64])] 
        (.app 5 1 1 (.val 15) (.cells [(.int .u8 (.lit 0))] 1) 
        (.call 28 [(.val 41)] [] [] [] [(true, [.int .i64, .int .i64, .sl]), (false, [.int .i64])] 
        (.app 5 1 1 (.val 17) (.cells [(.int .u8 (.lit 0))] 1) 
        (.call 30 [(.val 46)] [] [] [] [(true, [.int .i64, .int .i64, .int .i64, .sl]), (false, [.int .i64])] 
        (.done (.bool (.ite (.ite (.ite (.cmp .eql (.var 34) (.lit 3)) (.cmp .eql (.var 40) (.lit 3)) (.tt false)) (.cmp .eql (.var 45) (.lit 5)) (.tt false)) (.cmp .eql (.var 51) (.lit 5)) (.tt false))) [])))))))))))))))
       (.done (.bool (.tt false)) [])))
      (.done (.bool (.tt false)) []))))))))) 
    (.both 
     (.call 12 [(.agg [(.int .u8 (.var 0)), (.int .u8 (.var 1)), (.int .u8 (.var 2)), (.val 3)])] [] [] [] [(true, [.int .i64, .int .i64, .sl])] 
     (.both 
      (.call 18 [(.agg [(.int .u8 (.var 0)), (.int .u8 (.var 1)), (.int .u8 (.var 2)), (.val 3)]), (.int .u8 (.var 4)), (.int .u8 (.lit 3)), (.val 5)] [] [] [] [(true, [.int .i64, .int .i64, .int .i64, .sl])] 
      (.call 14 [(.agg [(.int .i64 (.var 8)), (.int .i64 (.var 9)), (.val 10)])] [] [] [] [(false, [.sl]), (false, [.int .i64])] 
      (.call 19 [(.agg [(.int .i64 (.var 11)), (.int .i64 (.var 12)), (.int .i64 (.var 13)), (.val 14)])] [] [] [] [(false, [.sl]), (false, [.int .i64])] 
      (.call 28 [(.val 15)] [] [] [] [(true, [.int .i64, .int .i64, .sl]), (false, [.int .i64])] 
      (.call 30 [(.val 17)] [] [] [] [(true, [.int .i64, .int .i64, .int .i64, .sl]), (false, [.int .i64])] 
      (.ite (.not (.ite (.ite (.ite (.cmp .neq (.var 16) (.lit 0)) (.tt true) (.cmp .neq (.var 18) (.lit 0))) (.tt true) (.cmp .neq (.var 22) (.lit 0))) (.tt true) (.cmp .neq (.var 27) (.lit 0))))
       (.call 17 [(.agg [(.int .i64 (.var 19)), (.int .i64 (.var 20)), (.val 21)]), (.agg [(.int .i64 (.var 8)), (.int .i64 (.var 9)), (.val 10)])] [] [] [] [(false, [.bool])] 
       (.ite (.var 28)
        (.call 32 [(.agg [(.int .i64 (.var 23)), (.int .i64 (.var 24)), (.int .i64 (.var 25)), (.val 26)]), (.agg [(.int .i64 (.var 11)), (.int .i64 (.var 12)), (.int .i64 (.var 13)), (.val 14)])] [] [] [] [(false, [.bool])] 
        (.ite (.not (.var 29))
         (.done (.bool (.tt false)) [])
         (.need (.tt true) [(.cmp .neq (.conv .u64 (.len 15)) (.lit 0))] 
         (.need (.tt true) [(.cmp .geq (.conv .i64 (.op .rem .u64 (.conv .u64 (.var 6)) (.conv .u64 (.len 15)))) (.lit 0)), (.cmp .leq (.conv .i64 (.op .rem .u64 (.conv .u64 (.var 6)) (.conv .u64 (.len 15)))) (.cap 15))] 
         (.bnd (.slice (.val 15) none (some (.conv .i64 (.op .rem .u64 (.conv .u64 (.var 6)) (.conv .u64 (.len 15))))) 1) 
         (.call 28 [(.val 30)] [] [] [] [(true, [.int .i64, .int .i64, .sl]), (false, [.int .i64])] 
         (.need (.tt true) [(.cmp .neq (.conv .u64 (.len 17)) (.lit 0))] 
         (.need (.tt true) [(.cmp .geq (.conv .i64 (.op .rem .u64 (.conv .u64 (.var 6)) (.conv .u64 (.len 17)))) (.lit 0)), (.cmp .leq (.conv .i64 (.op .rem .u64 (.conv .u64 (.var 6)) (.conv .u64 (.len 17)))) (.cap 17))] 
         (.bnd (.slice (.val 17) none (some (.conv .i64 (.op .rem .u64 (.conv .u64 (.var 6)) (.conv .u64 (.len 17))))) 1) 
         (.call 30 [(.val 35)] [] [] [] [(true, [.int .i64, .int .i64, .int .i64, .sl]), (false, [.int .i64])] 
         (.app 5 1 1 (.val 15) (.cells [(.int .u8 (.lit 0))] 1) 
         (.call 28 [(.val 41)] [] [] [] [(true, [.int .i64, .int .i64, .sl]), (false, [.int .i64])] 
         (.app 5 1 1 (.val 17) (.cells [(.int .u8 (.lit 0))] 1) 
         (.call 30 [(.val 46)] [] [] [] [(true, [.int .i64, .int .i64, .int .i64, .sl]), (false, [.int .i64])] 
         (.done (.bool (.ite (.ite (.ite (.cmp .eql (.var 34) (.lit 3)) (.cmp .eql (.var 40) (.lit 3)) (.tt false)) (.cmp .eql (.var 45) (.lit 5)) (.tt false)) (.cmp .eql (.var 51) (.lit 5)) (.tt false))) [])))))))))))))))
        (.done (.bool (.tt false)) [])))
       (.done (.bool (.tt false)) []))))))) 
      (.call 18 [(.agg [(.int .u8 (.var 0)), (.int .u8 (.var 1)), (.int .u8 (.var 2)), (.val 3)]), (.int .u8 (.var 4)), (.int .u8 (.lit 3)), (.val 5)] [] [] [] [(true, [.int .i64, .int .i64, .int .i64, .sl])] 
      (.call 14 [(.agg [(.int .i64 (.var 8)), (.int .i64 (.var 9)), (.val 10)])] [] [] [] [(false, [.sl]), (false, [.int .i64])] 
      (.call 19 [(.agg [(.int .i64 (.var 11)), (.int .i64 (.var 12)), (.int .i64 (.var 13)), (.val 14)])] [] [] [] [(false, [.sl]), (false, [.int .i64])] 
      (.call 28 [(.val 15)] [] [] [] [(true, [.int .i64, .int .i64, .sl]), (false, [.int .i64])] 
      (.call 30 [(.val 17)] [] [] [] [(true, [.int .i64, .int .i64, .int .i64, .sl]), (false, [.int .i64])] 
      (.ite (.not (.ite (.ite (.ite (.cmp .neq (.var 16) (.lit 0)) (.tt true) (.cmp .neq (.var 18) (.lit 0))) (.tt true) (.cmp .neq (.var 22) (.lit 0))) (.tt true) (.cmp .neq (.var 27) (.lit 0))))
       (.call 17 [(.agg [(.int .i64 (.var 19)), (.int .i64 (.var 20)), (.val 21)]), (.agg [(.int .i64 (.var 8)), (.int .i64 (.var 9)), (.val 10)])] [] [] [] [(false, [.bool])] 
       (.ite (.var 28)
        (.call 32 [(.agg [(.int .i64 (.var 23)), (.int .i64 (.var 24)), (.int .i64 (.var 25)), (.val 26)]), (.agg [(.int .i64 (.var 11)), (.int .i64 (.var 12)), (.int .i64 (.var 13)), (.val 14)])] [] [] [] [(false, [.bool])] 
        (.ite (.not (.var 29))
         (.done (.bool (.tt false)) [])
         (.need (.tt true) [(.cmp .neq (.conv .u64 (.len 15)) (.lit 0))] 
         (.need (.tt true) [(.cmp .geq (.conv .i64 (.op .rem .u64 (.conv .u64 (.var 6)) (.conv .u64 (.len 15)))) (.lit 0)), (.cmp .leq (.conv .i64 (.op .rem .u64 (.conv .u64 (.var 6)) (.conv .u64 (.len 15)))) (.cap 15))] 
         (.bnd (.slice (.val 15) none (some (.conv .i64 (.op .rem .u64 (.conv .u64 (.var 6)) (.conv .u64 (.len 15))))) 1) 
         (.call 28 [(.val 30)] [] [] [] [(true, [.int .i64, .int .i64, .sl]), (false, [.int .i64])] 
         (.need (.tt true) [(.cmp .neq (.conv .u64 (.len 17)) (.lit 0))] 
         (.need (.tt true) [(.cmp .geq (.conv .i64 (.op .rem .u64 (.conv .u64 (.var 6)) (.conv .u64 (.len 17)))) (.lit 0)), (.cmp .leq (.conv .i64 (.op .rem .u64 (.conv .u64 (.var 6)) (.conv .u64 (.len 17)))) (.cap 17))] 
         (.bnd (.slice (.val 17) none (some (.conv .i64 (.op .rem .u64 (.conv .u64 (.var 6)) (.conv .u64 (.len 17))))) 1) 
         (.call 30 [(.val 35)] [] [] [] [(true, [.int .i64, .int .i64, .int .i64, .sl]), (false, [.int .i64])] 
         (.app 5 1 1 (.val 15) (.cells [(.int .u8 (.lit 0))] 1) 
         (.call 28 [(.val 41)] [] [] [] [(true, [.int .i64, .int .i64, .sl]), (false, [.int .i64])] 
         (.app 5 1 1 (.val 17) (.cells [(.int .u8 (.lit 0))] 1) 
         (.call 30 [(.val 46)] [] [] [] [(true, [.int .i64, .int .i64, .int .i64, .sl]), (false, [.int .i64])] 
         (.done (.bool (.ite (.ite (.ite (.cmp .eql (.var 34) (.lit 3)) (.cmp .eql (.var 40) (.lit 3)) (.tt false)) (.cmp .eql (.var 45) (.lit 5)) (.tt false)) (.cmp .eql (.var 51) (.lit 5)) (.tt false))) [])))))))))))))))
        (.done (.bool (.tt false)) [])))
       (.done (.bool (.tt false)) []))))))))) 
     (.call 12 [(.agg [(.int .u8 (.var 0)), (.int .u8 (.var 1)), (.int .u8 (.var 2)), (.val 3)])] [] [] [] [(true, [.int .i64, .int .i64, .sl])] 
     (.call 18 [(.agg [(.int .u8 (.var 0)), (.int .u8 (.var 1)), (.int .u8 (.var 2)), (.val 3)]), (.int .u8 (.var 4)), (.int .u8 (.lit 3)), (.val 5)] [] [] [] [(true, [.int .i64, .int .i64, .int .i64, .sl])] 
     (.call 14 [(.agg [(.int .i64 (.var 8)), (.int .i64 (.var 9)), (.val 10)])] [] [] [] [(false, [.sl]), (false, [.int .i64])] 
     (.call 19 [(.agg [(.int .i64 (.var 11)), (.int .i64 (.var 12)), (.int .i64 (.var 13)), (.val 14)])] [] [] [] [(false, [.sl]), (false, [.int .i64])] 
     (.call 28 [(.val 15)] [] [] [] [(true, [.int .i64, .int .i64, .sl]), (false, [.int .i64])] 
     (.call 30 [(.val 17)] [] [] [] [(true, [.int .i64, .int .i64, .int .i64, .sl]), (false, [.int .i64])] 
     (.ite (.not (.ite (.ite (.ite (.cmp .neq (.var 16) (.lit 0)) (.tt true) (.cmp .neq (.var 18) (.lit 0))) (.tt true) (.cmp .neq (.var 22) (.lit 0))) (.tt true) (.cmp .neq (.var 27) (.lit 0))))
      (.call 17 [(.agg [(.int .i64 (.var 19)), (.int .i64 (.var 20)), (.val 21)]), (.agg [(.int .i64 (.var 8)), (.int .i64 (.var 9)), (.val 10)])] [] [] [] [(false, [.bool])] 
      (.ite (.var 28)
       (.call 32 [(.agg [(.int .i64 (.var 23)), (.int .i64 (.var 24)), (.int .i64 (.var 25)), (.val 26)]), (.agg [(.int .i64 (.var 11)), (.int .i64 (.var 12)), (.int .i64 (.var 13)), (.val 14)])] [] [] [] [(false, [.bool])] 
       (.ite (.not (.var 29))
        (.done (.bool (.tt false)) [])
        (.need (.tt true) [(.cmp .neq (.conv .u64 (.len 15)) (.lit 0))] 
        (.need (.tt true) [(.cmp .geq (.conv .i64 (.op .rem .u64 (.conv .u64 (.var 6)) (.conv .u64 (.len 15)))) (.lit 0)), (.cmp .leq (.conv .i64 (.op .rem .u64 (.conv .u64 (.var 6)) (.conv .u64 (.len 15)))) (.cap 15))] 
        (.bnd (.slice (.val 15) none (some (.conv .i64 (.op .rem .u64 (.conv .u64 (.var 6)) (.conv .u64 (.len 15))))) 1) 
        (.call 28 [(.val 30)] [] [] [] [(true, [.int .i64, .int .i64, .sl]), (false, [.int .i64])] 
        (.need (.tt true) [(.cmp .neq (.conv .u64 (.len 17)) (.lit 0))] 
        (.need (.tt true) [(.cmp .geq (.conv .i64 (.op .rem .u64 (.conv .u64 (.var 6)) (.conv .u64 (.len 17)))) (.lit 0)), (.cmp .leq (.conv .i64 (.op .rem .u64 (.conv .u64 (.var 6)) (.conv .u64 (.len 17)))) (.cap 17))] 
        (.bnd (.slice (.val 17) none (some (.conv .i64 (.op .rem .u64 (.conv .u64 (.var 6)) (.conv .u64 (.len 17))))) 1) 
        (.call 30 [(.val 35)] [] [] [] [(true, [.int .i64, .int .i64, .int .i64, .sl]), (false, [.int .i64])] 
        (.app 5 1 1 (.val 15) (.cells [(.int .u8 (.lit 0))] 1) 
        (.call 28 [(.val 41)] [] [] [] [(true, [.int .i64, .int .i64, .sl]), (false, [.int .i64])] 
        (.app 5 1 1 (.val 17) (.cells [(.int .u8 (.lit 0))] 1) 
        (.call 30 [(.val 46)] [] [] [] [(true, [.int .i64, .int .i64, .int .i64, .sl]), (false, [.int .i64])] 
        (.done (.bool (.ite (.ite (.ite (.cmp .eql (.var 34) (.lit 3)) (.cmp .eql (.var 40) (.lit 3)) (.tt false)) (.cmp .eql (.var 45) (.lit 5)) (.tt false)) (.cmp .eql (.var 51) (.lit 5)) (.tt false))) [])))))))))))))))
       (.done (.bool (.tt false)) [])))
      (.done (.bool (.tt false)) [])))))))))))))
def l8 : List (Nat × List Nat × List (Nat × Nat) × List Nat) := []
theorem e8 : ev Try.prog ⟨allF, [], l8⟩ (bodyOf Try.f8) 0 (initSt [(.agg [(.int .u8 (.var 0)), (.int .u8 (.var 1)), (.int .u8 (.var 2)), (.val 3)]), (.int .u8 (.var 4)), (.val 5), (.int .i64 (.var 6))] [] Try.f8.ntmps [.int .u8, .int .u8, .int .u8, .sl, .int .u8, .sl, .int .i64]) (finK Try.prog Try.f8.results []) = t8 := by kernel_rfl
theorem c8 {G : List Value} {h : H} {R : Value → List (List Value) → H → Prop} (hG : FitsL [.int .u8, .int .u8, .int .u8, .sl, .int .u8, .sl, .int .i64] G) (H : holds Try.prog R t8 G [] h) : CallsA Try.prog 8 (fun e => SV.denL G (fun k => e (k - 1000000)) [(.agg [(.int .u8 (.var 0)), (.int .u8 (.var 1)), (.int .u8 (.var 2)), (.val 3)]), (.int .u8 (.var 4)), (.val 5), (.int .i64 (.var 6))]) ([].map (SV.denL G dE)) h R :=
  CallsA.of_ev (cf := ⟨allF, [], l8⟩) (fn := Try.f8) (c := bodyOf Try.f8) (pcs := []) Try.func8 (by rfl) callOK (by rfl) hG (by rfl) (by rw [show ([] : List (List SV)).map List.length = [] from rfl, e8]; exact H)
end Go.Proofs.Ythnoplfjcdkacaa
