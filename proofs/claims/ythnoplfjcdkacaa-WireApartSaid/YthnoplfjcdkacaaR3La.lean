/-
  What the evaluator leaves of the functions of this seat (trees, printed by a program of ours), and their contracts from it. Conditions: none.
-/
import Derived.Test.YthnoplfjcdkacaaR1Tr
set_option linter.unusedVariables false
set_option linter.unusedSimpArgs false
namespace Go.Proofs.Ythnoplfjcdkacaa
open Go

/-- What is left of outworker/outworkerlaw08.WireApart. -/
def t4 : Out :=
 (.call 10 [] [] [] [] [(false, [.bool])] 
 (.ite (.not (.var 9))
  (.done (.bool (.tt false)) [])
  (.ite (.var 8)
   (.both 
    (.call 12 [(.agg [(.int .u8 (.var 0)), (.int .u8 (.var 1)), (.int .u8 (.var 2)), (.val 3)])] [] [] [] [(true, [.int .i64, .int .i64, .sl])] 
    (.both 
     (.call 12 [(.agg [(.int .u8 (.var 0)), (.int .u8 (.var 1)), (.int .u8 (.var 2)), (.val 3)])] [] [] [] [(true, [.int .i64, .int .i64, .sl])] 
     (.both 
      (.call 14 [(.agg [(.int .i64 (.var 10)), (.int .i64 (.var 11)), (.val 12)])] [] [] [] [(false, [.sl]), (false, [.int .i64])] 
      (.call 14 [(.agg [(.int .i64 (.var 13)), (.int .i64 (.var 14)), (.val 15)])] [] [] [] [(false, [.sl]), (false, [.int .i64])] 
      (.both 
       (.ite (.ite (.cmp .eql (.var 17) (.lit 0)) (.cmp .eql (.var 19) (.lit 0)) (.tt false))
        (.bstr (.val 16) 
        (.both 
         (.bstr (.val 18) 
         (.call 17 [(.agg [(.int .i64 (.var 10)), (.int .i64 (.var 11)), (.val 12)]), (.agg [(.int .i64 (.var 13)), (.int .i64 (.var 14)), (.val 15)])] [] [] [] [(false, [.bool])] 
         (.done (.bool (.ite (.seq (.var 20) (.var 21)) (.var 22) (.not (.var 22)))) []))) 
         (.call 17 [(.agg [(.int .i64 (.var 10)), (.int .i64 (.var 11)), (.val 12)]), (.agg [(.int .i64 (.var 13)), (.int .i64 (.var 14)), (.val 15)])] [] [] [] [(false, [.bool])] 
         (.bstr (.val 18) 
         (.done (.bool (.ite (.seq (.var 20) (.var 22)) (.var 21) (.not (.var 21)))) [])))))
        (.done (.bool (.tt false)) [])) 
       (.both 
        (.ite (.ite (.cmp .eql (.var 17) (.lit 0)) (.cmp .eql (.var 19) (.lit 0)) (.tt false))
         (.bstr (.val 18) 
         (.both 
          (.bstr (.val 16) 
          (.call 17 [(.agg [(.int .i64 (.var 10)), (.int .i64 (.var 11)), (.val 12)]), (.agg [(.int .i64 (.var 13)), (.int .i64 (.var 14)), (.val 15)])] [] [] [] [(false, [.bool])] 
          (.done (.bool (.ite (.seq (.var 21) (.var 20)) (.var 22) (.not (.var 22)))) []))) 
          (.call 17 [(.agg [(.int .i64 (.var 10)), (.int .i64 (.var 11)), (.val 12)]), (.agg [(.int .i64 (.var 13)), (.int .i64 (.var 14)), (.val 15)])] [] [] [] [(false, [.bool])] 
          (.bstr (.val 16) 
          (.done (.bool (.ite (.seq (.var 22) (.var 20)) (.var 21) (.not (.var 21)))) [])))))
         (.done (.bool (.tt false)) [])) 
        (.ite (.ite (.cmp .eql (.var 17) (.lit 0)) (.cmp .eql (.var 19) (.lit 0)) (.tt false))
         (.call 17 [(.agg [(.int .i64 (.var 10)), (.int .i64 (.var 11)), (.val 12)]), (.agg [(.int .i64 (.var 13)), (.int .i64 (.var 14)), (.val 15)])] [] [] [] [(false, [.bool])] 
         (.both 
          (.bstr (.val 16) 
          (.bstr (.val 18) 
          (.done (.bool (.ite (.seq (.var 21) (.var 22)) (.var 20) (.not (.var 20)))) []))) 
          (.bstr (.val 18) 
          (.bstr (.val 16) 
          (.done (.bool (.ite (.seq (.var 22) (.var 21)) (.var 20) (.not (.var 20)))) [])))))
         (.done (.bool (.tt false)) [])))))) 
      (.call 14 [(.agg [(.int .i64 (.var 10)), (.int .i64 (.var 11)), (.val 12)])] [] [] [] [(false, [.sl]), (false, [.int .i64])] 
      (.call 14 [(.agg [(.int .i64 (.var 13)), (.int .i64 (.var 14)), (.val 15)])] [] [] [] [(false, [.sl]), (false, [.int .i64])] 
      (.both 
       (.ite (.ite (.cmp .eql (.var 17) (.lit 0)) (.cmp .eql (.var 19) (.lit 0)) (.tt false))
        (.bstr (.val 16) 
        (.both 
         (.bstr (.val 18) 
         (.call 17 [(.agg [(.int .i64 (.var 10)), (.int .i64 (.var 11)), (.val 12)]), (.agg [(.int .i64 (.var 13)), (.int .i64 (.var 14)), (.val 15)])] [] [] [] [(false, [.bool])] 
         (.done (.bool (.ite (.seq (.var 20) (.var 21)) (.var 22) (.not (.var 22)))) []))) 
         (.call 17 [(.agg [(.int .i64 (.var 10)), (.int .i64 (.var 11)), (.val 12)]), (.agg [(.int .i64 (.var 13)), (.int .i64 (.var 14)), (.val 15)])] [] [] [] [(false, [.bool])] 
         (.bstr (.val 18) 
         (.done (.bool (.ite (.seq (.var 20) (.var 22)) (.var 21) (.not (.var 21)))) [])))))
        (.done (.bool (.tt false)) [])) 
       (.both 
        (.ite (.ite (.cmp .eql (.var 17) (.lit 0)) (.cmp .eql (.var 19) (.lit 0)) (.tt false))
         (.bstr (.val 18) 
         (.both 
          (.bstr (.val 16) 
          (.call 17 [(.agg [(.int .i64 (.var 10)), (.int .i64 (.var 11)), (.val 12)]), (.agg [(.int .i64 (.var 13)), (.int .i64 (.var 14)), (.val 15)])] [] [] [] [(false, [.bool])] 
          (.done (.bool (.ite (.seq (.var 21) (.var 20)) (.var 22) (.not (.var 22)))) []))) 
          (.call 17 [(.agg [(.int .i64 (.var 10)), (.int .i64 (.var 11)), (.val 12)]), (.agg [(.int .i64 (.var 13)), (.int .i64 (.var 14)), (.val 15)])] [] [] [] [(false, [.bool])] 
          (.bstr (.val 16) 
          (.done (.bool (.ite (.seq (.var 22) (.var 20)) (.var 21) (.not (.var 21)))) [])))))
         (.done (.bool (.tt false)) [])) 
        (.ite (.ite (.cmp .eql (.var 17) (.lit 0)) (.cmp .eql (.var 19) (.lit 0)) (.tt false))
         (.call 17 [(.agg [(.int .i64 (.var 10)), (.int .i64 (.var 11)), (.val 12)]), (.agg [(.int .i64 (.var 13)), (.int .i64 (.var 14)), (.val 15)])] [] [] [] [(false, [.bool])] 
         (.both 
          (.bstr (.val 16) 
          (.bstr (.val 18) 
          (.done (.bool (.ite (.seq (.var 21) (.var 22)) (.var 20) (.not (.var 20)))) []))) 
          (.bstr (.val 18) 
          (.bstr (.val 16) 
          (.done (.bool (.ite (.seq (.var 22) (.var 21)) (.var 20) (.not (.var 20)))) [])))))
         (.done (.bool (.tt false)) [])))))))) 
     (.both 
      (.both 
       (.call 12 [(.agg [(.int .u8 (.var 0)), (.int .u8 (.var 1)), (.int .u8 (.var 2)), (.val 3)])] [] [] [] [(true, [.int .i64, .int .i64, .sl])] 
       (.call 14 [(.agg [(.int .i64 (.var 10)), (.int .i64 (.var 11)), (.val 12)])] [] [] [] [(false, [.sl]), (false, [.int .i64])] 
       (.call 14 [(.agg [(.int .i64 (.var 13)), (.int .i64 (.var 14)), (.val 15)])] [] [] [] [(false, [.sl]), (false, [.int .i64])] 
       (.both 
        (.ite (.ite (.cmp .eql (.var 17) (.lit 0)) (.cmp .eql (.var 19) (.lit 0)) (.tt false))
         (.bstr (.val 16) 
         (.both 
          (.bstr (.val 18) 
          (.call 17 [(.agg [(.int .i64 (.var 10)), (.int .i64 (.var 11)), (.val 12)]), (.agg [(.int .i64 (.var 13)), (.int .i64 (.var 14)), (.val 15)])] [] [] [] [(false, [.bool])] 
          (.done (.bool (.ite (.seq (.var 20) (.var 21)) (.var 22) (.not (.var 22)))) []))) 
          (.call 17 [(.agg [(.int .i64 (.var 10)), (.int .i64 (.var 11)), (.val 12)]), (.agg [(.int .i64 (.var 13)), (.int .i64 (.var 14)), (.val 15)])] [] [] [] [(false, [.bool])] 
          (.bstr (.val 18) 
          (.done (.bool (.ite (.seq (.var 20) (.var 22)) (.var 21) (.not (.var 21)))) [])))))
         (.done (.bool (.tt false)) [])) 
        (.both 
         (.ite (.ite (.cmp .eql (.var 17) (.lit 0)) (.cmp .eql (.var 19) (.lit 0)) (.tt false))
          (.bstr (.val 18) 
          (.both 
           (.bstr (.val 16) 
           (.call 17 [(.agg [(.int .i64 (.var 10)), (.int .i64 (.var 11)), (.val 12)]), (.agg [(.int .i64 (.var 13)), (.int .i64 (.var 14)), (.val 15)])] [] [] [] [(false, [.bool])] 
           (.done (.bool (.ite (.seq (.var 21) (.var 20)) (.var 22) (.not (.var 22)))) []))) 
           (.call 17 [(.agg [(.int .i64 (.var 10)), (.int .i64 (.var 11)), (.val 12)]), (.agg [(.int .i64 (.var 13)), (.int .i64 (.var 14)), (.val 15)])] [] [] [] [(false, [.bool])] 
           (.bstr (.val 16) 
           (.done (.bool (.ite (.seq (.var 22) (.var 20)) (.var 21) (.not (.var 21)))) [])))))
          (.done (.bool (.tt false)) [])) 
         (.ite (.ite (.cmp .eql (.var 17) (.lit 0)) (.cmp .eql (.var 19) (.lit 0)) (.tt false))
          (.call 17 [(.agg [(.int .i64 (.var 10)), (.int .i64 (.var 11)), (.val 12)]), (.agg [(.int .i64 (.var 13)), (.int .i64 (.var 14)), (.val 15)])] [] [] [] [(false, [.bool])] 
          (.both 
           (.bstr (.val 16) 
           (.bstr (.val 18) 
           (.done (.bool (.ite (.seq (.var 21) (.var 22)) (.var 20) (.not (.var 20)))) []))) 
           (.bstr (.val 18) 
           (.bstr (.val 16) 
           (.done (.bool (.ite (.seq (.var 22) (.var 21)) (.var 20) (.not (.var 20)))) [])))))
          (.done (.bool (.tt false)) []))))))) 
       (.call 12 [(.agg [(.int .u8 (.var 0)), (.int .u8 (.var 1)), (.int .u8 (.var 2)), (.val 3)])] [] [] [] [(true, [.int .i64, .int .i64, .sl])] 
       (.call 14 [(.agg [(.int .i64 (.var 10)), (.int .i64 (.var 11)), (.val 12)])] [] [] [] [(false, [.sl]), (false, [.int .i64])] 
       (.call 14 [(.agg [(.int .i64 (.var 13)), (.int .i64 (.var 14)), (.val 15)])] [] [] [] [(false, [.sl]), (false, [.int .i64])] 
       (.both 
        (.ite (.ite (.cmp .eql (.var 17) (.lit 0)) (.cmp .eql (.var 19) (.lit 0)) (.tt false))
         (.bstr (.val 16) 
         (.both 
          (.bstr (.val 18) 
          (.call 17 [(.agg [(.int .i64 (.var 10)), (.int .i64 (.var 11)), (.val 12)]), (.agg [(.int .i64 (.var 13)), (.int .i64 (.var 14)), (.val 15)])] [] [] [] [(false, [.bool])] 
          (.done (.bool (.ite (.seq (.var 20) (.var 21)) (.var 22) (.not (.var 22)))) []))) 
          (.call 17 [(.agg [(.int .i64 (.var 10)), (.int .i64 (.var 11)), (.val 12)]), (.agg [(.int .i64 (.var 13)), (.int .i64 (.var 14)), (.val 15)])] [] [] [] [(false, [.bool])] 
          (.bstr (.val 18) 
          (.done (.bool (.ite (.seq (.var 20) (.var 22)) (.var 21) (.not (.var 21)))) [])))))
         (.done (.bool (.tt false)) [])) 
        (.both 
         (.ite (.ite (.cmp .eql (.var 17) (.lit 0)) (.cmp .eql (.var 19) (.lit 0)) (.tt false))
          (.bstr (.val 18) 
          (.both 
           (.bstr (.val 16) 
           (.call 17 [(.agg [(.int .i64 (.var 10)), (.int .i64 (.var 11)), (.val 12)]), (.agg [(.int .i64 (.var 13)), (.int .i64 (.var 14)), (.val 15)])] [] [] [] [(false, [.bool])] 
           (.done (.bool (.ite (.seq (.var 21) (.var 20)) (.var 22) (.not (.var 22)))) []))) 
           (.call 17 [(.agg [(.int .i64 (.var 10)), (.int .i64 (.var 11)), (.val 12)]), (.agg [(.int .i64 (.var 13)), (.int .i64 (.var 14)), (.val 15)])] [] [] [] [(false, [.bool])] 
           (.bstr (.val 16) 
           (.done (.bool (.ite (.seq (.var 22) (.var 20)) (.var 21) (.not (.var 21)))) [])))))
          (.done (.bool (.tt false)) [])) 
         (.ite (.ite (.cmp .eql (.var 17) (.lit 0)) (.cmp .eql (.var 19) (.lit 0)) (.tt false))
          (.call 17 [(.agg [(.int .i64 (.var 10)), (.int .i64 (.var 11)), (.val 12)]), (.agg [(.int .i64 (.var 13)), (.int .i64 (.var 14)), (.val 15)])] [] [] [] [(false, [.bool])] 
          (.both 
           (.bstr (.val 16) 
           (.bstr (.val 18) 
           (.done (.bool (.ite (.seq (.var 21) (.var 22)) (.var 20) (.not (.var 20)))) []))) 
           (.bstr (.val 18) 
           (.bstr (.val 16) 
           (.done (.bool (.ite (.seq (.var 22) (.var 21)) (.var 20) (.not (.var 20)))) [])))))
          (.done (.bool (.tt false)) [])))))))) 
      (.both 
       (.call 12 [(.agg [(.int .u8 (.var 0)), (.int .u8 (.var 1)), (.int .u8 (.var 2)), (.val 3)])] [] [] [] [(true, [.int .i64, .int .i64, .sl])] 
       (.call 14 [(.agg [(.int .i64 (.var 10)), (.int .i64 (.var 11)), (.val 12)])] [] [] [] [(false, [.sl]), (false, [.int .i64])] 
       (.call 14 [(.agg [(.int .i64 (.var 13)), (.int .i64 (.var 14)), (.val 15)])] [] [] [] [(false, [.sl]), (false, [.int .i64])] 
       (.both 
        (.ite (.ite (.cmp .eql (.var 17) (.lit 0)) (.cmp .eql (.var 19) (.lit 0)) (.tt false))
         (.bstr (.val 16) 
         (.both 
          (.bstr (.val 18) 
          (.call 17 [(.agg [(.int .i64 (.var 10)), (.int .i64 (.var 11)), (.val 12)]), (.agg [(.int .i64 (.var 13)), (.int .i64 (.var 14)), (.val 15)])] [] [] [] [(false, [.bool])] 
          (.done (.bool (.ite (.seq (.var 20) (.var 21)) (.var 22) (.not (.var 22)))) []))) 
          (.call 17 [(.agg [(.int .i64 (.var 10)), (.int .i64 (.var 11)), (.val 12)]), (.agg [(.int .i64 (.var 13)), (.int .i64 (.var 14)), (.val 15)])] [] [] [] [(false, [.bool])] 
          (.bstr (.val 18) 
          (.done (.bool (.ite (.seq (.var 20) (.var 22)) (.var 21) (.not (.var 21)))) [])))))
         (.done (.bool (.tt false)) [])) 
        (.both 
         (.ite (.ite (.cmp .eql (.var 17) (.lit 0)) (.cmp .eql (.var 19) (.lit 0)) (.tt false))
          (.bstr (.val 18) 
          (.both 
           (.bstr (.val 16) 
           (.call 17 [(.agg [(.int .i64 (.var 10)), (.int .i64 (.var 11)), (.val 12)]), (.agg [(.int .i64 (.var 13)), (.int .i64 (.var 14)), (.val 15)])] [] [] [] [(false, [.bool])] 
           (.done (.bool (.ite (.seq (.var 21) (.var 20)) (.var 22) (.not (.var 22)))) []))) 
           (.call 17 [(.agg [(.int .i64 (.var 10)), (.int .i64 (.var 11)), (.val 12)]), (.agg [(.int .i64 (.var 13)), (.int .i64 (.var 14)), (.val 15)])] [] [] [] [(false, [.bool])] 
           (.bstr (.val 16) 
           (.done (.bool (.ite (.seq (.var 22) (.var 20)) (.var 21) (.not (.var 21)))) [])))))
          (.done (.bool (.tt false)) [])) 
         (.ite (.ite (.cmp .eql (.var 17) (.lit 0)) (.cmp .eql (.var 19) (.lit 0)) (.tt false))
          (.call 17 [(.agg [(.int .i64 (.var 10)), (.int .i64 (.var 11)), (.val 12)]), (.agg [(.int .i64 (.var 13)), (.int .i64 (.var 14)), (.val 15)])] [] [] [] [(false, [.bool])] 
          (.both 
           (.bstr (.val 16) 
           (.bstr (.val 18) 
           (.done (.bool (.ite (.seq (.var 21) (.var 22)) (.var 20) (.not (.var 20)))) []))) 
           (.bstr (.val 18) 
           (.bstr (.val 16) 
           (.done (.bool (.ite (.seq (.var 22) (.var 21)) (.var 20) (.not (.var 20)))) [])))))
          (.done (.bool (.tt false)) []))))))) 
       (.call 12 [(.agg [(.int .u8 (.var 0)), (.int .u8 (.var 1)), (.int .u8 (.var 2)), (.val 3)])] [] [] [] [(true, [.int .i64, .int .i64, .sl])] 
       (.call 14 [(.agg [(.int .i64 (.var 10)), (.int .i64 (.var 11)), (.val 12)])] [] [] [] [(false, [.sl]), (false, [.int .i64])] 
       (.call 14 [(.agg [(.int .i64 (.var 13)), (.int .i64 (.var 14)), (.val 15)])] [] [] [] [(false, [.sl]), (false, [.int .i64])] 
       (.both 
        (.ite (.ite (.cmp .eql (.var 17) (.lit 0)) (.cmp .eql (.var 19) (.lit 0)) (.tt false))
         (.bstr (.val 16) 
         (.both 
          (.bstr (.val 18) 
          (.call 17 [(.agg [(.int .i64 (.var 10)), (.int .i64 (.var 11)), (.val 12)]), (.agg [(.int .i64 (.var 13)), (.int .i64 (.var 14)), (.val 15)])] [] [] [] [(false, [.bool])] 
          (.done (.bool (.ite (.seq (.var 20) (.var 21)) (.var 22) (.not (.var 22)))) []))) 
          (.call 17 [(.agg [(.int .i64 (.var 10)), (.int .i64 (.var 11)), (.val 12)]), (.agg [(.int .i64 (.var 13)), (.int .i64 (.var 14)), (.val 15)])] [] [] [] [(false, [.bool])] 
          (.bstr (.val 18) 
          (.done (.bool (.ite (.seq (.var 20) (.var 22)) (.var 21) (.not (.var 21)))) [])))))
         (.done (.bool (.tt false)) [])) 
        (.both 
         (.ite (.ite (.cmp .eql (.var 17) (.lit 0)) (.cmp .eql (.var 19) (.lit 0)) (.tt false))
          (.bstr (.val 18) 
          (.both 
           (.bstr (.val 16) 
           (.call 17 [(.agg [(.int .i64 (.var 10)), (.int .i64 (.var 11)), (.val 12)]), (.agg [(.int .i64 (.var 13)), (.int .i64 (.var 14)), (.val 15)])] [] [] [] [(false, [.bool])] 
           (.done (.bool (.ite (.seq (.var 21) (.var 20)) (.var 22) (.not (.var 22)))) []))) 
           (.call 17 [(.agg [(.int .i64 (.var 10)), (.int .i64 (.var 11)), (.val 12)]), (.agg [(.int .i64 (.var 13)), (.int .i64 (.var 14)), (.val 15)])] [] [] [] [(false, [.bool])] 
           (.bstr (.val 16) 
           (.done (.bool (.ite (.seq (.var 22) (.var 20)) (.var 21) (.not (.var 21)))) [])))))
          (.done (.bool (.tt false)) [])) 
         (.ite (.ite (.cmp .eql (.var 17) (.lit 0)) (.cmp .eql (.var 19) (.lit 0)) (.tt false))
          (.call 17 [(.agg [(.int .i64 (.var 10)), (.int .i64 (.var 11)), (.val 12)]), (.agg [(.int .i64 (.var 13)), (.int .i64 (.var 14)), (.val 15)])] [] [] [] [(false, [.bool])] 
          (.both 
           (.bstr (.val 16) 
           (.bstr (.val 18) 
           (.done (.bool (.ite (.seq (.var 21) (.var 22)) (.var 20) (.not (.var 20)))) []))) 
           (.bstr (.val 18) 
           (.bstr (.val 16) 
           (.done (.bool (.ite (.seq (.var 22) (.var 21)) (.var 20) (.not (.var 20)))) [])))))
          (.done (.bool (.tt false)) []))))))))))) 
    (.both 
     (.both 
      (.call 12 [(.agg [(.int .u8 (.var 0)), (.int .u8 (.var 1)), (.int .u8 (.var 2)), (.val 3)])] [] [] [] [(true, [.int .i64, .int .i64, .sl])] 
      (.both 
       (.call 12 [(.agg [(.int .u8 (.var 0)), (.int .u8 (.var 1)), (.int .u8 (.var 2)), (.val 3)])] [] [] [] [(true, [.int .i64, .int .i64, .sl])] 
       (.call 14 [(.agg [(.int .i64 (.var 10)), (.int .i64 (.var 11)), (.val 12)])] [] [] [] [(false, [.sl]), (false, [.int .i64])] 
       (.call 14 [(.agg [(.int .i64 (.var 13)), (.int .i64 (.var 14)), (.val 15)])] [] [] [] [(false, [.sl]), (false, [.int .i64])] 
       (.both 
        (.ite (.ite (.cmp .eql (.var 17) (.lit 0)) (.cmp .eql (.var 19) (.lit 0)) (.tt false))
         (.bstr (.val 16) 
         (.both 
          (.bstr (.val 18) 
          (.call 17 [(.agg [(.int .i64 (.var 10)), (.int .i64 (.var 11)), (.val 12)]), (.agg [(.int .i64 (.var 13)), (.int .i64 (.var 14)), (.val 15)])] [] [] [] [(false, [.bool])] 
          (.done (.bool (.ite (.seq (.var 20) (.var 21)) (.var 22) (.not (.var 22)))) []))) 
          (.call 17 [(.agg [(.int .i64 (.var 10)), (.int .i64 (.var 11)), (.val 12)]), (.agg [(.int .i64 (.var 13)), (.int .i64 (.var 14)), (.val 15)])] [] [] [] [(false, [.bool])] 
          (.bstr (.val 18) 
          (.done (.bool (.ite (.seq (.var 20) (.var 22)) (.var 21) (.not (.var 21)))) [])))))
         (.done (.bool (.tt false)) [])) 
        (.both 
         (.ite (.ite (.cmp .eql (.var 17) (.lit 0)) (.cmp .eql (.var 19) (.lit 0)) (.tt false))
          (.bstr (.val 18) 
          (.both 
           (.bstr (.val 16) 
           (.call 17 [(.agg [(.int .i64 (.var 10)), (.int .i64 (.var 11)), (.val 12)]), (.agg [(.int .i64 (.var 13)), (.int .i64 (.var 14)), (.val 15)])] [] [] [] [(false, [.bool])] 
           (.done (.bool (.ite (.seq (.var 21) (.var 20)) (.var 22) (.not (.var 22)))) []))) 
           (.call 17 [(.agg [(.int .i64 (.var 10)), (.int .i64 (.var 11)), (.val 12)]), (.agg [(.int .i64 (.var 13)), (.int .i64 (.var 14)), (.val 15)])] [] [] [] [(false, [.bool])] 
           (.bstr (.val 16) 
           (.done (.bool (.ite (.seq (.var 22) (.var 20)) (.var 21) (.not (.var 21)))) [])))))
          (.done (.bool (.tt false)) [])) 
         (.ite (.ite (.cmp .eql (.var 17) (.lit 0)) (.cmp .eql (.var 19) (.lit 0)) (.tt false))
          (.call 17 [(.agg [(.int .i64 (.var 10)), (.int .i64 (.var 11)), (.val 12)]), (.agg [(.int .i64 (.var 13)), (.int .i64 (.var 14)), (.val 15)])] [] [] [] [(false, [.bool])] 
          (.both 
           (.bstr (.val 16) 
           (.bstr (.val 18) 
           (.done (.bool (.ite (.seq (.var 21) (.var 22)) (.var 20) (.not (.var 20)))) []))) 
           (.bstr (.val 18) 
           (.bstr (.val 16) 
           (.done (.bool (.ite (.seq (.var 22) (.var 21)) (.var 20) (.not (.var 20)))) [])))))
          (.done (.bool (.tt false)) []))))))) 
       (.call 12 [(.agg [(.int .u8 (.var 0)), (.int .u8 (.var 1)), (.int .u8 (.var 2)), (.val 3)])] [] [] [] [(true, [.int .i64, .int .i64, .sl])] 
       (.call 14 [(.agg [(.int .i64 (.var 10)), (.int .i64 (.var 11)), (.val 12)])] [] [] [] [(false, [.sl]), (false, [.int .i64])] 
       (.call 14 [(.agg [(.int .i64 (.var 13)), (.int .i64 (.var 14)), (.val 15)])] [] [] [] [(false, [.sl]), (false, [.int .i64])] 
       (.both 
        (.ite (.ite (.cmp .eql (.var 17) (.lit 0)) (.cmp .eql (.var 19) (.lit 0)) (.tt false))
         (.bstr (.val 16) 
         (.both 
          (.bstr (.val 18) 
          (.call 17 [(.agg [(.int .i64 (.var 10)), (.int .i64 (.var 11)), (.val 12)]), (.agg [(.int .i64 (.var 13)), (.int .i64 (.var 14)), (.val 15)])] [] [] [] [(false, [.bool])] 
          (.done (.bool (.ite (.seq (.var 20) (.var 21)) (.var 22) (.not (.var 22)))) []))) 
          (.call 17 [(.agg [(.int .i64 (.var 10)), (.int .i64 (.var 11)), (.val 12)]), (.agg [(.int .i64 (.var 13)), (.int .i64 (.var 14)), (.val 15)])] [] [] [] [(false, [.bool])] 
          (.bstr (.val 18) 
          (.done (.bool (.ite (.seq (.var 20) (.var 22)) (.var 21) (.not (.var 21)))) [])))))
         (.done (.bool (.tt false)) [])) 
        (.both 
         (.ite (.ite (.cmp .eql (.var 17) (.lit 0)) (.cmp .eql (.var 19) (.lit 0)) (.tt false))
          (.bstr (.val 18) 
          (.both 
           (.bstr (.val 16) 
           (.call 17 [(.agg [(.int .i64 (.var 10)), (.int .i64 (.var 11)), (.val 12)]), (.agg [(.int .i64 (.var 13)), (.int .i64 (.var 14)), (.val 15)])] [] [] [] [(false, [.bool])] 
           (.done (.bool (.ite (.seq (.var 21) (.var 20)) (.var 22) (.not (.var 22)))) []))) 
           (.call 17 [(.agg [(.int .i64 (.var 10)), (.int .i64 (.var 11)), (.val 12)]), (.agg [(.int .i64 (.var 13)), (.int .i64 (.var 14)), (.val 15)])] [] [] [] [(false, [.bool])] 
           (.bstr (.val 16) 
           (.done (.bool (.ite (.seq (.var 22) (.var 20)) (.var 21) (.not (.var 21)))) [])))))
          (.done (.bool (.tt false)) [])) 
         (.ite (.ite (.cmp .eql (.var 17) (.lit 0)) (.cmp .eql (.var 19) (.lit 0)) (.tt false))
          (.call 17 [(.agg [(.int .i64 (.var 10)), (.int .i64 (.var 11)), (.val 12)]), (.agg [(.int .i64 (.var 13)), (.int .i64 (.var 14)), (.val 15)])] [] [] [] [(false, [.bool])] 
          (.both 
           (.bstr (.val 16) 
           (.bstr (.val 18) 
           (.done (.bool (.ite (.seq (.var 21) (.var 22)) (.var 20) (.not (.var 20)))) []))) 
           (.bstr (.val 18) 
           (.bstr (.val 16) 
           (.done (.bool (.ite (.seq (.var 22) (.var 21)) (.var 20) (.not (.var 20)))) [])))))
          (.done (.bool (.tt false)) []))))))))) 
      (.call 12 [(.agg [(.int .u8 (.var 0)), (.int .u8 (.var 1)), (.int .u8 (.var 2)), (.val 3)])] [] [] [] [(true, [.int .i64, .int .i64, .sl])] 
      (.call 12 [(.agg [(.int .u8 (.var 0)), (.int .u8 (.var 1)), (.int .u8 (.var 2)), (.val 3)])] [] [] [] [(true, [.int .i64, .int .i64, .sl])] 
      (.call 14 [(.agg [(.int .i64 (.var 10)), (.int .i64 (.var 11)), (.val 12)])] [] [] [] [(false, [.sl]), (false, [.int .i64])] 
      (.call 14 [(.agg [(.int .i64 (.var 13)), (.int .i64 (.var 14)), (.val 15)])] [] [] [] [(false, [.sl]), (false, [.int .i64])] 
      (.both 
       (.ite (.ite (.cmp .eql (.var 17) (.lit 0)) (.cmp .eql (.var 19) (.lit 0)) (.tt false))
        (.bstr (.val 16) 
        (.both 
         (.bstr (.val 18) 
         (.call 17 [(.agg [(.int .i64 (.var 10)), (.int .i64 (.var 11)), (.val 12)]), (.agg [(.int .i64 (.var 13)), (.int .i64 (.var 14)), (.val 15)])] [] [] [] [(false, [.bool])] 
         (.done (.bool (.ite (.seq (.var 20) (.var 21)) (.var 22) (.not (.var 22)))) []))) 
         (.call 17 [(.agg [(.int .i64 (.var 10)), (.int .i64 (.var 11)), (.val 12)]), (.agg [(.int .i64 (.var 13)), (.int .i64 (.var 14)), (.val 15)])] [] [] [] [(false, [.bool])] 
         (.bstr (.val 18) 
         (.done (.bool (.ite (.seq (.var 20) (.var 22)) (.var 21) (.not (.var 21)))) [])))))
        (.done (.bool (.tt false)) [])) 
       (.both 
        (.ite (.ite (.cmp .eql (.var 17) (.lit 0)) (.cmp .eql (.var 19) (.lit 0)) (.tt false))
         (.bstr (.val 18) 
         (.both 
          (.bstr (.val 16) 
          (.call 17 [(.agg [(.int .i64 (.var 10)), (.int .i64 (.var 11)), (.val 12)]), (.agg [(.int .i64 (.var 13)), (.int .i64 (.var 14)), (.val 15)])] [] [] [] [(false, [.bool])] 
          (.done (.bool (.ite (.seq (.var 21) (.var 20)) (.var 22) (.not (.var 22)))) []))) 
          (.call 17 [(.agg [(.int .i64 (.var 10)), (.int .i64 (.var 11)), (.val 12)]), (.agg [(.int .i64 (.var 13)), (.int .i64 (.var 14)), (.val 15)])] [] [] [] [(false, [.bool])] 
          (.bstr (.val 16) 
          (.done (.bool (.ite (.seq (.var 22) (.var 20)) (.var 21) (.not (.var 21)))) [])))))
         (.done (.bool (.tt false)) [])) 
        (.ite (.ite (.cmp .eql (.var 17) (.lit 0)) (.cmp .eql (.var 19) (.lit 0)) (.tt false))
         (.call 17 [(.agg [(.int .i64 (.var 10)), (.int .i64 (.var 11)), (.val 12)]), (.agg [(.int .i64 (.var 13)), (.int .i64 (.var 14)), (.val 15)])] [] [] [] [(false, [.bool])] 
         (.both 
          (.bstr (.val 16) 
          (.bstr (.val 18) 
          (.done (.bool (.ite (.seq (.var 21) (.var 22)) (.var 20) (.not (.var 20)))) []))) 
          (.bstr (.val 18) 
          (.bstr (.val 16) 
          (.done (.bool (.ite (.seq (.var 22) (.var 21)) (.var 20) (.not (.var 20)))) [])))))
         (.done (.bool (.tt false)) []))))))))) 
     (.both 
      (.call 12 [(.agg [(.int .u8 (.var 0)), (.int .u8 (.var 1)), (.int .u8 (.var 2)), (.val 3)])] [] [] [] [(true, [.int .i64, .int .i64, .sl])] 
      (.both 
       (.call 12 [(.agg [(.int .u8 (.var 0)), (.int .u8 (.var 1)), (.int .u8 (.var 2)), (.val 3)])] [] [] [] [(true, [.int .i64, .int .i64, .sl])] 
       (.call 14 [(.agg [(.int .i64 (.var 10)), (.int .i64 (.var 11)), (.val 12)])] [] [] [] [(false, [.sl]), (false, [.int .i64])] 
       (.call 14 [(.agg [(.int .i64 (.var 13)), (.int .i64 (.var 14)), (.val 15)])] [] [] [] [(false, [.sl]), (false, [.int .i64])] 
       (.both 
        (.ite (.ite (.cmp .eql (.var 17) (.lit 0)) (.cmp .eql (.var 19) (.lit 0)) (.tt false))
         (.bstr (.val 16) 
         (.both 
          (.bstr (.val 18) 
          (.call 17 [(.agg [(.int .i64 (.var 10)), (.int .i64 (.var 11)), (.val 12)]), (.agg [(.int .i64 (.var 13)), (.int .i64 (.var 14)), (.val 15)])] [] [] [] [(false, [.bool])] 
          (.done (.bool (.ite (.seq (.var 20) (.var 21)) (.var 22) (.not (.var 22)))) []))) 
          (.call 17 [(.agg [(.int .i64 (.var 10)), (.int .i64 (.var 11)), (.val 12)]), (.agg [(.int .i64 (.var 13)), (.int .i64 (.var 14)), (.val 15)])] [] [] [] [(false, [.bool])] 
          (.bstr (.val 18) 
          (.done (.bool (.ite (.seq (.var 20) (.var 22)) (.var 21) (.not (.var 21)))) [])))))
         (.done (.bool (.tt false)) [])) 
        (.both 
         (.ite (.ite (.cmp .eql (.var 17) (.lit 0)) (.cmp .eql (.var 19) (.lit 0)) (.tt false))
          (.bstr (.val 18) 
          (.both 
           (.bstr (.val 16) 
           (.call 17 [(.agg [(.int .i64 (.var 10)), (.int .i64 (.var 11)), (.val 12)]), (.agg [(.int .i64 (.var 13)), (.int .i64 (.var 14)), (.val 15)])] [] [] [] [(false, [.bool])] 
           (.done (.bool (.ite (.seq (.var 21) (.var 20)) (.var 22) (.not (.var 22)))) []))) 
           (.call 17 [(.agg [(.int .i64 (.var 10)), (.int .i64 (.var 11)), (.val 12)]), (.agg [(.int .i64 (.var 13)), (.int .i64 (.var 14)), (.val 15)])] [] [] [] [(false, [.bool])] 
           (.bstr (.val 16) 
           (.done (.bool (.ite (.seq (.var 22) (.var 20)) (.var 21) (.not (.var 21)))) [])))))
          (.done (.bool (.tt false)) [])) 
         (.ite (.ite (.cmp .eql (.var 17) (.lit 0)) (.cmp .eql (.var 19) (.lit 0)) (.tt false))
          (.call 17 [(.agg [(.int .i64 (.var 10)), (.int .i64 (.var 11)), (.val 12)]), (.agg [(.int .i64 (.var 13)), (.int .i64 (.var 14)), (.val 15)])] [] [] [] [(false, [.bool])] 
          (.both 
           (.bstr (.val 16) 
           (.bstr (.val 18) 
           (.done (.bool (.ite (.seq (.var 21) (.var 22)) (.var 20) (.not (.var 20)))) []))) 
           (.bstr (.val 18) 
           (.bstr (.val 16) 
           (.done (.bool (.ite (.seq (.var 22) (.var 21)) (.var 20) (.not (.var 20)))) [])))))
          (.done (.bool (.tt false)) []))))))) 
       (.call 12 [(.agg [(.int .u8 (.var 0)), (.int .u8 (.var 1)), (.int .u8 (.var 2)), (.val 3)])] [] [] [] [(true, [.int .i64, .int .i64, .sl])] 
       (.call 14 [(.agg [(.int .i64 (.var 10)), (.int .i64 (.var 11)), (.val 12)])] [] [] [] [(false, [.sl]), (false, [.int .i64])] 
       (.call 14 [(.agg [(.int .i64 (.var 13)), (.int .i64 (.var 14)), (.val 15)])] [] [] [] [(false, [.sl]), (false, [.int .i64])] 
       (.both 
        (.ite (.ite (.cmp .eql (.var 17) (.lit 0)) (.cmp .eql (.var 19) (.lit 0)) (.tt false))
         (.bstr (.val 16) 
         (.both 
          (.bstr (.val 18) 
          (.call 17 [(.agg [(.int .i64 (.var 10)), (.int .i64 (.var 11)), (.val 12)]), (.agg [(.int .i64 (.var 13)), (.int .i64 (.var 14)), (.val 15)])] [] [] [] [(false, [.bool])] 
          (.done (.bool (.ite (.seq (.var 20) (.var 21)) (.var 22) (.not (.var 22)))) []))) 
          (.call 17 [(.agg [(.int .i64 (.var 10)), (.int .i64 (.var 11)), (.val 12)]), (.agg [(.int .i64 (.var 13)), (.int .i64 (.var 14)), (.val 15)])] [] [] [] [(false, [.bool])] 
          (.bstr (.val 18) 
          (.done (.bool (.ite (.seq (.var 20) (.var 22)) (.var 21) (.not (.var 21)))) [])))))
         (.done (.bool (.tt false)) [])) 
        (.both 
         (.ite (.ite (.cmp .eql (.var 17) (.lit 0)) (.cmp .eql (.var 19) (.lit 0)) (.tt false))
          (.bstr (.val 18) 
          (.both 
           (.bstr (.val 16) 
           (.call 17 [(.agg [(.int .i64 (.var 10)), (.int .i64 (.var 11)), (.val 12)]), (.agg [(.int .i64 (.var 13)), (.int .i64 (.var 14)), (.val 15)])] [] [] [] [(false, [.bool])] 
           (.done (.bool (.ite (.seq (.var 21) (.var 20)) (.var 22) (.not (.var 22)))) []))) 
           (.call 17 [(.agg [(.int .i64 (.var 10)), (.int .i64 (.var 11)), (.val 12)]), (.agg [(.int .i64 (.var 13)), (.int .i64 (.var 14)), (.val 15)])] [] [] [] [(false, [.bool])] 
           (.bstr (.val 16) 
           (.done (.bool (.ite (.seq (.var 22) (.var 20)) (.var 21) (.not (.var 21)))) [])))))
          (.done (.bool (.tt false)) [])) 
         (.ite (.ite (.cmp .eql (.var 17) (.lit 0)) (.cmp .eql (.var 19) (.lit 0)) (.tt false))
          (.call 17 [(.agg [(.int .i64 (.var 10)), (.int .i64 (.var 11)), (.val 12)]), (.agg [(.int .i64 (.var 13)), (.int .i64 (.var 14)), (.val 15)])] [] [] [] [(false, [.bool])] 
          (.both 
           (.bstr (.val 16) 
           (.bstr (.val 18) 
           (.done (.bool (.ite (.seq (.var 21) (.var 22)) (.var 20) (.not (.var 20)))) []))) 
           (.bstr (.val 18) 
           (.bstr (.val 16) 
           (.done (.bool (.ite (.seq (.var 22) (.var 21)) (.var 20) (.not (.var 20)))) [])))))
          (.done (.bool (.tt false)) []))))))))) 
      (.call 12 [(.agg [(.int .u8 (.var 0)), (.int .u8 (.var 1)), (.int .u8 (.var 2)), (.val 3)])] [] [] [] [(true, [.int .i64, .int .i64, .sl])] 
      (.call 12 [(.agg [(.int .u8 (.var 0)), (.int .u8 (.var 1)), (.int .u8 (.var 2)), (.val 3)])] [] [] [] [(true, [.int .i64, .int .i64, .sl])] 
      (.call 14 [(.agg [(.int .i64 (.var 10)), (.int .i64 (.var 11)), (.val 12)])] [] [] [] [(false, [.sl]), (false, [.int .i64])] 
      (.call 14 [(.agg [(.int .i64 (.var 13)), (.int .i64 (.var 14)), (.val 15)])] [] [] [] [(false, [.sl]), (false, [.int .i64])] 
      (.both 
       (.ite (.ite (.cmp .eql (.var 17) (.lit 0)) (.cmp .eql (.var 19) (.lit 0)) (.tt false))
        (.bstr (.val 16) 
        (.both 
         (.bstr (.val 18) 
         (.call 17 [(.agg [(.int .i64 (.var 10)), (.int .i64 (.var 11)), (.val 12)]), (.agg [(.int .i64 (.var 13)), (.int .i64 (.var 14)), (.val 15)])] [] [] [] [(false, [.bool])] 
         (.done (.bool (.ite (.seq (.var 20) (.var 21)) (.var 22) (.not (.var 22)))) []))) 
         (.call 17 [(.agg [(.int .i64 (.var 10)), (.int .i64 (.var 11)), (.val 12)]), (.agg [(.int .i64 (.var 13)), (.int .i64 (.var 14)), (.val 15)])] [] [] [] [(false, [.bool])] 
         (.bstr (.val 18) 
         (.done (.bool (.ite (.seq (.var 20) (.var 22)) (.var 21) (.not (.var 21)))) [])))))
        (.done (.bool (.tt false)) [])) 
       (.both 
        (.ite (.ite (.cmp .eql (.var 17) (.lit 0)) (.cmp .eql (.var 19) (.lit 0)) (.tt false))
         (.bstr (.val 18) 
         (.both 
          (.bstr (.val 16) 
          (.call 17 [(.agg [(.int .i64 (.var 10)), (.int .i64 (.var 11)), (.val 12)]), (.agg [(.int .i64 (.var 13)), (.int .i64 (.var 14)), (.val 15)])] [] [] [] [(false, [.bool])] 
          (.done (.bool (.ite (.seq (.var 21) (.var 20)) (.var 22) (.not (.var 22)))) []))) 
          (.call 17 [(.agg [(.int .i64 (.var 10)), (.int .i64 (.var 11)), (.val 12)]), (.agg [(.int .i64 (.var 13)), (.int .i64 (.var 14)), (.val 15)])] [] [] [] [(false, [.bool])] 
          (.bstr (.val 16) 
          (.done (.bool (.ite (.seq (.var 22) (.var 20)) (.var 21) (.not (.var 21)))) [])))))
         (.done (.bool (.tt false)) [])) 
        (.ite (.ite (.cmp .eql (.var 17) (.lit 0)) (.cmp .eql (.var 19) (.lit 0)) (.tt false))
         (.call 17 [(.agg [(.int .i64 (.var 10)), (.int .i64 (.var 11)), (.val 12)]), (.agg [(.int .i64 (.var 13)), (.int .i64 (.var 14)), (.val 15)])] [] [] [] [(false, [.bool])] 
         (.both 
          (.bstr (.val 16) 
          (.bstr (.val 18) 
          (.done (.bool (.ite (.seq (.var 21) (.var 22)) (.var 20) (.not (.var 20)))) []))) 
          (.bstr (.val 18) 
          (.bstr (.val 16) 
          (.done (.bool (.ite (.seq (.var 22) (.var 21)) (.var 20) (.not (.var 20)))) [])))))
         (.done (.bool (.tt false)) [])))))))))))
   (.both 
    (.call 12 [(.agg [(.int .u8 (.var 0)), (.int .u8 (.var 1)), (.int .u8 (.var 2)), (.val 3)])] [] [] [] [(true, [.int .i64, .int .i64, .sl])] 
    (.both 
     (.call 12 [(.agg [(.int .u8 (.var 4)), (.int .u8 (.var 5)), (.int .u8 (.var 6)), (.val 7)])] [] [] [] [(true, [.int .i64, .int .i64, .sl])] 
     (.both 
      (.call 14 [(.agg [(.int .i64 (.var 10)), (.int .i64 (.var 11)), (.val 12)])] [] [] [] [(false, [.sl]), (false, [.int .i64])] 
      (.call 14 [(.agg [(.int .i64 (.var 13)), (.int .i64 (.var 14)), (.val 15)])] [] [] [] [(false, [.sl]), (false, [.int .i64])] 
      (.both 
       (.ite (.ite (.cmp .eql (.var 17) (.lit 0)) (.cmp .eql (.var 19) (.lit 0)) (.tt false))
        (.bstr (.val 16) 
        (.both 
         (.bstr (.val 18) 
         (.call 17 [(.agg [(.int .i64 (.var 10)), (.int .i64 (.var 11)), (.val 12)]), (.agg [(.int .i64 (.var 13)), (.int .i64 (.var 14)), (.val 15)])] [] [] [] [(false, [.bool])] 
         (.done (.bool (.ite (.seq (.var 20) (.var 21)) (.var 22) (.not (.var 22)))) []))) 
         (.call 17 [(.agg [(.int .i64 (.var 10)), (.int .i64 (.var 11)), (.val 12)]), (.agg [(.int .i64 (.var 13)), (.int .i64 (.var 14)), (.val 15)])] [] [] [] [(false, [.bool])] 
         (.bstr (.val 18) 
         (.done (.bool (.ite (.seq (.var 20) (.var 22)) (.var 21) (.not (.var 21)))) [])))))
        (.done (.bool (.tt false)) [])) 
       (.both 
        (.ite (.ite (.cmp .eql (.var 17) (.lit 0)) (.cmp .eql (.var 19) (.lit 0)) (.tt false))
         (.bstr (.val 18) 
         (.both 
          (.bstr (.val 16) 
          (.call 17 [(.agg [(.int .i64 (.var 10)), (.int .i64 (.var 11)), (.val 12)]), (.agg [(.int .i64 (.var 13)), (.int .i64 (.var 14)), (.val 15)])] [] [] [] [(false, [.bool])] 
          (.done (.bool (.ite (.seq (.var 21) (.var 20)) (.var 22) (.not (.var 22)))) []))) 
          (.call 17 [(.agg [(.int .i64 (.var 10)), (.int .i64 (.var 11)), (.val 12)]), (.agg [(.int .i64 (.var 13)), (.int .i64 (.var 14)), (.val 15)])] [] [] [] [(false, [.bool])] 
          (.bstr (.val 16) 
          (.done (.bool (.ite (.seq (.var 22) (.var 20)) (.var 21) (.not (.var 21)))) [])))))
         (.done (.bool (.tt false)) [])) 
        (.ite (.ite (.cmp .eql (.var 17) (.lit 0)) (.cmp .eql (.var 19) (.lit 0)) (.tt false))
         (.call 17 [(.agg [(.int .i64 (.var 10)), (.int .i64 (.var 11)), (.val 12)]), (.agg [(.int .i64 (.var 13)), (.int .i64 (.var 14)), (.val 15)])] [] [] [] [(false, [.bool])] 
         (.both 
          (.bstr (.val 16) 
          (.bstr (.val 18) 
          (.done (.bool (.ite (.seq (.var 21) (.var 22)) (.var 20) (.not (.var 20)))) []))) 
          (.bstr (.val 18) 
          (.bstr (.val 16) 
          (.done (.bool (.ite (.seq (.var 22) (.var 21)) (.var 20) (.not (.var 20)))) [])))))
         (.done (.bool (.tt false)) [])))))) 
      (.call 14 [(.agg [(.int .i64 (.var 10)), (.int .i64 (.var 11)), (.val 12)])] [] [] [] [(false, [.sl]), (false, [.int .i64])] 
      (.call 14 [(.agg [(.int .i64 (.var 13)), (.int .i64 (.var 14)), (.val 15)])] [] [] [] [(false, [.sl]), (false, [.int .i64])] 
      (.both 
       (.ite (.ite (.cmp .eql (.var 17) (.lit 0)) (.cmp .eql (.var 19) (.lit 0)) (.tt false))
        (.bstr (.val 16) 
        (.both 
         (.bstr (.val 18) 
         (.call 17 [(.agg [(.int .i64 (.var 10)), (.int .i64 (.var 11)), (.val 12)]), (.agg [(.int .i64 (.var 13)), (.int .i64 (.var 14)), (.val 15)])] [] [] [] [(false, [.bool])] 
         (.done (.bool (.ite (.seq (.var 20) (.var 21)) (.var 22) (.not (.var 22)))) []))) 
         (.call 17 [(.agg [(.int .i64 (.var 10)), (.int .i64 (.var 11)), (.val 12)]), (.agg [(.int .i64 (.var 13)), (.int .i64 (.var 14)), (.val 15)])] [] [] [] [(false, [.bool])] 
         (.bstr (.val 18) 
         (.done (.bool (.ite (.seq (.var 20) (.var 22)) (.var 21) (.not (.var 21)))) [])))))
        (.done (.bool (.tt false)) [])) 
       (.both 
        (.ite (.ite (.cmp .eql (.var 17) (.lit 0)) (.cmp .eql (.var 19) (.lit 0)) (.tt false))
         (.bstr (.val 18) 
         (.both 
          (.bstr (.val 16) 
          (.call 17 [(.agg [(.int .i64 (.var 10)), (.int .i64 (.var 11)), (.val 12)]), (.agg [(.int .i64 (.var 13)), (.int .i64 (.var 14)), (.val 15)])] [] [] [] [(false, [.bool])] 
          (.done (.bool (.ite (.seq (.var 21) (.var 20)) (.var 22) (.not (.var 22)))) []))) 
          (.call 17 [(.agg [(.int .i64 (.var 10)), (.int .i64 (.var 11)), (.val 12)]), (.agg [(.int .i64 (.var 13)), (.int .i64 (.var 14)), (.val 15)])] [] [] [] [(false, [.bool])] 
          (.bstr (.val 16) 
          (.done (.bool (.ite (.seq (.var 22) (.var 20)) (.var 21) (.not (.var 21)))) [])))))
         (.done (.bool (.tt false)) [])) 
        (.ite (.ite (.cmp .eql (.var 17) (.lit 0)) (.cmp .eql (.var 19) (.lit 0)) (.tt false))
         (.call 17 [(.agg [(.int .i64 (.var 10)), (.int .i64 (.var 11)), (.val 12)]), (.agg [(.int .i64 (.var 13)), (.int .i64 (.var 14)), (.val 15)])] [] [] [] [(false, [.bool])] 
         (.both 
          (.bstr (.val 16) 
          (.bstr (.val 18) 
          (.done (.bool (.ite (.seq (.var 21) (.var 22)) (.var 20) (.not (.var 20)))) []))) 
          (.bstr (.val 18) 
          (.bstr (.val 16) 
          (.done (.bool (.ite (.seq (.var 22) (.var 21)) (.var 20) (.not (.var 20)))) [])))))
         (.done (.bool (.tt false)) [])))))))) 
     (.both 
      (.both 
       (.call 12 [(.agg [(.int .u8 (.var 4)), (.int .u8 (.var 5)), (.int .u8 (.var 6)), (.val 7)])] [] [] [] [(true, [.int .i64, .int .i64, .sl])] 
       (.call 14 [(.agg [(.int .i64 (.var 10)), (.int .i64 (.var 11)), (.val 12)])] [] [] [] [(false, [.sl]), (false, [.int .i64])] 
       (.call 14 [(.agg [(.int .i64 (.var 13)), (.int .i64 (.var 14)), (.val 15)])] [] [] [] [(false, [.sl]), (false, [.int .i64])] 
       (.both 
        (.ite (.ite (.cmp .eql (.var 17) (.lit 0)) (.cmp .eql (.var 19) (.lit 0)) (.tt false))
         (.bstr (.val 16) 
         (.both 
          (.bstr (.val 18) 
          (.call 17 [(.agg [(.int .i64 (.var 10)), (.int .i64 (.var 11)), (.val 12)]), (.agg [(.int .i64 (.var 13)), (.int .i64 (.var 14)), (.val 15)])] [] [] [] [(false, [.bool])] 
          (.done (.bool (.ite (.seq (.var 20) (.var 21)) (.var 22) (.not (.var 22)))) []))) 
          (.call 17 [(.agg [(.int .i64 (.var 10)), (.int .i64 (.var 11)), (.val 12)]), (.agg [(.int .i64 (.var 13)), (.int .i64 (.var 14)), (.val 15)])] [] [] [] [(false, [.bool])] 
          (.bstr (.val 18) 
          (.done (.bool (.ite (.seq (.var 20) (.var 22)) (.var 21) (.not (.var 21)))) [])))))
         (.done (.bool (.tt false)) [])) 
        (.both 
         (.ite (.ite (.cmp .eql (.var 17) (.lit 0)) (.cmp .eql (.var 19) (.lit 0)) (.tt false))
          (.bstr (.val 18) 
          (.both 
           (.bstr (.val 16) 
           (.call 17 [(.agg [(.int .i64 (.var 10)), (.int .i64 (.var 11)), (.val 12)]), (.agg [(.int .i64 (.var 13)), (.int .i64 (.var 14)), (.val 15)])] [] [] [] [(false, [.bool])] 
           (.done (.bool (.ite (.seq (.var 21) (.var 20)) (.var 22) (.not (.var 22)))) []))) 
           (.call 17 [(.agg [(.int .i64 (.var 10)), (.int .i64 (.var 11)), (.val 12)]), (.agg [(.int .i64 (.var 13)), (.int .i64 (.var 14)), (.val 15)])] [] [] [] [(false, [.bool])] 
           (.bstr (.val 16) 
           (.done (.bool (.ite (.seq (.var 22) (.var 20)) (.var 21) (.not (.var 21)))) [])))))
          (.done (.bool (.tt false)) [])) 
         (.ite (.ite (.cmp .eql (.var 17) (.lit 0)) (.cmp .eql (.var 19) (.lit 0)) (.tt false))
          (.call 17 [(.agg [(.int .i64 (.var 10)), (.int .i64 (.var 11)), (.val 12)]), (.agg [(.int .i64 (.var 13)), (.int .i64 (.var 14)), (.val 15)])] [] [] [] [(false, [.bool])] 
          (.both 
           (.bstr (.val 16) 
           (.bstr (.val 18) 
           (.done (.bool (.ite (.seq (.var 21) (.var 22)) (.var 20) (.not (.var 20)))) []))) 
           (.bstr (.val 18) 
           (.bstr (.val 16) 
           (.done (.bool (.ite (.seq (.var 22) (.var 21)) (.var 20) (.not (.var 20)))) [])))))
          (.done (.bool (.tt false)) []))))))) 
       (.call 12 [(.agg [(.int .u8 (.var 4)), (.int .u8 (.var 5)), (.int .u8 (.var 6)), (.val 7)])] [] [] [] [(true, [.int .i64, .int .i64, .sl])] 
       (.call 14 [(.agg [(.int .i64 (.var 10)), (.int .i64 (.var 11)), (.val 12)])] [] [] [] [(false, [.sl]), (false, [.int .i64])] 
       (.call 14 [(.agg [(.int .i64 (.var 13)), (.int .i64 (.var 14)), (.val 15)])] [] [] [] [(false, [.sl]), (false, [.int .i64])] 
       (.both 
        (.ite (.ite (.cmp .eql (.var 17) (.lit 0)) (.cmp .eql (.var 19) (.lit 0)) (.tt false))
         (.bstr (.val 16) 
         (.both 
          (.bstr (.val 18) 
          (.call 17 [(.agg [(.int .i64 (.var 10)), (.int .i64 (.var 11)), (.val 12)]), (.agg [(.int .i64 (.var 13)), (.int .i64 (.var 14)), (.val 15)])] [] [] [] [(false, [.bool])] 
          (.done (.bool (.ite (.seq (.var 20) (.var 21)) (.var 22) (.not (.var 22)))) []))) 
          (.call 17 [(.agg [(.int .i64 (.var 10)), (.int .i64 (.var 11)), (.val 12)]), (.agg [(.int .i64 (.var 13)), (.int .i64 (.var 14)), (.val 15)])] [] [] [] [(false, [.bool])] 
          (.bstr (.val 18) 
          (.done (.bool (.ite (.seq (.var 20) (.var 22)) (.var 21) (.not (.var 21)))) [])))))
         (.done (.bool (.tt false)) [])) 
        (.both 
         (.ite (.ite (.cmp .eql (.var 17) (.lit 0)) (.cmp .eql (.var 19) (.lit 0)) (.tt false))
          (.bstr (.val 18) 
          (.both 
           (.bstr (.val 16) 
           (.call 17 [(.agg [(.int .i64 (.var 10)), (.int .i64 (.var 11)), (.val 12)]), (.agg [(.int .i64 (.var 13)), (.int .i64 (.var 14)), (.val 15)])] [] [] [] [(false, [.bool])] 
           (.done (.bool (.ite (.seq (.var 21) (.var 20)) (.var 22) (.not (.var 22)))) []))) 
           (.call 17 [(.agg [(.int .i64 (.var 10)), (.int .i64 (.var 11)), (.val 12)]), (.agg [(.int .i64 (.var 13)), (.int .i64 (.var 14)), (.val 15)])] [] [] [] [(false, [.bool])] 
           (.bstr (.val 16) 
           (.done (.bool (.ite (.seq (.var 22) (.var 20)) (.var 21) (.not (.var 21)))) [])))))
          (.done (.bool (.tt false)) [])) 
         (.ite (.ite (.cmp .eql (.var 17) (.lit 0)) (.cmp .eql (.var 19) (.lit 0)) (.tt false))
          (.call 17 [(.agg [(.int .i64 (.var 10)), (.int .i64 (.var 11)), (.val 12)]), (.agg [(.int .i64 (.var 13)), (.int .i64 (.var 14)), (.val 15)])] [] [] [] [(false, [.bool])] 
          (.both 
           (.bstr (.val 16) 
           (.bstr (.val 18) 
           (.done (.bool (.ite (.seq (.var 21) (.var 22)) (.var 20) (.not (.var 20)))) []))) 
           (.bstr (.val 18) 
           (.bstr (.val 16) 
           (.done (.bool (.ite (.seq (.var 22) (.var 21)) (.var 20) (.not (.var 20)))) [])))))
          (.done (.bool (.tt false)) [])))))))) 
      (.both 
       (.call 12 [(.agg [(.int .u8 (.var 4)), (.int .u8 (.var 5)), (.int .u8 (.var 6)), (.val 7)])] [] [] [] [(true, [.int .i64, .int .i64, .sl])] 
       (.call 14 [(.agg [(.int .i64 (.var 10)), (.int .i64 (.var 11)), (.val 12)])] [] [] [] [(false, [.sl]), (false, [.int .i64])] 
       (.call 14 [(.agg [(.int .i64 (.var 13)), (.int .i64 (.var 14)), (.val 15)])] [] [] [] [(false, [.sl]), (false, [.int .i64])] 
       (.both 
        (.ite (.ite (.cmp .eql (.var 17) (.lit 0)) (.cmp .eql (.var 19) (.lit 0)) (.tt false))
         (.bstr (.val 16) 
         (.both 
          (.bstr (.val 18) 
          (.call 17 [(.agg [(.int .i64 (.var 10)), (.int .i64 (.var 11)), (.val 12)]), (.agg [(.int .i64 (.var 13)), (.int .i64 (.var 14)), (.val 15)])] [] [] [] [(false, [.bool])] 
          (.done (.bool (.ite (.seq (.var 20) (.var 21)) (.var 22) (.not (.var 22)))) []))) 
          (.call 17 [(.agg [(.int .i64 (.var 10)), (.int .i64 (.var 11)), (.val 12)]), (.agg [(.int .i64 (.var 13)), (.int .i64 (.var 14)), (.val 15)])] [] [] [] [(false, [.bool])] 
          (.bstr (.val 18) 
          (.done (.bool (.ite (.seq (.var 20) (.var 22)) (.var 21) (.not (.var 21)))) [])))))
         (.done (.bool (.tt false)) [])) 
        (.both 
         (.ite (.ite (.cmp .eql (.var 17) (.lit 0)) (.cmp .eql (.var 19) (.lit 0)) (.tt false))
          (.bstr (.val 18) 
          (.both 
           (.bstr (.val 16) 
           (.call 17 [(.agg [(.int .i64 (.var 10)), (.int .i64 (.var 11)), (.val 12)]), (.agg [(.int .i64 (.var 13)), (.int .i64 (.var 14)), (.val 15)])] [] [] [] [(false, [.bool])] 
           (.done (.bool (.ite (.seq (.var 21) (.var 20)) (.var 22) (.not (.var 22)))) []))) 
           (.call 17 [(.agg [(.int .i64 (.var 10)), (.int .i64 (.var 11)), (.val 12)]), (.agg [(.int .i64 (.var 13)), (.int .i64 (.var 14)), (.val 15)])] [] [] [] [(false, [.bool])] 
           (.bstr (.val 16) 
           (.done (.bool (.ite (.seq (.var 22) (.var 20)) (.var 21) (.not (.var 21)))) [])))))
          (.done (.bool (.tt false)) [])) 
         (.ite (.ite (.cmp .eql (.var 17) (.lit 0)) (.cmp .eql (.var 19) (.lit 0)) (.tt false))
          (.call 17 [(.agg [(.int .i64 (.var 10)), (.int .i64 (.var 11)), (.val 12)]), (.agg [(.int .i64 (.var 13)), (.int .i64 (.var 14)), (.val 15)])] [] [] [] [(false, [.bool])] 
          (.both 
           (.bstr (.val 16) 
           (.bstr (.val 18) 
           (.done (.bool (.ite (.seq (.var 21) (.var 22)) (.var 20) (.not (.var 20)))) []))) 
           (.bstr (.val 18) 
           (.bstr (.val 16) 
           (.done (.bool (.ite (.seq (.var 22) (.var 21)) (.var 20) (.not (.var 20)))) [])))))
          (.done (.bool (.tt false)) []))))))) 
       (.call 12 [(.agg [(.int .u8 (.var 4)), (.int .u8 (.var 5)), (.int .u8 (.var 6)), (.val 7)])] [] [] [] [(true, [.int .i64, .int .i64, .sl])] 
       (.call 14 [(.agg [(.int .i64 (.var 10)), (.int .i64 (.var 11)), (.val 12)])] [] [] [] [(false, [.sl]), (false, [.int .i64])] 
       (.call 14 [(.agg [(.int .i64 (.var 13)), (.int .i64 (.var 14)), (.val 15)])] [] [] [] [(false, [.sl]), (false, [.int .i64])] 
       (.both 
        (.ite (.ite (.cmp .eql (.var 17) (.lit 0)) (.cmp .eql (.var 19) (.lit 0)) (.tt false))
         (.bstr (.val 16) 
         (.both 
          (.bstr (.val 18) 
          (.call 17 [(.agg [(.int .i64 (.var 10)), (.int .i64 (.var 11)), (.val 12)]), (.agg [(.int .i64 (.var 13)), (.int .i64 (.var 14)), (.val 15)])] [] [] [] [(false, [.bool])] 
          (.done (.bool (.ite (.seq (.var 20) (.var 21)) (.var 22) (.not (.var 22)))) []))) 
          (.call 17 [(.agg [(.int .i64 (.var 10)), (.int .i64 (.var 11)), (.val 12)]), (.agg [(.int .i64 (.var 13)), (.int .i64 (.var 14)), (.val 15)])] [] [] [] [(false, [.bool])] 
          (.bstr (.val 18) 
          (.done (.bool (.ite (.seq (.var 20) (.var 22)) (.var 21) (.not (.var 21)))) [])))))
         (.done (.bool (.tt false)) [])) 
        (.both 
         (.ite (.ite (.cmp .eql (.var 17) (.lit 0)) (.cmp .eql (.var 19) (.lit 0)) (.tt false))
          (.bstr (.val 18) 
          (.both 
           (.bstr (.val 16) 
           (.call 17 [(.agg [(.int .i64 (.var 10)), (.int .i64 (.var 11)), (.val 12)]), (.agg [(.int .i64 (.var 13)), (.int .i64 (.var 14)), (.val 15)])] [] [] [] [(false, [.bool])] 
           (.done (.bool (.ite (.seq (.var 21) (.var 20)) (.var 22) (.not (.var 22)))) []))) 
           (.call 17 [(.agg [(.int .i64 (.var 10)), (.int .i64 (.var 11)), (.val 12)]), (.agg [(.int .i64 (.var 13)), (.int .i64 (.var 14)), (.val 15)])] [] [] [] [(false, [.bool])] 
           (.bstr (.val 16) 
           (.done (.bool (.ite (.seq (.var 22) (.var 20)) (.var 21) (.not (.var 21)))) [])))))
          (.done (.bool (.tt false)) [])) 
         (.ite (.ite (.cmp .eql (.var 17) (.lit 0)) (.cmp .eql (.var 19) (.lit 0)) (.tt false))
          (.call 17 [(.agg [(.int .i64 (.var 10)), (.int .i64 (.var 11)), (.val 12)]), (.agg [(.int .i64 (.var 13)), (.int .i64 (.var 14)), (.val 15)])] [] [] [] [(false, [.bool])] 
          (.both 
           (.bstr (.val 16) 
           (.bstr (.val 18) 
           (.done (.bool (.ite (.seq (.var 21) (.var 22)) (.var 20) (.not (.var 20)))) []))) 
           (.bstr (.val 18) 
           (.bstr (.val 16) 
           (.done (.bool (.ite (.seq (.var 22) (.var 21)) (.var 20) (.not (.var 20)))) [])))))
          (.done (.bool (.tt false)) []))))))))))) 
    (.both 
     (.both 
      (.call 12 [(.agg [(.int .u8 (.var 0)), (.int .u8 (.var 1)), (.int .u8 (.var 2)), (.val 3)])] [] [] [] [(true, [.int .i64, .int .i64, .sl])] 
      (.both 
       (.call 12 [(.agg [(.int .u8 (.var 4)), (.int .u8 (.var 5)), (.int .u8 (.var 6)), (.val 7)])] [] [] [] [(true, [.int .i64, .int .i64, .sl])] 
       (.call 14 [(.agg [(.int .i64 (.var 10)), (.int .i64 (.var 11)), (.val 12)])] [] [] [] [(false, [.sl]), (false, [.int .i64])] 
       (.call 14 [(.agg [(.int .i64 (.var 13)), (.int .i64 (.var 14)), (.val 15)])] [] [] [] [(false, [.sl]), (false, [.int .i64])] 
       (.both 
        (.ite (.ite (.cmp .eql (.var 17) (.lit 0)) (.cmp .eql (.var 19) (.lit 0)) (.tt false))
         (.bstr (.val 16) 
         (.both 
          (.bstr (.val 18) 
          (.call 17 [(.agg [(.int .i64 (.var 10)), (.int .i64 (.var 11)), (.val 12)]), (.agg [(.int .i64 (.var 13)), (.int .i64 (.var 14)), (.val 15)])] [] [] [] [(false, [.bool])] 
          (.done (.bool (.ite (.seq (.var 20) (.var 21)) (.var 22) (.not (.var 22)))) []))) 
          (.call 17 [(.agg [(.int .i64 (.var 10)), (.int .i64 (.var 11)), (.val 12)]), (.agg [(.int .i64 (.var 13)), (.int .i64 (.var 14)), (.val 15)])] [] [] [] [(false, [.bool])] 
          (.bstr (.val 18) 
          (.done (.bool (.ite (.seq (.var 20) (.var 22)) (.var 21) (.not (.var 21)))) [])))))
         (.done (.bool (.tt false)) [])) 
        (.both 
         (.ite (.ite (.cmp .eql (.var 17) (.lit 0)) (.cmp .eql (.var 19) (.lit 0)) (.tt false))
          (.bstr (.val 18) 
          (.both 
           (.bstr (.val 16) 
           (.call 17 [(.agg [(.int .i64 (.var 10)), (.int .i64 (.var 11)), (.val 12)]), (.agg [(.int .i64 (.var 13)), (.int .i64 (.var 14)), (.val 15)])] [] [] [] [(false, [.bool])] 
           (.done (.bool (.ite (.seq (.var 21) (.var 20)) (.var 22) (.not (.var 22)))) []))) 
           (.call 17 [(.agg [(.int .i64 (.var 10)), (.int .i64 (.var 11)), (.val 12)]), (.agg [(.int .i64 (.var 13)), (.int .i64 (.var 14)), (.val 15)])] [] [] [] [(false, [.bool])] 
           (.bstr (.val 16) 
           (.done (.bool (.ite (.seq (.var 22) (.var 20)) (.var 21) (.not (.var 21)))) [])))))
          (.done (.bool (.tt false)) [])) 
         (.ite (.ite (.cmp .eql (.var 17) (.lit 0)) (.cmp .eql (.var 19) (.lit 0)) (.tt false))
          (.call 17 [(.agg [(.int .i64 (.var 10)), (.int .i64 (.var 11)), (.val 12)]), (.agg [(.int .i64 (.var 13)), (.int .i64 (.var 14)), (.val 15)])] [] [] [] [(false, [.bool])] 
          (.both 
           (.bstr (.val 16) 
           (.bstr (.val 18) 
           (.done (.bool (.ite (.seq (.var 21) (.var 22)) (.var 20) (.not (.var 20)))) []))) 
           (.bstr (.val 18) 
           (.bstr (.val 16) 
           (.done (.bool (.ite (.seq (.var 22) (.var 21)) (.var 20) (.not (.var 20)))) [])))))
          (.done (.bool (.tt false)) []))))))) 
       (.call 12 [(.agg [(.int .u8 (.var 4)), (.int .u8 (.var 5)), (.int .u8 (.var 6)), (.val 7)])] [] [] [] [(true, [.int .i64, .int .i64, .sl])] 
       (.call 14 [(.agg [(.int .i64 (.var 10)), (.int .i64 (.var 11)), (.val 12)])] [] [] [] [(false, [.sl]), (false, [.int .i64])] 
       (.call 14 [(.agg [(.int .i64 (.var 13)), (.int .i64 (.var 14)), (.val 15)])] [] [] [] [(false, [.sl]), (false, [.int .i64])] 
       (.both 
        (.ite (.ite (.cmp .eql (.var 17) (.lit 0)) (.cmp .eql (.var 19) (.lit 0)) (.tt false))
         (.bstr (.val 16) 
         (.both 
          (.bstr (.val 18) 
          (.call 17 [(.agg [(.int .i64 (.var 10)), (.int .i64 (.var 11)), (.val 12)]), (.agg [(.int .i64 (.var 13)), (.int .i64 (.var 14)), (.val 15)])] [] [] [] [(false, [.bool])] 
          (.done (.bool (.ite (.seq (.var 20) (.var 21)) (.var 22) (.not (.var 22)))) []))) 
          (.call 17 [(.agg [(.int .i64 (.var 10)), (.int .i64 (.var 11)), (.val 12)]), (.agg [(.int .i64 (.var 13)), (.int .i64 (.var 14)), (.val 15)])] [] [] [] [(false, [.bool])] 
          (.bstr (.val 18) 
          (.done (.bool (.ite (.seq (.var 20) (.var 22)) (.var 21) (.not (.var 21)))) [])))))
         (.done (.bool (.tt false)) [])) 
        (.both 
         (.ite (.ite (.cmp .eql (.var 17) (.lit 0)) (.cmp .eql (.var 19) (.lit 0)) (.tt false))
          (.bstr (.val 18) 
          (.both 
           (.bstr (.val 16) 
           (.call 17 [(.agg [(.int .i64 (.var 10)), (.int .i64 (.var 11)), (.val 12)]), (.agg [(.int .i64 (.var 13)), (.int .i64 (.var 14)), (.val 15)])] [] [] [] [(false, [.bool])] 
           (.done (.bool (.ite (.seq (.var 21) (.var 20)) (.var 22) (.not (.var 22)))) []))) 
           (.call 17 [(.agg [(.int .i64 (.var 10)), (.int .i64 (.var 11)), (.val 12)]), (.agg [(.int .i64 (.var 13)), (.int .i64 (.var 14)), (.val 15)])] [] [] [] [(false, [.bool])] 
           (.bstr (.val 16) 
           (.done (.bool (.ite (.seq (.var 22) (.var 20)) (.var 21) (.not (.var 21)))) [])))))
          (.done (.bool (.tt false)) [])) 
         (.ite (.ite (.cmp .eql (.var 17) (.lit 0)) (.cmp .eql (.var 19) (.lit 0)) (.tt false))
          (.call 17 [(.agg [(.int .i64 (.var 10)), (.int .i64 (.var 11)), (.val 12)]), (.agg [(.int .i64 (.var 13)), (.int .i64 (.var 14)), (.val 15)])] [] [] [] [(false, [.bool])] 
          (.both 
           (.bstr (.val 16) 
           (.bstr (.val 18) 
           (.done (.bool (.ite (.seq (.var 21) (.var 22)) (.var 20) (.not (.var 20)))) []))) 
           (.bstr (.val 18) 
           (.bstr (.val 16) 
           (.done (.bool (.ite (.seq (.var 22) (.var 21)) (.var 20) (.not (.var 20)))) [])))))
          (.done (.bool (.tt false)) []))))))))) 
      (.call 12 [(.agg [(.int .u8 (.var 0)), (.int .u8 (.var 1)), (.int .u8 (.var 2)), (.val 3)])] [] [] [] [(true, [.int .i64, .int .i64, .sl])] 
      (.call 12 [(.agg [(.int .u8 (.var 4)), (.int .u8 (.var 5)), (.int .u8 (.var 6)), (.val 7)])] [] [] [] [(true, [.int .i64, .int .i64, .sl])] 
      (.call 14 [(.agg [(.int .i64 (.var 10)), (.int .i64 (.var 11)), (.val 12)])] [] [] [] [(false, [.sl]), (false, [.int .i64])] 
      (.call 14 [(.agg [(.int .i64 (.var 13)), (.int .i64 (.var 14)), (.val 15)])] [] [] [] [(false, [.sl]), (false, [.int .i64])] 
      (.both 
       (.ite (.ite (.cmp .eql (.var 17) (.lit 0)) (.cmp .eql (.var 19) (.lit 0)) (.tt false))
        (.bstr (.val 16) 
        (.both 
         (.bstr (.val 18) 
         (.call 17 [(.agg [(.int .i64 (.var 10)), (.int .i64 (.var 11)), (.val 12)]), (.agg [(.int .i64 (.var 13)), (.int .i64 (.var 14)), (.val 15)])] [] [] [] [(false, [.bool])] 
         (.done (.bool (.ite (.seq (.var 20) (.var 21)) (.var 22) (.not (.var 22)))) []))) 
         (.call 17 [(.agg [(.int .i64 (.var 10)), (.int .i64 (.var 11)), (.val 12)]), (.agg [(.int .i64 (.var 13)), (.int .i64 (.var 14)), (.val 15)])] [] [] [] [(false, [.bool])] 
         (.bstr (.val 18) 
         (.done (.bool (.ite (.seq (.var 20) (.var 22)) (.var 21) (.not (.var 21)))) [])))))
        (.done (.bool (.tt false)) [])) 
       (.both 
        (.ite (.ite (.cmp .eql (.var 17) (.lit 0)) (.cmp .eql (.var 19) (.lit 0)) (.tt false))
         (.bstr (.val 18) 
         (.both 
          (.bstr (.val 16) 
          (.call 17 [(.agg [(.int .i64 (.var 10)), (.int .i64 (.var 11)), (.val 12)]), (.agg [(.int .i64 (.var 13)), (.int .i64 (.var 14)), (.val 15)])] [] [] [] [(false, [.bool])] 
          (.done (.bool (.ite (.seq (.var 21) (.var 20)) (.var 22) (.not (.var 22)))) []))) 
          (.call 17 [(.agg [(.int .i64 (.var 10)), (.int .i64 (.var 11)), (.val 12)]), (.agg [(.int .i64 (.var 13)), (.int .i64 (.var 14)), (.val 15)])] [] [] [] [(false, [.bool])] 
          (.bstr (.val 16) 
          (.done (.bool (.ite (.seq (.var 22) (.var 20)) (.var 21) (.not (.var 21)))) [])))))
         (.done (.bool (.tt false)) [])) 
        (.ite (.ite (.cmp .eql (.var 17) (.lit 0)) (.cmp .eql (.var 19) (.lit 0)) (.tt false))
         (.call 17 [(.agg [(.int .i64 (.var 10)), (.int .i64 (.var 11)), (.val 12)]), (.agg [(.int .i64 (.var 13)), (.int .i64 (.var 14)), (.val 15)])] [] [] [] [(false, [.bool])] 
         (.both 
          (.bstr (.val 16) 
          (.bstr (.val 18) 
          (.done (.bool (.ite (.seq (.var 21) (.var 22)) (.var 20) (.not (.var 20)))) []))) 
          (.bstr (.val 18) 
          (.bstr (.val 16) 
          (.done (.bool (.ite (.seq (.var 22) (.var 21)) (.var 20) (.not (.var 20)))) [])))))
         (.done (.bool (.tt false)) []))))))))) 
     (.both 
      (.call 12 [(.agg [(.int .u8 (.var 0)), (.int .u8 (.var 1)), (.int .u8 (.var 2)), (.val 3)])] [] [] [] [(true, [.int .i64, .int .i64, .sl])] 
      (.both 
       (.call 12 [(.agg [(.int .u8 (.var 4)), (.int .u8 (.var 5)), (.int .u8 (.var 6)), (.val 7)])] [] [] [] [(true, [.int .i64, .int .i64, .sl])] 
       (.call 14 [(.agg [(.int .i64 (.var 10)), (.int .i64 (.var 11)), (.val 12)])] [] [] [] [(false, [.sl]), (false, [.int .i64])] 
       (.call 14 [(.agg [(.int .i64 (.var 13)), (.int .i64 (.var 14)), (.val 15)])] [] [] [] [(false, [.sl]), (false, [.int .i64])] 
       (.both 
        (.ite (.ite (.cmp .eql (.var 17) (.lit 0)) (.cmp .eql (.var 19) (.lit 0)) (.tt false))
         (.bstr (.val 16) 
         (.both 
          (.bstr (.val 18) 
          (.call 17 [(.agg [(.int .i64 (.var 10)), (.int .i64 (.var 11)), (.val 12)]), (.agg [(.int .i64 (.var 13)), (.int .i64 (.var 14)), (.val 15)])] [] [] [] [(false, [.bool])] 
          (.done (.bool (.ite (.seq (.var 20) (.var 21)) (.var 22) (.not (.var 22)))) []))) 
          (.call 17 [(.agg [(.int .i64 (.var 10)), (.int .i64 (.var 11)), (.val 12)]), (.agg [(.int .i64 (.var 13)), (.int .i64 (.var 14)), (.val 15)])] [] [] [] [(false, [.bool])] 
          (.bstr (.val 18) 
          (.done (.bool (.ite (.seq (.var 20) (.var 22)) (.var 21) (.not (.var 21)))) [])))))
         (.done (.bool (.tt false)) [])) 
        (.both 
         (.ite (.ite (.cmp .eql (.var 17) (.lit 0)) (.cmp .eql (.var 19) (.lit 0)) (.tt false))
          (.bstr (.val 18) 
          (.both 
           (.bstr (.val 16) 
           (.call 17 [(.agg [(.int .i64 (.var 10)), (.int .i64 (.var 11)), (.val 12)]), (.agg [(.int .i64 (.var 13)), (.int .i64 (.var 14)), (.val 15)])] [] [] [] [(false, [.bool])] 
           (.done (.bool (.ite (.seq (.var 21) (.var 20)) (.var 22) (.not (.var 22)))) []))) 
           (.call 17 [(.agg [(.int .i64 (.var 10)), (.int .i64 (.var 11)), (.val 12)]), (.agg [(.int .i64 (.var 13)), (.int .i64 (.var 14)), (.val 15)])] [] [] [] [(false, [.bool])] 
           (.bstr (.val 16) 
           (.done (.bool (.ite (.seq (.var 22) (.var 20)) (.var 21) (.not (.var 21)))) [])))))
          (.done (.bool (.tt false)) [])) 
         (.ite (.ite (.cmp .eql (.var 17) (.lit 0)) (.cmp .eql (.var 19) (.lit 0)) (.tt false))
          (.call 17 [(.agg [(.int .i64 (.var 10)), (.int .i64 (.var 11)), (.val 12)]), (.agg [(.int .i64 (.var 13)), (.int .i64 (.var 14)), (.val 15)])] [] [] [] [(false, [.bool])] 
          (.both 
           (.bstr (.val 16) 
           (.bstr (.val 18) 
           (.done (.bool (.ite (.seq (.var 21) (.var 22)) (.var 20) (.not (.var 20)))) []))) 
           (.bstr (.val 18) 
           (.bstr (.val 16) 
           (.done (.bool (.ite (.seq (.var 22) (.var 21)) (.var 20) (.not (.var 20)))) [])))))
          (.done (.bool (.tt false)) []))))))) 
       (.call 12 [(.agg [(.int .u8 (.var 4)), (.int .u8 (.var 5)), (.int .u8 (.var 6)), (.val 7)])] [] [] [] [(true, [.int .i64, .int .i64, .sl])] 
       (.call 14 [(.agg [(.int .i64 (.var 10)), (.int .i64 (.var 11)), (.val 12)])] [] [] [] [(false, [.sl]), (false, [.int .i64])] 
       (.call 14 [(.agg [(.int .i64 (.var 13)), (.int .i64 (.var 14)), (.val 15)])] [] [] [] [(false, [.sl]), (false, [.int .i64])] 
       (.both 
        (.ite (.ite (.cmp .eql (.var 17) (.lit 0)) (.cmp .eql (.var 19) (.lit 0)) (.tt false))
         (.bstr (.val 16) 
         (.both 
          (.bstr (.val 18) 
          (.call 17 [(.agg [(.int .i64 (.var 10)), (.int .i64 (.var 11)), (.val 12)]), (.agg [(.int .i64 (.var 13)), (.int .i64 (.var 14)), (.val 15)])] [] [] [] [(false, [.bool])] 
          (.done (.bool (.ite (.seq (.var 20) (.var 21)) (.var 22) (.not (.var 22)))) []))) 
          (.call 17 [(.agg [(.int .i64 (.var 10)), (.int .i64 (.var 11)), (.val 12)]), (.agg [(.int .i64 (.var 13)), (.int .i64 (.var 14)), (.val 15)])] [] [] [] [(false, [.bool])] 
          (.bstr (.val 18) 
          (.done (.bool (.ite (.seq (.var 20) (.var 22)) (.var 21) (.not (.var 21)))) [])))))
         (.done (.bool (.tt false)) [])) 
        (.both 
         (.ite (.ite (.cmp .eql (.var 17) (.lit 0)) (.cmp .eql (.var 19) (.lit 0)) (.tt false))
          (.bstr (.val 18) 
          (.both 
           (.bstr (.val 16) 
           (.call 17 [(.agg [(.int .i64 (.var 10)), (.int .i64 (.var 11)), (.val 12)]), (.agg [(.int .i64 (.var 13)), (.int .i64 (.var 14)), (.val 15)])] [] [] [] [(false, [.bool])] 
           (.done (.bool (.ite (.seq (.var 21) (.var 20)) (.var 22) (.not (.var 22)))) []))) 
           (.call 17 [(.agg [(.int .i64 (.var 10)), (.int .i64 (.var 11)), (.val 12)]), (.agg [(.int .i64 (.var 13)), (.int .i64 (.var 14)), (.val 15)])] [] [] [] [(false, [.bool])] 
           (.bstr (.val 16) 
           (.done (.bool (.ite (.seq (.var 22) (.var 20)) (.var 21) (.not (.var 21)))) [])))))
          (.done (.bool (.tt false)) [])) 
         (.ite (.ite (.cmp .eql (.var 17) (.lit 0)) (.cmp .eql (.var 19) (.lit 0)) (.tt false))
          (.call 17 [(.agg [(.int .i64 (.var 10)), (.int .i64 (.var 11)), (.val 12)]), (.agg [(.int .i64 (.var 13)), (.int .i64 (.var 14)), (.val 15)])] [] [] [] [(false, [.bool])] 
          (.both 
           (.bstr (.val 16) 
           (.bstr (.val 18) 
           (.done (.bool (.ite (.seq (.var 21) (.var 22)) (.var 20) (.not (.var 20)))) []))) 
           (.bstr (.val 18) 
           (.bstr (.val 16) 
           (.done (.bool (.ite (.seq (.var 22) (.var 21)) (.var 20) (.not (.var 20)))) [])))))
          (.done (.bool (.tt false)) []))))))))) 
      (.call 12 [(.agg [(.int .u8 (.var 0)), (.int .u8 (.var 1)), (.int .u8 (.var 2)), (.val 3)])] [] [] [] [(true, [.int .i64, .int .i64, .sl])] 
      (.call 12 [(.agg [(.int .u8 (.var 4)), (.int .u8 (.var 5)), (.int .u8 (.var 6)), (.val 7)])] [] [] [] [(true, [.int .i64, .int .i64, .sl])] 
      (.call 14 [(.agg [(.int .i64 (.var 10)), (.int .i64 (.var 11)), (.val 12)])] [] [] [] [(false, [.sl]), (false, [.int .i64])] 
      (.call 14 [(.agg [(.int .i64 (.var 13)), (.int .i64 (.var 14)), (.val 15)])] [] [] [] [(false, [.sl]), (false, [.int .i64])] 
      (.both 
       (.ite (.ite (.cmp .eql (.var 17) (.lit 0)) (.cmp .eql (.var 19) (.lit 0)) (.tt false))
        (.bstr (.val 16) 
        (.both 
         (.bstr (.val 18) 
         (.call 17 [(.agg [(.int .i64 (.var 10)), (.int .i64 (.var 11)), (.val 12)]), (.agg [(.int .i64 (.var 13)), (.int .i64 (.var 14)), (.val 15)])] [] [] [] [(false, [.bool])] 
         (.done (.bool (.ite (.seq (.var 20) (.var 21)) (.var 22) (.not (.var 22)))) []))) 
         (.call 17 [(.agg [(.int .i64 (.var 10)), (.int .i64 (.var 11)), (.val 12)]), (.agg [(.int .i64 (.var 13)), (.int .i64 (.var 14)), (.val 15)])] [] [] [] [(false, [.bool])] 
         (.bstr (.val 18) 
         (.done (.bool (.ite (.seq (.var 20) (.var 22)) (.var 21) (.not (.var 21)))) [])))))
        (.done (.bool (.tt false)) [])) 
       (.both 
        (.ite (.ite (.cmp .eql (.var 17) (.lit 0)) (.cmp .eql (.var 19) (.lit 0)) (.tt false))
         (.bstr (.val 18) 
         (.both 
          (.bstr (.val 16) 
          (.call 17 [(.agg [(.int .i64 (.var 10)), (.int .i64 (.var 11)), (.val 12)]), (.agg [(.int .i64 (.var 13)), (.int .i64 (.var 14)), (.val 15)])] [] [] [] [(false, [.bool])] 
          (.done (.bool (.ite (.seq (.var 21) (.var 20)) (.var 22) (.not (.var 22)))) []))) 
          (.call 17 [(.agg [(.int .i64 (.var 10)), (.int .i64 (.var 11)), (.val 12)]), (.agg [(.int .i64 (.var 13)), (.int .i64 (.var 14)), (.val 15)])] [] [] [] [(false, [.bool])] 
          (.bstr (.val 16) 
          (.done (.bool (.ite (.seq (.var 22) (.var 20)) (.var 21) (.not (.var 21)))) [])))))
         (.done (.bool (.tt false)) [])) 
        (.ite (.ite (.cmp .eql (.var 17) (.lit 0)) (.cmp .eql (.var 19) (.lit 0)) (.tt false))
         (.call 17 [(.agg [(.int .i64 (.var 10)), (.int .i64 (.var 11)), (.val 12)]), (.agg [(.int .i64 (.var 13)), (.int .i64 (.var 14)), (.val 15)])] [] [] [] [(false, [.bool])] 
         (.both 
          (.bstr (.val 16) 
          (.bstr (.val 18) 
          (.done (.bool (.ite (.seq (.var 21) (.var 22)) (.var 20) (.not (.var 20)))) []))) 
          (.bstr (.val 18) 
          (.bstr (.val 16) 
          (.done (.bool (.ite (.seq (.var 22) (.var 21)) (.var 20) (.not (.var 20)))) [])))))
         (.done (.bool (.tt false)) []))))))))))))))
def l4 : List (Nat × List Nat × List (Nat × Nat) × List Nat) := []
theorem e4 : ev Try.prog ⟨allF, [], l4⟩ (bodyOf Try.f4) 0 (initSt [(.agg [(.int .u8 (.var 0)), (.int .u8 (.var 1)), (.int .u8 (.var 2)), (.val 3)]), (.agg [(.int .u8 (.var 4)), (.int .u8 (.var 5)), (.int .u8 (.var 6)), (.val 7)]), (.bool (.var 8))] [] Try.f4.ntmps [.int .u8, .int .u8, .int .u8, .sl, .int .u8, .int .u8, .int .u8, .sl, .bool]) (finK Try.prog Try.f4.results []) = t4 := by kernel_rfl
theorem c4 {G : List Value} {h : H} {R : Value → List (List Value) → H → Prop} (hG : FitsL [.int .u8, .int .u8, .int .u8, .sl, .int .u8, .int .u8, .int .u8, .sl, .bool] G) (H : holds Try.prog R t4 G [] h) : CallsA Try.prog 4 (fun e => SV.denL G (fun k => e (k - 1000000)) [(.agg [(.int .u8 (.var 0)), (.int .u8 (.var 1)), (.int .u8 (.var 2)), (.val 3)]), (.agg [(.int .u8 (.var 4)), (.int .u8 (.var 5)), (.int .u8 (.var 6)), (.val 7)]), (.bool (.var 8))]) ([].map (SV.denL G dE)) h R :=
  CallsA.of_ev (cf := ⟨allF, [], l4⟩) (fn := Try.f4) (c := bodyOf Try.f4) (pcs := []) Try.func4 (by rfl) callOK (by rfl) hG (by rfl) (by rw [show ([] : List (List SV)).map List.length = [] from rfl, e4]; exact H)
end Go.Proofs.Ythnoplfjcdkacaa
