/-
  What the evaluator leaves of the functions of this seat (trees, printed by a program of ours), and their contracts from it. Conditions: none.
-/
import Derived.Test.YtgcaicdmjbkplaaDoorR1Tr
set_option linter.unusedVariables false
set_option linter.unusedSimpArgs false
namespace Go.Proofs.YtgcaicdmjbkplaaDoor
open Go

/-- What stands at the top, without what is behind it. -/
def Out.hd : Out → Out | .call a b c d e f _ => .call a b c d e f .fail | .ite c _ _ => .ite c .fail .fail | .both _ _ => .both .fail .fail | _ => .fail
def Out.pT : Out → Out | .ite _ a _ => a | o => o
def Out.pK : Out → Out | .call _ _ _ _ _ _ k => k | o => o
def Out.pE : Out → Out | .ite _ _ b => b | o => o
def Out.pF : Out → Out | .both a _ => a | o => o
def Out.pS : Out → Out | .both _ b => b | o => o
def l3 : List (Nat × List Nat × List (Nat × Nat) × List Nat) := []
theorem eta_call {o : Out} {a : FuncId} {b : List SV} {c d e f} (h : Out.hd o = .call a b c d e f .fail) : o = .call a b c d e f (Out.pK o) := by cases o <;> simp_all [Out.hd, Out.pK]
theorem eta_ite {o : Out} {c : X} (h : Out.hd o = .ite c .fail .fail) : o = .ite c (Out.pT o) (Out.pE o) := by cases o <;> simp_all [Out.hd, Out.pT, Out.pE]
theorem eta_both {o : Out} (h : Out.hd o = .both .fail .fail) : o = .both (Out.pF o) (Out.pS o) := by cases o <;> simp_all [Out.hd, Out.pF, Out.pS]
noncomputable def ev3 : Out := ev Tryd.prog ⟨allF, [], l3⟩ (bodyOf Tryd.f3) 0 (initSt [(.agg [(.int .u8 (.var 0)), (.int .u8 (.var 1)), (.int .u8 (.var 2)), (.val 3)]), (.int .u8 (.var 4)), (.int .u8 (.var 5))] [] Tryd.f3.ntmps [.int .u8, .int .u8, .int .u8, .sl, .int .u8, .int .u8]) (finK Tryd.prog Tryd.f3.results [])
/-- The rest of every arm. -/
def pick3 : Out :=
 (.need (.tt true) [(.cmp .neq (.len 12) (.lit 0))] 
     (.need (.tt true) [(.cmp .geq (.op .rem .i64 (.conv .i64 (.var 4)) (.len 12)) (.lit 0)), (.cmp .lss (.op .rem .i64 (.conv .i64 (.var 4)) (.len 12)) (.len 12))] 
     (.need (.tt true) [(.cmp .neq (.len 12) (.lit 0))] 
     (.load (.tt true) (.fld (.fld (.idx (.var 12) (.op .rem .i64 (.conv .i64 (.var 4)) (.len 12)) 5) 1) 0) [.int .u8] 
     (.ite (.cmp .eql (.var 13) (.lit 3))
      (.store (.fld (.idx (.var 12) (.op .rem .i64 (.conv .i64 (.var 4)) (.len 12)) 5) 1) [(.int .u8 (.lit 1)), (.int .i64 (.lit 0)), (.int .i64 (.op .rem .i64 (.conv .i64 (.var 5)) (.len 12))), (.int .i64 (.lit 0))] 
      (.both 
       (.call 12 [(.val 9)] [] [] [] [(true, [.sl])] 
       (.both 
        (.call 12 [(.val 12)] [] [] [] [(true, [.sl])] 
        (.both 
         (.call 13 [(.agg [(.val 15)])] [] [] [] [(true, [.sl])] 
         (.call 14 [(.loc 13 0), (.agg [(.val 14)])] [13] [[(.val 16)]] [[.sl]] [(false, [.bool])] 
         (.call 15 [(.agg [(.val 17)]), (.agg [(.val 15)])] [] [] [] [(false, [.bool])] 
         (.need (.var 19) [(.cmp .neq (.len 12) (.lit 0))] 
         (.ite (.var 19)
          (.call 16 [(.agg [(.val 14)]), (.int .i64 (.op .rem .i64 (.conv .i64 (.var 4)) (.len 12)))] [] [] [] [(false, [.bool])] 
          (.ite (.var 20)
           (.call 16 [(.agg [(.val 15)]), (.int .i64 (.op .rem .i64 (.conv .i64 (.var 5)) (.len 12)))] [] [] [] [(false, [.bool])] 
           (.done (.bool (.var 21)) []))
           (.done (.bool (.tt true)) [])))
          (.done (.bool (.tt false)) [])))))) 
         (.call 13 [(.agg [(.val 15)])] [] [] [] [(true, [.sl])] 
         (.call 14 [(.loc 13 0), (.agg [(.val 14)])] [13] [[(.val 16)]] [[.sl]] [(false, [.bool])] 
         (.call 15 [(.agg [(.val 17)]), (.agg [(.val 15)])] [] [] [] [(false, [.bool])] 
         (.need (.var 19) [(.cmp .neq (.len 12) (.lit 0))] 
         (.ite (.var 19)
          (.call 16 [(.agg [(.val 14)]), (.int .i64 (.op .rem .i64 (.conv .i64 (.var 4)) (.len 12)))] [] [] [] [(false, [.bool])] 
          (.ite (.var 20)
           (.call 16 [(.agg [(.val 15)]), (.int .i64 (.op .rem .i64 (.conv .i64 (.var 5)) (.len 12)))] [] [] [] [(false, [.bool])] 
           (.done (.bool (.var 21)) []))
           (.done (.bool (.tt true)) [])))
          (.done (.bool (.tt false)) [])))))))) 
        (.both 
         (.both 
          (.call 12 [(.val 12)] [] [] [] [(true, [.sl])] 
          (.call 13 [(.agg [(.val 15)])] [] [] [] [(true, [.sl])] 
          (.call 14 [(.loc 13 0), (.agg [(.val 14)])] [13] [[(.val 16)]] [[.sl]] [(false, [.bool])] 
          (.call 15 [(.agg [(.val 17)]), (.agg [(.val 15)])] [] [] [] [(false, [.bool])] 
          (.need (.var 19) [(.cmp .neq (.len 12) (.lit 0))] 
          (.ite (.var 19)
           (.call 16 [(.agg [(.val 14)]), (.int .i64 (.op .rem .i64 (.conv .i64 (.var 4)) (.len 12)))] [] [] [] [(false, [.bool])] 
           (.ite (.var 20)
            (.call 16 [(.agg [(.val 15)]), (.int .i64 (.op .rem .i64 (.conv .i64 (.var 5)) (.len 12)))] [] [] [] [(false, [.bool])] 
            (.done (.bool (.var 21)) []))
            (.done (.bool (.tt true)) [])))
           (.done (.bool (.tt false)) []))))))) 
          (.call 12 [(.val 12)] [] [] [] [(true, [.sl])] 
          (.call 13 [(.agg [(.val 15)])] [] [] [] [(true, [.sl])] 
          (.call 14 [(.loc 13 0), (.agg [(.val 14)])] [13] [[(.val 16)]] [[.sl]] [(false, [.bool])] 
          (.call 15 [(.agg [(.val 17)]), (.agg [(.val 15)])] [] [] [] [(false, [.bool])] 
          (.need (.var 19) [(.cmp .neq (.len 12) (.lit 0))] 
          (.ite (.var 19)
           (.call 16 [(.agg [(.val 14)]), (.int .i64 (.op .rem .i64 (.conv .i64 (.var 4)) (.len 12)))] [] [] [] [(false, [.bool])] 
           (.ite (.var 20)
            (.call 16 [(.agg [(.val 15)]), (.int .i64 (.op .rem .i64 (.conv .i64 (.var 5)) (.len 12)))] [] [] [] [(false, [.bool])] 
            (.done (.bool (.var 21)) []))
            (.done (.bool (.tt true)) [])))
           (.done (.bool (.tt false)) [])))))))) 
         (.both 
          (.call 12 [(.val 12)] [] [] [] [(true, [.sl])] 
          (.call 13 [(.agg [(.val 15)])] [] [] [] [(true, [.sl])] 
          (.call 14 [(.loc 13 0), (.agg [(.val 14)])] [13] [[(.val 16)]] [[.sl]] [(false, [.bool])] 
          (.call 15 [(.agg [(.val 17)]), (.agg [(.val 15)])] [] [] [] [(false, [.bool])] 
          (.need (.var 19) [(.cmp .neq (.len 12) (.lit 0))] 
          (.ite (.var 19)
           (.call 16 [(.agg [(.val 14)]), (.int .i64 (.op .rem .i64 (.conv .i64 (.var 4)) (.len 12)))] [] [] [] [(false, [.bool])] 
           (.ite (.var 20)
            (.call 16 [(.agg [(.val 15)]), (.int .i64 (.op .rem .i64 (.conv .i64 (.var 5)) (.len 12)))] [] [] [] [(false, [.bool])] 
            (.done (.bool (.var 21)) []))
            (.done (.bool (.tt true)) [])))
           (.done (.bool (.tt false)) []))))))) 
          (.call 12 [(.val 12)] [] [] [] [(true, [.sl])] 
          (.call 13 [(.agg [(.val 15)])] [] [] [] [(true, [.sl])] 
          (.call 14 [(.loc 13 0), (.agg [(.val 14)])] [13] [[(.val 16)]] [[.sl]] [(false, [.bool])] 
          (.call 15 [(.agg [(.val 17)]), (.agg [(.val 15)])] [] [] [] [(false, [.bool])] 
          (.need (.var 19) [(.cmp .neq (.len 12) (.lit 0))] 
          (.ite (.var 19)
           (.call 16 [(.agg [(.val 14)]), (.int .i64 (.op .rem .i64 (.conv .i64 (.var 4)) (.len 12)))] [] [] [] [(false, [.bool])] 
           (.ite (.var 20)
            (.call 16 [(.agg [(.val 15)]), (.int .i64 (.op .rem .i64 (.conv .i64 (.var 5)) (.len 12)))] [] [] [] [(false, [.bool])] 
            (.done (.bool (.var 21)) []))
            (.done (.bool (.tt true)) [])))
           (.done (.bool (.tt false)) []))))))))))) 
       (.both 
        (.both 
         (.call 12 [(.val 9)] [] [] [] [(true, [.sl])] 
         (.both 
          (.call 12 [(.val 12)] [] [] [] [(true, [.sl])] 
          (.call 13 [(.agg [(.val 15)])] [] [] [] [(true, [.sl])] 
          (.call 14 [(.loc 13 0), (.agg [(.val 14)])] [13] [[(.val 16)]] [[.sl]] [(false, [.bool])] 
          (.call 15 [(.agg [(.val 17)]), (.agg [(.val 15)])] [] [] [] [(false, [.bool])] 
          (.need (.var 19) [(.cmp .neq (.len 12) (.lit 0))] 
          (.ite (.var 19)
           (.call 16 [(.agg [(.val 14)]), (.int .i64 (.op .rem .i64 (.conv .i64 (.var 4)) (.len 12)))] [] [] [] [(false, [.bool])] 
           (.ite (.var 20)
            (.call 16 [(.agg [(.val 15)]), (.int .i64 (.op .rem .i64 (.conv .i64 (.var 5)) (.len 12)))] [] [] [] [(false, [.bool])] 
            (.done (.bool (.var 21)) []))
            (.done (.bool (.tt true)) [])))
           (.done (.bool (.tt false)) []))))))) 
          (.call 12 [(.val 12)] [] [] [] [(true, [.sl])] 
          (.call 13 [(.agg [(.val 15)])] [] [] [] [(true, [.sl])] 
          (.call 14 [(.loc 13 0), (.agg [(.val 14)])] [13] [[(.val 16)]] [[.sl]] [(false, [.bool])] 
          (.call 15 [(.agg [(.val 17)]), (.agg [(.val 15)])] [] [] [] [(false, [.bool])] 
          (.need (.var 19) [(.cmp .neq (.len 12) (.lit 0))] 
          (.ite (.var 19)
           (.call 16 [(.agg [(.val 14)]), (.int .i64 (.op .rem .i64 (.conv .i64 (.var 4)) (.len 12)))] [] [] [] [(false, [.bool])] 
           (.ite (.var 20)
            (.call 16 [(.agg [(.val 15)]), (.int .i64 (.op .rem .i64 (.conv .i64 (.var 5)) (.len 12)))] [] [] [] [(false, [.bool])] 
            (.done (.bool (.var 21)) []))
            (.done (.bool (.tt true)) [])))
           (.done (.bool (.tt false)) []))))))))) 
         (.call 12 [(.val 9)] [] [] [] [(true, [.sl])] 
         (.call 12 [(.val 12)] [] [] [] [(true, [.sl])] 
         (.call 13 [(.agg [(.val 15)])] [] [] [] [(true, [.sl])] 
         (.call 14 [(.loc 13 0), (.agg [(.val 14)])] [13] [[(.val 16)]] [[.sl]] [(false, [.bool])] 
         (.call 15 [(.agg [(.val 17)]), (.agg [(.val 15)])] [] [] [] [(false, [.bool])] 
         (.need (.var 19) [(.cmp .neq (.len 12) (.lit 0))] 
         (.ite (.var 19)
          (.call 16 [(.agg [(.val 14)]), (.int .i64 (.op .rem .i64 (.conv .i64 (.var 4)) (.len 12)))] [] [] [] [(false, [.bool])] 
          (.ite (.var 20)
           (.call 16 [(.agg [(.val 15)]), (.int .i64 (.op .rem .i64 (.conv .i64 (.var 5)) (.len 12)))] [] [] [] [(false, [.bool])] 
           (.done (.bool (.var 21)) []))
           (.done (.bool (.tt true)) [])))
          (.done (.bool (.tt false)) []))))))))) 
        (.both 
         (.call 12 [(.val 9)] [] [] [] [(true, [.sl])] 
         (.both 
          (.call 12 [(.val 12)] [] [] [] [(true, [.sl])] 
          (.call 13 [(.agg [(.val 15)])] [] [] [] [(true, [.sl])] 
          (.call 14 [(.loc 13 0), (.agg [(.val 14)])] [13] [[(.val 16)]] [[.sl]] [(false, [.bool])] 
          (.call 15 [(.agg [(.val 17)]), (.agg [(.val 15)])] [] [] [] [(false, [.bool])] 
          (.need (.var 19) [(.cmp .neq (.len 12) (.lit 0))] 
          (.ite (.var 19)
           (.call 16 [(.agg [(.val 14)]), (.int .i64 (.op .rem .i64 (.conv .i64 (.var 4)) (.len 12)))] [] [] [] [(false, [.bool])] 
           (.ite (.var 20)
            (.call 16 [(.agg [(.val 15)]), (.int .i64 (.op .rem .i64 (.conv .i64 (.var 5)) (.len 12)))] [] [] [] [(false, [.bool])] 
            (.done (.bool (.var 21)) []))
            (.done (.bool (.tt true)) [])))
           (.done (.bool (.tt false)) []))))))) 
          (.call 12 [(.val 12)] [] [] [] [(true, [.sl])] 
          (.call 13 [(.agg [(.val 15)])] [] [] [] [(true, [.sl])] 
          (.call 14 [(.loc 13 0), (.agg [(.val 14)])] [13] [[(.val 16)]] [[.sl]] [(false, [.bool])] 
          (.call 15 [(.agg [(.val 17)]), (.agg [(.val 15)])] [] [] [] [(false, [.bool])] 
          (.need (.var 19) [(.cmp .neq (.len 12) (.lit 0))] 
          (.ite (.var 19)
           (.call 16 [(.agg [(.val 14)]), (.int .i64 (.op .rem .i64 (.conv .i64 (.var 4)) (.len 12)))] [] [] [] [(false, [.bool])] 
           (.ite (.var 20)
            (.call 16 [(.agg [(.val 15)]), (.int .i64 (.op .rem .i64 (.conv .i64 (.var 5)) (.len 12)))] [] [] [] [(false, [.bool])] 
            (.done (.bool (.var 21)) []))
            (.done (.bool (.tt true)) [])))
           (.done (.bool (.tt false)) []))))))))) 
         (.call 12 [(.val 9)] [] [] [] [(true, [.sl])] 
         (.call 12 [(.val 12)] [] [] [] [(true, [.sl])] 
         (.call 13 [(.agg [(.val 15)])] [] [] [] [(true, [.sl])] 
         (.call 14 [(.loc 13 0), (.agg [(.val 14)])] [13] [[(.val 16)]] [[.sl]] [(false, [.bool])] 
         (.call 15 [(.agg [(.val 17)]), (.agg [(.val 15)])] [] [] [] [(false, [.bool])] 
         (.need (.var 19) [(.cmp .neq (.len 12) (.lit 0))] 
         (.ite (.var 19)
          (.call 16 [(.agg [(.val 14)]), (.int .i64 (.op .rem .i64 (.conv .i64 (.var 4)) (.len 12)))] [] [] [] [(false, [.bool])] 
          (.ite (.var 20)
           (.call 16 [(.agg [(.val 15)]), (.int .i64 (.op .rem .i64 (.conv .i64 (.var 5)) (.len 12)))] [] [] [] [(false, [.bool])] 
           (.done (.bool (.var 21)) []))
           (.done (.bool (.tt true)) [])))
          (.done (.bool (.tt false)) []))))))))))))
      (.ite (.cmp .eql (.var 13) (.lit 1))
       (.load (.tt true) (.fld (.fld (.idx (.var 12) (.op .rem .i64 (.conv .i64 (.var 4)) (.len 12)) 5) 1) 2) [.int .i64] 
       (.store (.fld (.idx (.var 12) (.op .rem .i64 (.conv .i64 (.var 4)) (.len 12)) 5) 1) [(.int .u8 (.lit 2)), (.int .i64 (.lit 0)), (.int .i64 (.var 14)), (.int .i64 (.op .rem .i64 (.conv .i64 (.var 5)) (.len 12)))] 
       (.both 
        (.call 12 [(.val 9)] [] [] [] [(true, [.sl])] 
        (.both 
         (.call 12 [(.val 12)] [] [] [] [(true, [.sl])] 
         (.both 
          (.call 13 [(.agg [(.val 16)])] [] [] [] [(true, [.sl])] 
          (.call 14 [(.loc 13 0), (.agg [(.val 15)])] [13] [[(.val 17)]] [[.sl]] [(false, [.bool])] 
          (.call 15 [(.agg [(.val 18)]), (.agg [(.val 16)])] [] [] [] [(false, [.bool])] 
          (.need (.var 20) [(.cmp .neq (.len 12) (.lit 0))] 
          (.ite (.var 20)
           (.call 16 [(.agg [(.val 15)]), (.int .i64 (.op .rem .i64 (.conv .i64 (.var 4)) (.len 12)))] [] [] [] [(false, [.bool])] 
           (.ite (.var 21)
            (.call 16 [(.agg [(.val 16)]), (.int .i64 (.op .rem .i64 (.conv .i64 (.var 5)) (.len 12)))] [] [] [] [(false, [.bool])] 
            (.done (.bool (.var 22)) []))
            (.done (.bool (.tt true)) [])))
           (.done (.bool (.tt false)) [])))))) 
          (.call 13 [(.agg [(.val 16)])] [] [] [] [(true, [.sl])] 
          (.call 14 [(.loc 13 0), (.agg [(.val 15)])] [13] [[(.val 17)]] [[.sl]] [(false, [.bool])] 
          (.call 15 [(.agg [(.val 18)]), (.agg [(.val 16)])] [] [] [] [(false, [.bool])] 
          (.need (.var 20) [(.cmp .neq (.len 12) (.lit 0))] 
          (.ite (.var 20)
           (.call 16 [(.agg [(.val 15)]), (.int .i64 (.op .rem .i64 (.conv .i64 (.var 4)) (.len 12)))] [] [] [] [(false, [.bool])] 
           (.ite (.var 21)
            (.call 16 [(.agg [(.val 16)]), (.int .i64 (.op .rem .i64 (.conv .i64 (.var 5)) (.len 12)))] [] [] [] [(false, [.bool])] 
            (.done (.bool (.var 22)) []))
            (.done (.bool (.tt true)) [])))
           (.done (.bool (.tt false)) [])))))))) 
         (.both 
          (.both 
           (.call 12 [(.val 12)] [] [] [] [(true, [.sl])] 
           (.call 13 [(.agg [(.val 16)])] [] [] [] [(true, [.sl])] 
           (.call 14 [(.loc 13 0), (.agg [(.val 15)])] [13] [[(.val 17)]] [[.sl]] [(false, [.bool])] 
           (.call 15 [(.agg [(.val 18)]), (.agg [(.val 16)])] [] [] [] [(false, [.bool])] 
           (.need (.var 20) [(.cmp .neq (.len 12) (.lit 0))] 
           (.ite (.var 20)
            (.call 16 [(.agg [(.val 15)]), (.int .i64 (.op .rem .i64 (.conv .i64 (.var 4)) (.len 12)))] [] [] [] [(false, [.bool])] 
            (.ite (.var 21)
             (.call 16 [(.agg [(.val 16)]), (.int .i64 (.op .rem .i64 (.conv .i64 (.var 5)) (.len 12)))] [] [] [] [(false, [.bool])] 
             (.done (.bool (.var 22)) []))
             (.done (.bool (.tt true)) [])))
            (.done (.bool (.tt false)) []))))))) 
           (.call 12 [(.val 12)] [] [] [] [(true, [.sl])] 
           (.call 13 [(.agg [(.val 16)])] [] [] [] [(true, [.sl])] 
           (.call 14 [(.loc 13 0), (.agg [(.val 15)])] [13] [[(.val 17)]] [[.sl]] [(false, [.bool])] 
           (.call 15 [(.agg [(.val 18)]), (.agg [(.val 16)])] [] [] [] [(false, [.bool])] 
           (.need (.var 20) [(.cmp .neq (.len 12) (.lit 0))] 
           (.ite (.var 20)
            (.call 16 [(.agg [(.val 15)]), (.int .i64 (.op .rem .i64 (.conv .i64 (.var 4)) (.len 12)))] [] [] [] [(false, [.bool])] 
            (.ite (.var 21)
             (.call 16 [(.agg [(.val 16)]), (.int .i64 (.op .rem .i64 (.conv .i64 (.var 5)) (.len 12)))] [] [] [] [(false, [.bool])] 
             (.done (.bool (.var 22)) []))
             (.done (.bool (.tt true)) [])))
            (.done (.bool (.tt false)) [])))))))) 
          (.both 
           (.call 12 [(.val 12)] [] [] [] [(true, [.sl])] 
           (.call 13 [(.agg [(.val 16)])] [] [] [] [(true, [.sl])] 
           (.call 14 [(.loc 13 0), (.agg [(.val 15)])] [13] [[(.val 17)]] [[.sl]] [(false, [.bool])] 
           (.call 15 [(.agg [(.val 18)]), (.agg [(.val 16)])] [] [] [] [(false, [.bool])] 
           (.need (.var 20) [(.cmp .neq (.len 12) (.lit 0))] 
           (.ite (.var 20)
            (.call 16 [(.agg [(.val 15)]), (.int .i64 (.op .rem .i64 (.conv .i64 (.var 4)) (.len 12)))] [] [] [] [(false, [.bool])] 
            (.ite (.var 21)
             (.call 16 [(.agg [(.val 16)]), (.int .i64 (.op .rem .i64 (.conv .i64 (.var 5)) (.len 12)))] [] [] [] [(false, [.bool])] 
             (.done (.bool (.var 22)) []))
             (.done (.bool (.tt true)) [])))
            (.done (.bool (.tt false)) []))))))) 
           (.call 12 [(.val 12)] [] [] [] [(true, [.sl])] 
           (.call 13 [(.agg [(.val 16)])] [] [] [] [(true, [.sl])] 
           (.call 14 [(.loc 13 0), (.agg [(.val 15)])] [13] [[(.val 17)]] [[.sl]] [(false, [.bool])] 
           (.call 15 [(.agg [(.val 18)]), (.agg [(.val 16)])] [] [] [] [(false, [.bool])] 
           (.need (.var 20) [(.cmp .neq (.len 12) (.lit 0))] 
           (.ite (.var 20)
            (.call 16 [(.agg [(.val 15)]), (.int .i64 (.op .rem .i64 (.conv .i64 (.var 4)) (.len 12)))] [] [] [] [(false, [.bool])] 
            (.ite (.var 21)
             (.call 16 [(.agg [(.val 16)]), (.int .i64 (.op .rem .i64 (.conv .i64 (.var 5)) (.len 12)))] [] [] [] [(false, [.bool])] 
             (.done (.bool (.var 22)) []))
             (.done (.bool (.tt true)) [])))
            (.done (.bool (.tt false)) []))))))))))) 
        (.both 
         (.both 
          (.call 12 [(.val 9)] [] [] [] [(true, [.sl])] 
          (.both 
           (.call 12 [(.val 12)] [] [] [] [(true, [.sl])] 
           (.call 13 [(.agg [(.val 16)])] [] [] [] [(true, [.sl])] 
           (.call 14 [(.loc 13 0), (.agg [(.val 15)])] [13] [[(.val 17)]] [[.sl]] [(false, [.bool])] 
           (.call 15 [(.agg [(.val 18)]), (.agg [(.val 16)])] [] [] [] [(false, [.bool])] 
           (.need (.var 20) [(.cmp .neq (.len 12) (.lit 0))] 
           (.ite (.var 20)
            (.call 16 [(.agg [(.val 15)]), (.int .i64 (.op .rem .i64 (.conv .i64 (.var 4)) (.len 12)))] [] [] [] [(false, [.bool])] 
            (.ite (.var 21)
             (.call 16 [(.agg [(.val 16)]), (.int .i64 (.op .rem .i64 (.conv .i64 (.var 5)) (.len 12)))] [] [] [] [(false, [.bool])] 
             (.done (.bool (.var 22)) []))
             (.done (.bool (.tt true)) [])))
            (.done (.bool (.tt false)) []))))))) 
           (.call 12 [(.val 12)] [] [] [] [(true, [.sl])] 
           (.call 13 [(.agg [(.val 16)])] [] [] [] [(true, [.sl])] 
           (.call 14 [(.loc 13 0), (.agg [(.val 15)])] [13] [[(.val 17)]] [[.sl]] [(false, [.bool])] 
           (.call 15 [(.agg [(.val 18)]), (.agg [(.val 16)])] [] [] [] [(false, [.bool])] 
           (.need (.var 20) [(.cmp .neq (.len 12) (.lit 0))] 
           (.ite (.var 20)
            (.call 16 [(.agg [(.val 15)]), (.int .i64 (.op .rem .i64 (.conv .i64 (.var 4)) (.len 12)))] [] [] [] [(false, [.bool])] 
            (.ite (.var 21)
             (.call 16 [(.agg [(.val 16)]), (.int .i64 (.op .rem .i64 (.conv .i64 (.var 5)) (.len 12)))] [] [] [] [(false, [.bool])] 
             (.done (.bool (.var 22)) []))
             (.done (.bool (.tt true)) [])))
            (.done (.bool (.tt false)) []))))))))) 
          (.call 12 [(.val 9)] [] [] [] [(true, [.sl])] 
          (.call 12 [(.val 12)] [] [] [] [(true, [.sl])] 
          (.call 13 [(.agg [(.val 16)])] [] [] [] [(true, [.sl])] 
          (.call 14 [(.loc 13 0), (.agg [(.val 15)])] [13] [[(.val 17)]] [[.sl]] [(false, [.bool])] 
          (.call 15 [(.agg [(.val 18)]), (.agg [(.val 16)])] [] [] [] [(false, [.bool])] 
          (.need (.var 20) [(.cmp .neq (.len 12) (.lit 0))] 
          (.ite (.var 20)
           (.call 16 [(.agg [(.val 15)]), (.int .i64 (.op .rem .i64 (.conv .i64 (.var 4)) (.len 12)))] [] [] [] [(false, [.bool])] 
           (.ite (.var 21)
            (.call 16 [(.agg [(.val 16)]), (.int .i64 (.op .rem .i64 (.conv .i64 (.var 5)) (.len 12)))] [] [] [] [(false, [.bool])] 
            (.done (.bool (.var 22)) []))
            (.done (.bool (.tt true)) [])))
           (.done (.bool (.tt false)) []))))))))) 
         (.both 
          (.call 12 [(.val 9)] [] [] [] [(true, [.sl])] 
          (.both 
           (.call 12 [(.val 12)] [] [] [] [(true, [.sl])] 
           (.call 13 [(.agg [(.val 16)])] [] [] [] [(true, [.sl])] 
           (.call 14 [(.loc 13 0), (.agg [(.val 15)])] [13] [[(.val 17)]] [[.sl]] [(false, [.bool])] 
           (.call 15 [(.agg [(.val 18)]), (.agg [(.val 16)])] [] [] [] [(false, [.bool])] 
           (.need (.var 20) [(.cmp .neq (.len 12) (.lit 0))] 
           (.ite (.var 20)
            (.call 16 [(.agg [(.val 15)]), (.int .i64 (.op .rem .i64 (.conv .i64 (.var 4)) (.len 12)))] [] [] [] [(false, [.bool])] 
            (.ite (.var 21)
             (.call 16 [(.agg [(.val 16)]), (.int .i64 (.op .rem .i64 (.conv .i64 (.var 5)) (.len 12)))] [] [] [] [(false, [.bool])] 
             (.done (.bool (.var 22)) []))
             (.done (.bool (.tt true)) [])))
            (.done (.bool (.tt false)) []))))))) 
           (.call 12 [(.val 12)] [] [] [] [(true, [.sl])] 
           (.call 13 [(.agg [(.val 16)])] [] [] [] [(true, [.sl])] 
           (.call 14 [(.loc 13 0), (.agg [(.val 15)])] [13] [[(.val 17)]] [[.sl]] [(false, [.bool])] 
           (.call 15 [(.agg [(.val 18)]), (.agg [(.val 16)])] [] [] [] [(false, [.bool])] 
           (.need (.var 20) [(.cmp .neq (.len 12) (.lit 0))] 
           (.ite (.var 20)
            (.call 16 [(.agg [(.val 15)]), (.int .i64 (.op .rem .i64 (.conv .i64 (.var 4)) (.len 12)))] [] [] [] [(false, [.bool])] 
            (.ite (.var 21)
             (.call 16 [(.agg [(.val 16)]), (.int .i64 (.op .rem .i64 (.conv .i64 (.var 5)) (.len 12)))] [] [] [] [(false, [.bool])] 
             (.done (.bool (.var 22)) []))
             (.done (.bool (.tt true)) [])))
            (.done (.bool (.tt false)) []))))))))) 
          (.call 12 [(.val 9)] [] [] [] [(true, [.sl])] 
          (.call 12 [(.val 12)] [] [] [] [(true, [.sl])] 
          (.call 13 [(.agg [(.val 16)])] [] [] [] [(true, [.sl])] 
          (.call 14 [(.loc 13 0), (.agg [(.val 15)])] [13] [[(.val 17)]] [[.sl]] [(false, [.bool])] 
          (.call 15 [(.agg [(.val 18)]), (.agg [(.val 16)])] [] [] [] [(false, [.bool])] 
          (.need (.var 20) [(.cmp .neq (.len 12) (.lit 0))] 
          (.ite (.var 20)
           (.call 16 [(.agg [(.val 15)]), (.int .i64 (.op .rem .i64 (.conv .i64 (.var 4)) (.len 12)))] [] [] [] [(false, [.bool])] 
           (.ite (.var 21)
            (.call 16 [(.agg [(.val 16)]), (.int .i64 (.op .rem .i64 (.conv .i64 (.var 5)) (.len 12)))] [] [] [] [(false, [.bool])] 
            (.done (.bool (.var 22)) []))
            (.done (.bool (.tt true)) [])))
           (.done (.bool (.tt false)) [])))))))))))))
       (.done (.bool (.tt true)) [])))))))
theorem p3_1 : (Out.pF (Out.pK (Out.pF (Out.pK (Out.pF (Out.pE (Out.pK ev3))))))) = pick3 := by kernel_rfl
theorem p3_2 : (Out.pS (Out.pK (Out.pF (Out.pK (Out.pF (Out.pE (Out.pK ev3))))))) = pick3 := by kernel_rfl
theorem p3_3 : (Out.pK (Out.pF (Out.pF (Out.pS (Out.pK (Out.pF (Out.pE (Out.pK ev3)))))))) = pick3 := by kernel_rfl
theorem p3_4 : (Out.pK (Out.pS (Out.pF (Out.pS (Out.pK (Out.pF (Out.pE (Out.pK ev3)))))))) = pick3 := by kernel_rfl
theorem p3_5 : (Out.pK (Out.pF (Out.pS (Out.pS (Out.pK (Out.pF (Out.pE (Out.pK ev3)))))))) = pick3 := by kernel_rfl
theorem p3_6 : (Out.pK (Out.pS (Out.pS (Out.pS (Out.pK (Out.pF (Out.pE (Out.pK ev3)))))))) = pick3 := by kernel_rfl
theorem p3_7 : (Out.pK (Out.pF (Out.pK (Out.pF (Out.pF (Out.pS (Out.pE (Out.pK ev3)))))))) = pick3 := by kernel_rfl
theorem p3_8 : (Out.pK (Out.pS (Out.pK (Out.pF (Out.pF (Out.pS (Out.pE (Out.pK ev3)))))))) = pick3 := by kernel_rfl
theorem p3_9 : (Out.pK (Out.pK (Out.pS (Out.pF (Out.pS (Out.pE (Out.pK ev3))))))) = pick3 := by kernel_rfl
theorem p3_10 : (Out.pK (Out.pF (Out.pK (Out.pF (Out.pS (Out.pS (Out.pE (Out.pK ev3)))))))) = pick3 := by kernel_rfl
theorem p3_11 : (Out.pK (Out.pS (Out.pK (Out.pF (Out.pS (Out.pS (Out.pE (Out.pK ev3)))))))) = pick3 := by kernel_rfl
theorem p3_12 : (Out.pK (Out.pK (Out.pS (Out.pS (Out.pS (Out.pE (Out.pK ev3))))))) = pick3 := by kernel_rfl
end Go.Proofs.YtgcaicdmjbkplaaDoor
