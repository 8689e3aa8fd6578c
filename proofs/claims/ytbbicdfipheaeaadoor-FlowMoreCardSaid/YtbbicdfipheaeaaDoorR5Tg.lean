/-
  What the evaluator leaves of the functions of this seat (trees, printed by a program of ours), and their contracts from it. Conditions: none.
-/
import Derived.Test.YtbbicdfipheaeaaDoorR1Tr
set_option linter.unusedVariables false
set_option linter.unusedSimpArgs false
namespace Go.Proofs.YtbbicdfipheaeaaDoor
open Go

/-- What is left of outworker/outworkerlaw11.FlowMore$1. -/
def t26 : Out :=
 (.load (.tt true) (.var 1) [.sl] 
 (.load (.tt true) (.var 2) [.sl] 
 (.call 13 [(.val 4), (.val 0), (.val 5)] [] [] [] [(false, [.sl]), (false, [.sl])] 
 (.alloc 30 [(.cst (.slice none 0 0))] .loc 
 (.alloc 30 [(.cst (.slice none 0 0))] .loc 
 (.store (.var 8) [(.val 6)] 
 (.store (.var 9) [(.val 7)] 
 (.load (.tt true) (.var 1) [.sl] 
 (.load (.tt true) (.var 1) [.sl] 
 (.load (.tt true) (.var 3) [.bool] 
 (.call 14 [(.val 11), (.bool (.var 12))] [] [] [] [(false, [.fn])] 
 (.still (.tt true) (.var 1) [(.val 10)] 
 (.call 15 [(.agg [(.int .i64 (.len 10)), (.val 13), (.fn (.func 27) [] []), (.fn (.func 17) [] []), (.fn (.func 28) [] [(.ptr (.var 9)), (.ptr (.var 8))])])] [] [] [] [(false, [.sl])] 
 (.still (.tt true) (.var 1) [(.val 10)] 
 (.done (.val 14) [])))))))))))))))
def l26 : List (Nat × List Nat × List (Nat × Nat) × List Nat) := []
theorem e26 : ev Tryd.prog ⟨allF, [7, 6], l26⟩ (bodyOf Tryd.f26) 0 (initSt [(.val 0), (.ptr (.var 1)), (.ptr (.var 2)), (.ptr (.var 3))] [] Tryd.f26.ntmps [.sl, .ptr, .ptr, .ptr]) (finK Tryd.prog Tryd.f26.results []) = t26 := by kernel_rfl
theorem c26 {G : List Value} {h : H} {R : Value → List (List Value) → H → Prop} (hG : FitsL [.sl, .ptr, .ptr, .ptr] G) (H : holds Tryd.prog R t26 G [] h) : CallsA Tryd.prog 26 (fun e => SV.denL G (fun k => e (k - 1000000)) [(.val 0), (.ptr (.var 1)), (.ptr (.var 2)), (.ptr (.var 3))]) ([].map (SV.denL G dE)) h R :=
  CallsA.of_ev (cf := ⟨allF, [7, 6], l26⟩) (fn := Tryd.f26) (c := bodyOf Tryd.f26) (pcs := []) Tryd.func26 (by rfl) callOK (by rfl) hG (by rfl) (by rw [show ([] : List (List SV)).map List.length = [] from rfl, e26]; exact H)
/-- What is left of outworker/outworkerlaw11.FlowMore. -/
def t5 : Out :=
 (.alloc 22 [(.val 6)] .loc 
 (.alloc 4 [(.bool (.var 7))] .loc 
 (.call 11 [] [] [] [] [(false, [.bool])] 
 (.ite (.not (.var 10))
  (.done (.bool (.tt false)) [])
  (.call 12 [(.agg [(.int .u8 (.var 0)), (.int .u8 (.var 1)), (.int .u8 (.var 2)), (.val 3)])] [] [] [] [(true, [.int .i64, .int .i64, .sl])] 
  (.alloc 26 [(.cst (.slice none 0 0))] .loc 
  (.store (.var 14) [(.val 13)] 
  (.ite (.cmp .gtr (.len 4) (.lit 15))
   (.done (.bool (.tt true)) [])
   (.call 26 [(.val 4), (.ptr (.var 14)), (.ptr (.var 8)), (.ptr (.var 9))] [] [] [] [(false, [.sl])] 
   (.alloc 5 [] (.lsl 0) 
   (.app 5 1 1 (.val 16) (.sl (.val 4)) 
   (.app 5 1 1 (.val 17) (.sl (.val 5)) 
   (.call 26 [(.val 18), (.ptr (.var 14)), (.ptr (.var 8)), (.ptr (.var 9))] [] [] [] [(false, [.sl])] 
   (.load (.tt true) (.var 14) [.sl] 
   (.loop 0 [(.int .i64 (.lit 0))] [.int .i64] 
    (.ite (.cmp .lss (.var 21) (.len 20))
     (.need (.tt true) [(.cmp .geq (.var 21) (.lit 0)), (.cmp .lss (.var 21) (.len 19))] 
     (.need (.tt true) [(.cmp .geq (.var 21) (.lit 0)), (.cmp .lss (.var 21) (.len 15))] 
     (.load (.tt true) (.idx (.var 15) (.var 21) 1) [.sl] 
     (.call 17 [(.ptr (.idx (.var 19) (.var 21) 1)), (.agg [(.val 22)])] [] [] [] [(false, [.bool])] 
     (.ite (.var 23)
      (.done (.bool (.tt false)) [])
      (.again 0 [(.int .i64 (.op .add .i64 (.var 21) (.lit 1)))]))))))
     (.load (.tt true) (.var 14) [.sl] 
     (.load (.cmp .eql (.len 15) (.len 22)) (.var 14) [.sl] 
     (.done (.bool (.ite (.cmp .eql (.len 15) (.len 22)) (.cmp .eql (.len 19) (.len 23)) (.tt false))) [])))))))))))))))))))
def l5 : List (Nat × List Nat × List (Nat × Nat) × List Nat) := [(2000027, [], [(0, 1)], [2]), (2000034, [], [(0, 1)], [2]), (9, [37], [], [38, 39, 15, 40, 41, 42, 43, 44, 45, 46, 47, 10, 48])]
theorem e5 : ev Tryd.prog ⟨allF, [29, 11, 8, 9], l5⟩ (bodyOf Tryd.f5) 0 (initSt [(.agg [(.int .u8 (.var 0)), (.int .u8 (.var 1)), (.int .u8 (.var 2)), (.val 3)]), (.val 4), (.val 5), (.val 6), (.bool (.var 7))] [] Tryd.f5.ntmps [.int .u8, .int .u8, .int .u8, .sl, .sl, .sl, .sl, .bool]) (finK Tryd.prog Tryd.f5.results []) = t5 := by kernel_rfl
theorem c5 {G : List Value} {h : H} {R : Value → List (List Value) → H → Prop} (hG : FitsL [.int .u8, .int .u8, .int .u8, .sl, .sl, .sl, .sl, .bool] G) (H : holds Tryd.prog R t5 G [] h) : CallsA Tryd.prog 5 (fun e => SV.denL G (fun k => e (k - 1000000)) [(.agg [(.int .u8 (.var 0)), (.int .u8 (.var 1)), (.int .u8 (.var 2)), (.val 3)]), (.val 4), (.val 5), (.val 6), (.bool (.var 7))]) ([].map (SV.denL G dE)) h R :=
  CallsA.of_ev (cf := ⟨allF, [29, 11, 8, 9], l5⟩) (fn := Tryd.f5) (c := bodyOf Tryd.f5) (pcs := []) Tryd.func5 (by rfl) callOK (by rfl) hG (by rfl) (by rw [show ([] : List (List SV)).map List.length = [] from rfl, e5]; exact H)
end Go.Proofs.YtbbicdfipheaeaaDoor
