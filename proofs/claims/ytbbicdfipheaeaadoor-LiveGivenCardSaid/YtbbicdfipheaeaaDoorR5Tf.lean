/-
  What the evaluator leaves of the functions of this seat (trees, printed by a program of ours), and their contracts from it. Conditions: none.
-/
import Derived.Test.YtbbicdfipheaeaaDoorR1Tr
set_option linter.unusedVariables false
set_option linter.unusedSimpArgs false
namespace Go.Proofs.YtbbicdfipheaeaaDoor
open Go

/-- What is left of outworker/outworkerlaw11.FlowSets. -/
def t3 : Out :=
 (.call 11 [] [] [] [] [(false, [.bool])] 
 (.ite (.not (.var 7))
  (.done (.bool (.tt false)) [])
  (.call 12 [(.agg [(.int .u8 (.var 0)), (.int .u8 (.var 1)), (.int .u8 (.var 2)), (.val 3)])] [] [] [] [(true, [.int .i64, .int .i64, .sl])] 
  (.call 13 [(.val 10), (.val 4), (.val 5)] [] [] [] [(false, [.sl]), (false, [.sl])] 
  (.alloc 30 [(.cst (.slice none 0 0))] .loc 
  (.alloc 30 [(.cst (.slice none 0 0))] .loc 
  (.store (.var 13) [(.val 11)] 
  (.store (.var 14) [(.val 12)] 
  (.call 14 [(.val 10), (.bool (.var 6))] [] [] [] [(false, [.fn])] 
  (.call 15 [(.agg [(.int .i64 (.len 10)), (.val 15), (.fn (.func 16) [] []), (.fn (.func 17) [] []), (.fn (.func 18) [] [(.ptr (.var 14)), (.ptr (.var 13))])])] [] [] [] [(false, [.sl])] 
  (.ite (.cmp .neq (.len 16) (.len 10))
   (.done (.bool (.tt false)) [])
   (.loop 0 [(.int .i64 (.lit 0))] [.int .i64] 
    (.ite (.cmp .lss (.var 17) (.lit 20))
     (.mk 4 1 1 (.len 10) 
     (.loop 1 [(.int .i64 (.lit 0))] [.int .i64] 
      (.ite (.cmp .lss (.var 19) (.len 10))
       (.loop 2 [(.int .i64 (.lit 0))] [.int .i64] 
        (.ite (.cmp .lss (.var 20) (.len 10))
         (.callv (.val 15) [(.int .i64 (.var 20))] [(false, [.sl])] 
         (.loop 3 [(.int .i64 (.lit 0))] [.int .i64] 
          (.ite (.cmp .lss (.var 22) (.len 21))
           (.need (.tt true) [(.cmp .geq (.var 22) (.lit 0)), (.cmp .lss (.var 22) (.len 21))] 
           (.load (.tt true) (.idx (.var 21) (.var 22) 1) [.int .i64] 
           (.load (.tt true) (.var 13) [.sl] 
           (.need (.tt true) [(.cmp .geq (.var 23) (.lit 0)), (.cmp .lss (.var 23) (.len 24))] 
           (.load (.tt true) (.idx (.var 24) (.var 23) 1) [.sl] 
           (.call 22 [(.val 25), (.int .i64 (.var 17))] [] [] [] [(false, [.bool])] 
           (.need (.not (.var 26)) [(.cmp .geq (.var 23) (.lit 0)), (.cmp .lss (.var 23) (.len 18))] 
           (.load (.not (.var 26)) (.idx (.var 18) (.var 23) 1) [.bool] 
           (.load (.and (.not (.var 26)) (.var 27)) (.var 14) [.sl] 
           (.need (.and (.not (.var 26)) (.var 27)) [(.cmp .geq (.var 23) (.lit 0)), (.cmp .lss (.var 23) (.len 28))] 
           (.load (.and (.not (.var 26)) (.var 27)) (.idx (.var 28) (.var 23) 1) [.sl] 
           (.ite (.not (.var 26))
            (.ite (.var 27)
             (.call 22 [(.val 29), (.int .i64 (.var 17))] [] [] [] [(false, [.bool])] 
             (.ite (.not (.var 30))
              (.need (.tt true) [(.cmp .geq (.var 20) (.lit 0)), (.cmp .lss (.var 20) (.len 18))] 
              (.store (.idx (.var 18) (.var 20) 1) [(.bool (.tt true))] 
              (.again 3 [(.int .i64 (.op .add .i64 (.var 22) (.lit 1)))])))
              (.again 3 [(.int .i64 (.op .add .i64 (.var 22) (.lit 1)))])))
             (.again 3 [(.int .i64 (.op .add .i64 (.var 22) (.lit 1)))]))
            (.need (.tt true) [(.cmp .geq (.var 20) (.lit 0)), (.cmp .lss (.var 20) (.len 18))] 
            (.store (.idx (.var 18) (.var 20) 1) [(.bool (.tt true))] 
            (.again 3 [(.int .i64 (.op .add .i64 (.var 22) (.lit 1)))])))))))))))))))
           (.again 2 [(.int .i64 (.op .add .i64 (.var 20) (.lit 1)))]))))
         (.again 1 [(.int .i64 (.op .add .i64 (.var 19) (.lit 1)))])))
       (.loop 1 [(.int .i64 (.lit 0))] [.int .i64] 
        (.ite (.cmp .lss (.var 20) (.len 10))
         (.need (.tt true) [(.cmp .geq (.var 20) (.lit 0)), (.cmp .lss (.var 20) (.len 16))] 
         (.load (.tt true) (.idx (.var 16) (.var 20) 1) [.sl] 
         (.need (.tt true) [(.cmp .geq (.var 20) (.lit 0)), (.cmp .lss (.var 20) (.len 18))] 
         (.load (.tt true) (.idx (.var 18) (.var 20) 1) [.bool] 
         (.call 23 [(.agg [(.val 21)]), (.int .i64 (.var 17))] [] [] [] [(false, [.bool])] 
         (.still (.tt true) (.idx (.var 18) (.var 20) 1) [(.bool (.var 22))] 
         (.ite (.ite (.var 23) (.not (.var 22)) (.var 22))
          (.done (.bool (.tt false)) [])
          (.again 1 [(.int .i64 (.op .add .i64 (.var 20) (.lit 1)))]))))))))
         (.again 0 [(.int .i64 (.op .add .i64 (.var 17) (.lit 1)))]))))))
     (.done (.bool (.tt true)) []))))))))))))))
def l3 : List (Nat × List Nat × List (Nat × Nat) × List Nat) := [(2000063, [], [(0, 1)], [2]), (10, [46], [], [47, 48, 14, 49, 50, 51, 15, 52, 53, 54, 55, 56, 57, 58, 59, 60, 16, 61, 62, 63, 64, 65, 66, 67, 68, 18, 69, 70, 71, 72, 73, 74, 75, 76, 77, 78, 79, 80, 81, 82, 83, 84, 85, 86, 87, 88, 89, 90, 91, 92, 93, 94, 95, 96, 97, 98, 99, 100, 19, 101, 102, 103, 104, 105, 106, 107, 108, 109, 110, 111, 8, 112, 113]), (14, [54], [], [55, 56, 57, 58, 59, 60, 16, 61, 62, 63, 64, 65, 66, 67, 68, 18, 69, 70, 71, 72, 73, 74, 75, 76, 77, 78, 79, 80, 81, 82, 83, 84, 85, 86, 87, 88, 89, 90, 91, 92, 93, 94, 95]), (16, [58], [], [59, 60, 16, 61, 62, 63, 64, 65, 66, 67, 68, 18, 69, 70, 71, 72, 73, 74, 75, 76, 77, 78, 79, 80, 81, 82, 83, 84, 85, 86, 87, 88, 89, 90, 91, 92, 93, 94]), (19, [65], [], [66, 67, 68, 18, 69, 70, 71, 72, 73, 74, 75, 76, 77, 78, 79, 80, 81, 82, 83, 84, 85, 86, 87, 88, 89, 90, 91, 92, 93]), (27, [98], [], [99, 100, 19, 101, 102, 103, 104, 105, 106, 107, 108, 109, 110, 111, 8, 112])]
theorem e3 : ev Tryd.prog ⟨allF, [11, 10, 1000003], l3⟩ (bodyOf Tryd.f3) 0 (initSt [(.agg [(.int .u8 (.var 0)), (.int .u8 (.var 1)), (.int .u8 (.var 2)), (.val 3)]), (.val 4), (.val 5), (.bool (.var 6))] [] Tryd.f3.ntmps [.int .u8, .int .u8, .int .u8, .sl, .sl, .sl, .bool]) (finK Tryd.prog Tryd.f3.results []) = t3 := by kernel_rfl
theorem c3 {G : List Value} {h : H} {R : Value → List (List Value) → H → Prop} (hG : FitsL [.int .u8, .int .u8, .int .u8, .sl, .sl, .sl, .bool] G) (H : holds Tryd.prog R t3 G [] h) : CallsA Tryd.prog 3 (fun e => SV.denL G (fun k => e (k - 1000000)) [(.agg [(.int .u8 (.var 0)), (.int .u8 (.var 1)), (.int .u8 (.var 2)), (.val 3)]), (.val 4), (.val 5), (.bool (.var 6))]) ([].map (SV.denL G dE)) h R :=
  CallsA.of_ev (cf := ⟨allF, [11, 10, 1000003], l3⟩) (fn := Tryd.f3) (c := bodyOf Tryd.f3) (pcs := []) Tryd.func3 (by rfl) callOK (by rfl) hG (by rfl) (by rw [show ([] : List (List SV)).map List.length = [] from rfl, e3]; exact H)
/-- What is left of outworker/outworkerlaw11.FlowStays. -/
def t4 : Out :=
 (.call 11 [] [] [] [] [(false, [.bool])] 
 (.ite (.not (.var 7))
  (.done (.bool (.tt false)) [])
  (.call 12 [(.agg [(.int .u8 (.var 0)), (.int .u8 (.var 1)), (.int .u8 (.var 2)), (.val 3)])] [] [] [] [(true, [.int .i64, .int .i64, .sl])] 
  (.call 13 [(.val 10), (.val 4), (.val 5)] [] [] [] [(false, [.sl]), (false, [.sl])] 
  (.alloc 30 [(.cst (.slice none 0 0))] .loc 
  (.alloc 30 [(.cst (.slice none 0 0))] .loc 
  (.store (.var 13) [(.val 11)] 
  (.store (.var 14) [(.val 12)] 
  (.call 14 [(.val 10), (.bool (.var 6))] [] [] [] [(false, [.fn])] 
  (.call 15 [(.agg [(.int .i64 (.len 10)), (.val 15), (.fn (.func 24) [] [(.ptr (.var 14))]), (.fn (.func 17) [] []), (.fn (.func 25) [] [(.ptr (.var 14)), (.ptr (.var 13))])])] [] [] [] [(false, [.sl])] 
  (.loop 0 [(.int .i64 (.lit 0))] [.int .i64] 
   (.ite (.cmp .lss (.var 17) (.len 10))
    (.callv (.val 15) [(.int .i64 (.var 17))] [(false, [.sl])] 
    (.loop 1 [(.int .i64 (.lit 0))] [.int .i64] 
     (.ite (.cmp .lss (.var 19) (.len 18))
      (.need (.tt true) [(.cmp .geq (.var 19) (.lit 0)), (.cmp .lss (.var 19) (.len 18))] 
      (.load (.tt true) (.idx (.var 18) (.var 19) 1) [.int .i64] 
      (.need (.tt true) [(.cmp .geq (.var 17) (.lit 0)), (.cmp .lss (.var 17) (.len 16))] 
      (.need (.tt true) [(.cmp .geq (.var 20) (.lit 0)), (.cmp .lss (.var 20) (.len 16))] 
      (.load (.tt true) (.idx (.var 16) (.var 20) 1) [.sl] 
      (.call 25 [(.int .i64 (.var 20)), (.agg [(.val 21)]), (.ptr (.var 14)), (.ptr (.var 13))] [] [] [] [(true, [.sl])] 
      (.call 17 [(.ptr (.idx (.var 16) (.var 17) 1)), (.agg [(.val 22)])] [] [] [] [(false, [.bool])] 
      (.ite (.var 23)
       (.done (.bool (.tt false)) [])
       (.again 1 [(.int .i64 (.op .add .i64 (.var 19) (.lit 1)))])))))))))
      (.call 24 [(.int .i64 (.var 17)), (.ptr (.var 14))] [] [] [] [(true, [.sl])] 
      (.need (.tt true) [(.cmp .geq (.var 17) (.lit 0)), (.cmp .lss (.var 17) (.len 16))] 
      (.call 17 [(.ptr (.idx (.var 16) (.var 17) 1)), (.agg [(.val 20)])] [] [] [] [(false, [.bool])] 
      (.ite (.var 21)
       (.done (.bool (.tt false)) [])
       (.again 0 [(.int .i64 (.op .add .i64 (.var 17) (.lit 1)))]))))))))
    (.done (.bool (.cmp .eql (.len 16) (.len 10))) [])))))))))))))
def l4 : List (Nat × List Nat × List (Nat × Nat) × List Nat) := [(2000048, [], [(0, 1)], [2]), (2000066, [], [(1, 1)], [2]), (2000067, [], [(0, 1)], [0]), (2000072, [], [(1, 1)], [2]), (8, [42], [], [43, 44, 14, 45, 46, 47, 48, 49, 50, 51, 52, 53, 16, 54, 55, 56, 57, 58, 59, 60, 61, 62, 63, 64, 65, 66, 67, 8, 68, 69, 70, 71, 72, 17, 73, 74, 75, 76, 77, 78]), (11, [50], [], [51, 52, 53, 16, 54, 55, 56, 57, 58, 59, 60, 61, 62, 63, 64, 65, 66, 67, 8, 68])]
theorem e4 : ev Tryd.prog ⟨allF, [11, 10], l4⟩ (bodyOf Tryd.f4) 0 (initSt [(.agg [(.int .u8 (.var 0)), (.int .u8 (.var 1)), (.int .u8 (.var 2)), (.val 3)]), (.val 4), (.val 5), (.bool (.var 6))] [] Tryd.f4.ntmps [.int .u8, .int .u8, .int .u8, .sl, .sl, .sl, .bool]) (finK Tryd.prog Tryd.f4.results []) = t4 := by kernel_rfl
theorem c4 {G : List Value} {h : H} {R : Value → List (List Value) → H → Prop} (hG : FitsL [.int .u8, .int .u8, .int .u8, .sl, .sl, .sl, .bool] G) (H : holds Tryd.prog R t4 G [] h) : CallsA Tryd.prog 4 (fun e => SV.denL G (fun k => e (k - 1000000)) [(.agg [(.int .u8 (.var 0)), (.int .u8 (.var 1)), (.int .u8 (.var 2)), (.val 3)]), (.val 4), (.val 5), (.bool (.var 6))]) ([].map (SV.denL G dE)) h R :=
  CallsA.of_ev (cf := ⟨allF, [11, 10], l4⟩) (fn := Tryd.f4) (c := bodyOf Tryd.f4) (pcs := []) Tryd.func4 (by rfl) callOK (by rfl) hG (by rfl) (by rw [show ([] : List (List SV)).map List.length = [] from rfl, e4]; exact H)
end Go.Proofs.YtbbicdfipheaeaaDoor
