/-
  What the evaluator leaves of the functions of this seat (trees, printed by a program of ours), and their contracts from it. Conditions: none.
-/
import Derived.Test.YtgcaicdmjbkplaaEc
import Derived.Test.YtgcaicdmjbkplaaProg
set_option linter.unusedVariables false
set_option linter.unusedSimpArgs false
namespace Go.Proofs.Ytgcaicdmjbkplaa
open Go

def bodyOf (fn : Func) : Code := match fn.body with | some c => c | none => .seq (.exit 0) (.exit 0)
def allF : List Nat := [2, 3, 4, 5, 6, 7, 8, 9, 10, 11, 12, 13, 14, 15, 16, 17, 18, 19, 20, 21, 22, 23, 24, 25, 26, 27, 28, 29]
theorem callOK : CallOK Try.prog allF := by
  intro f hf args w
  simp only [allF, List.mem_cons, List.not_mem_nil, or_false] at hf
  rcases hf with rfl | rfl | rfl | rfl | rfl | rfl | rfl | rfl | rfl | rfl | rfl | rfl | rfl | rfl | rfl | rfl | rfl | rfl | rfl | rfl | rfl | rfl | rfl | rfl | rfl | rfl | rfl | rfl
  · exact Try.call2 args w
  · exact Try.call3 args w
  · exact Try.call4 args w
  · exact Try.call5 args w
  · exact Try.call6 args w
  · exact Try.call7 args w
  · exact Try.call8 args w
  · exact Try.call9 args w
  · exact Try.call10 args w
  · exact Try.call11 args w
  · exact Try.call12 args w
  · exact Try.call13 args w
  · exact Try.call14 args w
  · exact Try.call15 args w
  · exact Try.call16 args w
  · exact Try.call17 args w
  · exact Try.call18 args w
  · exact Try.call19 args w
  · exact Try.call20 args w
  · exact Try.call21 args w
  · exact Try.call22 args w
  · exact Try.call23 args w
  · exact Try.call24 args w
  · exact Try.call25 args w
  · exact Try.call26 args w
  · exact Try.call27 args w
  · exact Try.call28 args w
  · exact Try.call29 args w
/-- What is left of outworker/outworkerlaw10.PathsRuns. -/
def t3 : Out :=
 (.call 6 [] [] [] [] [(false, [.bool])] 
 (.ite (.not (.var 5))
  (.done (.bool (.tt false)) [])
  (.call 7 [(.agg [(.int .u8 (.var 0)), (.int .u8 (.var 1)), (.int .u8 (.var 2)), (.val 3)])] [] [] [] [(true, [.int .i64, .int .i64, .sl])] 
  (.call 8 [(.val 8)] [] [] [] [(true, [.sl])] 
  (.loop 0 [(.int .i64 (.lit 0)), (.int .i64 (.lit 0))] [.int .i64, .int .i64] 
   (.ite (.cmp .lss (.var 11) (.len 4))
    (.need (.tt true) [(.cmp .geq (.var 11) (.lit 0)), (.cmp .lss (.var 11) (.len 4))] 
    (.load (.tt true) (.idx (.var 4) (.var 11) 1) [.bool] 
    (.ite (.not (.cmp .gtr (.var 11) (.lit 100)))
     (.call 9 [(.agg [(.val 9)]), (.int .i64 (.var 10))] [] [] [] [(false, [.bool])] 
     (.ite (.not (.var 13))
      (.call 9 [(.agg [(.val 9)]), (.int .i64 (.var 10))] [] [] [] [(false, [.bool])] 
      (.done (.bool (.var 14)) []))
      (.need (.tt true) [(.cmp .geq (.var 10) (.lit 0)), (.cmp .lss (.var 10) (.len 8))] 
      (.load (.tt true) (.fld (.idx (.var 8) (.var 10) 5) 1) [.int .u8, .int .i64, .int .i64, .int .i64] 
      (.call 10 [(.agg [(.int .u8 (.var 14)), (.int .i64 (.var 15)), (.int .i64 (.var 16)), (.int .i64 (.var 17))])] [] [] [] [(false, [.sl])] 
      (.ite (.cmp .eql (.len 18) (.lit 0))
       (.call 9 [(.agg [(.val 9)]), (.int .i64 (.var 10))] [] [] [] [(false, [.bool])] 
       (.done (.bool (.var 19)) []))
       (.need (.tt true) [(.tt true), (.cmp .lss (.lit 0) (.len 18))] 
       (.load (.tt true) (.idx (.var 18) (.lit 0) 1) [.int .i64] 
       (.ite (.var 12)
        (.need (.tt true) [(.cmp .geq (.op .sub .i64 (.len 18) (.lit 1)) (.lit 0)), (.cmp .lss (.op .sub .i64 (.len 18) (.lit 1)) (.len 18))] 
        (.load (.tt true) (.idx (.var 18) (.op .sub .i64 (.len 18) (.lit 1)) 1) [.int .i64] 
        (.call 11 [(.val 8)] [] [] [] [(false, [.sl])] 
        (.need (.tt true) [(.cmp .geq (.var 20) (.lit 0)), (.cmp .lss (.var 20) (.len 21))] 
        (.load (.tt true) (.idx (.var 21) (.var 20) 1) [.sl] 
        (.loop 1 [(.bool (.tt false)), (.int .i64 (.lit 0))] [.bool, .int .i64] 
         (.ite (.cmp .lss (.var 24) (.len 22))
          (.need (.tt true) [(.cmp .geq (.var 24) (.lit 0)), (.cmp .lss (.var 24) (.len 22))] 
          (.load (.tt true) (.idx (.var 22) (.var 24) 1) [.int .i64] 
          (.again 1 [(.bool (.ite (.var 23) (.tt true) (.cmp .eql (.var 25) (.var 10)))), (.int .i64 (.op .add .i64 (.var 24) (.lit 1)))])))
          (.ite (.not (.var 23))
           (.done (.bool (.tt false)) [])
           (.again 0 [(.int .i64 (.var 20)), (.int .i64 (.op .add .i64 (.var 11) (.lit 1)))])))))))))
        (.call 11 [(.val 8)] [] [] [] [(false, [.sl])] 
        (.need (.tt true) [(.cmp .geq (.var 19) (.lit 0)), (.cmp .lss (.var 19) (.len 20))] 
        (.load (.tt true) (.idx (.var 20) (.var 19) 1) [.sl] 
        (.loop 1 [(.bool (.tt false)), (.int .i64 (.lit 0))] [.bool, .int .i64] 
         (.ite (.cmp .lss (.var 23) (.len 21))
          (.need (.tt true) [(.cmp .geq (.var 23) (.lit 0)), (.cmp .lss (.var 23) (.len 21))] 
          (.load (.tt true) (.idx (.var 21) (.var 23) 1) [.int .i64] 
          (.again 1 [(.bool (.ite (.var 22) (.tt true) (.cmp .eql (.var 24) (.var 10)))), (.int .i64 (.op .add .i64 (.var 23) (.lit 1)))])))
          (.ite (.not (.var 22))
           (.done (.bool (.tt false)) [])
           (.again 0 [(.int .i64 (.var 19)), (.int .i64 (.op .add .i64 (.var 11) (.lit 1)))]))))))))))))))))
     (.call 9 [(.agg [(.val 9)]), (.int .i64 (.var 10))] [] [] [] [(false, [.bool])] 
     (.done (.bool (.var 13)) [])))))
    (.call 9 [(.agg [(.val 9)]), (.int .i64 (.var 10))] [] [] [] [(false, [.bool])] 
    (.done (.bool (.var 12)) []))))))))
def l3 : List (Nat × List Nat × List (Nat × Nat) × List Nat) := [(7, [7, 24], [], [25, 26, 27, 28, 8, 9, 29, 30, 31, 32, 33, 34, 35, 36, 37, 38, 39, 40, 41, 42, 10, 43, 44, 45, 46, 47, 48, 11, 49, 50, 51, 52, 53, 54, 55, 12, 56, 57, 58, 59, 60, 61, 62, 63, 64, 65, 14, 66, 67, 68, 69, 70, 71, 72, 73, 74, 4, 75, 76]), (17, [12, 62], [], [63, 64, 65, 14, 66, 67, 68, 69, 70, 71, 72])]
theorem e3 : ev Try.prog ⟨allF, [], l3⟩ (bodyOf Try.f3) 0 (initSt [(.agg [(.int .u8 (.var 0)), (.int .u8 (.var 1)), (.int .u8 (.var 2)), (.val 3)]), (.val 4)] [] Try.f3.ntmps [.int .u8, .int .u8, .int .u8, .sl, .sl]) (finK Try.prog Try.f3.results []) = t3 := by kernel_rfl
theorem c3 {G : List Value} {h : H} {R : Value → List (List Value) → H → Prop} (hG : FitsL [.int .u8, .int .u8, .int .u8, .sl, .sl] G) (H : holds Try.prog R t3 G [] h) : CallsA Try.prog 3 (fun e => SV.denL G (fun k => e (k - 1000000)) [(.agg [(.int .u8 (.var 0)), (.int .u8 (.var 1)), (.int .u8 (.var 2)), (.val 3)]), (.val 4)]) ([].map (SV.denL G dE)) h R :=
  CallsA.of_ev (cf := ⟨allF, [], l3⟩) (fn := Try.f3) (c := bodyOf Try.f3) (pcs := []) Try.func3 (by rfl) callOK (by rfl) hG (by rfl) (by rw [show ([] : List (List SV)).map List.length = [] from rfl, e3]; exact H)
/-- What is left of outworker/outworkerlaw10.PathsAll. -/
def t4 : Out :=
 (.call 6 [] [] [] [] [(false, [.bool])] 
 (.ite (.not (.var 4))
  (.done (.bool (.tt false)) [])
  (.call 7 [(.agg [(.int .u8 (.var 0)), (.int .u8 (.var 1)), (.int .u8 (.var 2)), (.val 3)])] [] [] [] [(true, [.int .i64, .int .i64, .sl])] 
  (.call 11 [(.val 7)] [] [] [] [(false, [.sl])] 
  (.call 8 [(.val 7)] [] [] [] [(true, [.sl])] 
  (.call 12 [(.val 7)] [] [] [] [(false, [.sl])] 
  (.ite (.not (.cmp .neq (.len 8) (.len 7)))
   (.call 14 [(.val 7)] [] [] [] [(false, [.sl])] 
   (.call 15 [(.val 7)] [] [] [] [(false, [.sl])] 
   (.call 13 [(.val 11), (.val 12)] [] [] [] [(false, [.bool])] 
   (.ite (.not (.var 13))
    (.done (.bool (.tt false)) [])
    (.loop 0 [(.int .i64 (.lit 0)), (.int .i64 (.lit 0))] [.int .i64, .int .i64] 
     (.ite (.cmp .lss (.var 15) (.len 7))
      (.need (.tt true) [(.cmp .geq (.var 15) (.lit 0)), (.cmp .lss (.var 15) (.len 10))] 
      (.load (.tt true) (.idx (.var 10) (.var 15) 1) [.bool] 
      (.need (.tt true) [(.cmp .geq (.var 15) (.lit 0)), (.cmp .lss (.var 15) (.len 8))] 
      (.load (.tt true) (.idx (.var 8) (.var 15) 1) [.sl] 
      (.call 16 [(.val 7), (.int .i64 (.var 15))] [] [] [] [(false, [.sl])] 
      (.still (.tt true) (.idx (.var 8) (.var 15) 1) [(.val 17)] 
      (.call 13 [(.val 17), (.val 18)] [] [] [] [(false, [.bool])] 
      (.need (.var 19) [(.cmp .geq (.var 15) (.lit 0)), (.cmp .lss (.var 15) (.len 7))] 
      (.load (.var 19) (.fld (.idx (.var 7) (.var 15) 5) 1) [.int .u8, .int .i64, .int .i64, .int .i64] 
      (.need (.var 19) [(.cmp .geq (.var 15) (.lit 0)), (.cmp .lss (.var 15) (.len 7))] 
      (.load (.var 19) (.fld (.idx (.var 7) (.var 15) 5) 1) [.int .u8, .int .i64, .int .i64, .int .i64] 
      (.ite (.var 19)
       (.call 10 [(.agg [(.int .u8 (.var 20)), (.int .i64 (.var 21)), (.int .i64 (.var 22)), (.int .i64 (.var 23))])] [] [] [] [(false, [.sl])] 
       (.still (.var 19) (.fld (.idx (.var 7) (.var 15) 5) 1) [(.int .u8 (.var 24)), (.int .i64 (.var 25)), (.int .i64 (.var 26)), (.int .i64 (.var 27))] 
       (.call 17 [(.agg [(.int .u8 (.var 24)), (.int .i64 (.var 25)), (.int .i64 (.var 26)), (.int .i64 (.var 27))])] [] [] [] [(false, [.sl])] 
       (.call 13 [(.val 28), (.val 29)] [] [] [] [(false, [.bool])] 
       (.need (.var 30) [(.cmp .geq (.var 15) (.lit 0)), (.cmp .lss (.var 15) (.len 10))] 
       (.load (.var 30) (.idx (.var 10) (.var 15) 1) [.bool] 
       (.ite (.var 30)
        (.call 9 [(.agg [(.val 9)]), (.int .i64 (.var 15))] [] [] [] [(false, [.bool])] 
        (.still (.var 30) (.idx (.var 10) (.var 15) 1) [(.bool (.var 31))] 
        (.ite (.ite (.var 32) (.not (.var 31)) (.var 31))
         (.done (.bool (.tt false)) [])
         (.again 0 [(.int .i64 (.ite (.var 16) (.op .add .i64 (.var 14) (.lit 1)) (.var 14))), (.int .i64 (.op .add .i64 (.var 15) (.lit 1)))]))))
        (.done (.bool (.tt false)) []))))))))
       (.done (.bool (.tt false)) [])))))))))))))
      (.call 18 [(.agg [(.val 9)])] [] [] [] [(false, [.int .i64])] 
      (.done (.bool (.cmp .eql (.var 16) (.var 14))) []))))))))
   (.done (.bool (.tt false)) []))))))))
def l4 : List (Nat × List Nat × List (Nat × Nat) × List Nat) := [(9, [7, 35], [], [36, 37, 8, 38, 39, 40, 41, 42, 43, 44, 45, 46, 47, 48, 49, 50, 51, 52, 53, 54, 55, 56, 57, 58, 59, 60, 61, 62, 63, 64, 65, 66, 67, 68, 69, 70, 71, 72, 73, 74, 75, 76, 77, 78, 2, 79])]
theorem e4 : ev Try.prog ⟨allF, [], l4⟩ (bodyOf Try.f4) 0 (initSt [(.agg [(.int .u8 (.var 0)), (.int .u8 (.var 1)), (.int .u8 (.var 2)), (.val 3)])] [] Try.f4.ntmps [.int .u8, .int .u8, .int .u8, .sl]) (finK Try.prog Try.f4.results []) = t4 := by kernel_rfl
theorem c4 {G : List Value} {h : H} {R : Value → List (List Value) → H → Prop} (hG : FitsL [.int .u8, .int .u8, .int .u8, .sl] G) (H : holds Try.prog R t4 G [] h) : CallsA Try.prog 4 (fun e => SV.denL G (fun k => e (k - 1000000)) [(.agg [(.int .u8 (.var 0)), (.int .u8 (.var 1)), (.int .u8 (.var 2)), (.val 3)])]) ([].map (SV.denL G dE)) h R :=
  CallsA.of_ev (cf := ⟨allF, [], l4⟩) (fn := Try.f4) (c := bodyOf Try.f4) (pcs := []) Try.func4 (by rfl) callOK (by rfl) hG (by rfl) (by rw [show ([] : List (List SV)).map List.length = [] from rfl, e4]; exact H)
/-- What is left of outworker/outworkerlaw10.PathsOrder. -/
def t5 : Out :=
 (.call 6 [] [] [] [] [(false, [.bool])] 
 (.ite (.not (.var 4))
  (.done (.bool (.tt false)) [])
  (.call 7 [(.agg [(.int .u8 (.var 0)), (.int .u8 (.var 1)), (.int .u8 (.var 2)), (.val 3)])] [] [] [] [(true, [.int .i64, .int .i64, .sl])] 
  (.call 14 [(.val 7)] [] [] [] [(false, [.sl])] 
  (.call 11 [(.val 7)] [] [] [] [(false, [.sl])] 
  (.call 8 [(.val 7)] [] [] [] [(true, [.sl])] 
  (.mkMap 
  (.loop 0 [(.int .i64 (.lit 0))] [.int .i64] 
   (.ite (.cmp .lss (.var 12) (.len 8))
    (.need (.tt true) [(.cmp .geq (.var 12) (.lit 0)), (.cmp .lss (.var 12) (.len 8))] 
    (.load (.tt true) (.idx (.var 8) (.var 12) 1) [.int .i64] 
    (.need (.tt true) [(.cmp .geq (.var 13) (.lit 0)), (.cmp .lss (.var 13) (.len 9))] 
    (.load (.tt true) (.idx (.var 9) (.var 13) 1) [.sl] 
    (.loop 1 [(.bool (.ite (.cmp .eql (.var 12) (.lit 0)) (.cmp .eql (.var 13) (.lit 0)) (.tt false))), (.int .i64 (.lit 0))] [.bool, .int .i64] 
     (.ite (.cmp .lss (.var 16) (.len 14))
      (.need (.tt true) [(.cmp .geq (.var 16) (.lit 0)), (.cmp .lss (.var 16) (.len 14))] 
      (.load (.tt true) (.idx (.var 14) (.var 16) 1) [.int .i64] 
      (.ite (.not (.var 15))
       (.look (.int .i64) .bool (.bool false) (.val 11) (.int .i64 (.var 17)) 
       (.again 1 [(.bool (.var 18)), (.int .i64 (.op .add .i64 (.var 16) (.lit 1)))]))
       (.again 1 [(.bool (.tt true)), (.int .i64 (.op .add .i64 (.var 16) (.lit 1)))]))))
      (.look (.int .i64) .bool (.bool false) (.val 11) (.int .i64 (.var 13)) 
      (.ite (.not (.ite (.var 17) (.tt true) (.not (.var 15))))
       (.call 9 [(.agg [(.val 10)]), (.int .i64 (.var 13))] [] [] [] [(false, [.bool])] 
       (.ite (.not (.var 19))
        (.done (.bool (.tt false)) [])
        (.mupd (.int .i64) (.val 11) (.int .i64 (.var 13)) (.bool (.tt true)) 
        (.again 0 [(.int .i64 (.op .add .i64 (.var 12) (.lit 1)))]))))
       (.done (.bool (.tt false)) [])))))))))
    (.call 18 [(.agg [(.val 10)])] [] [] [] [(false, [.int .i64])] 
    (.done (.bool (.cmp .eql (.len 8) (.var 13))) [])))))))))))
def l5 : List (Nat × List Nat × List (Nat × Nat) × List Nat) := [(8, [27], [], [28, 29, 30, 31, 8, 9, 32, 33, 34, 35, 36, 37, 10, 38, 39, 40, 41, 42, 43, 44, 45, 46, 12, 47, 48, 49, 50, 51, 52, 53, 54, 55, 56, 57, 58, 59, 60, 61, 62, 63, 64, 65, 66, 2, 67, 68, 69]), (12, [10, 43], [], [44, 45, 46, 12, 47, 48, 49, 50, 51, 52, 53])]
theorem e5 : ev Try.prog ⟨allF, [], l5⟩ (bodyOf Try.f5) 0 (initSt [(.agg [(.int .u8 (.var 0)), (.int .u8 (.var 1)), (.int .u8 (.var 2)), (.val 3)])] [] Try.f5.ntmps [.int .u8, .int .u8, .int .u8, .sl]) (finK Try.prog Try.f5.results []) = t5 := by kernel_rfl
theorem c5 {G : List Value} {h : H} {R : Value → List (List Value) → H → Prop} (hG : FitsL [.int .u8, .int .u8, .int .u8, .sl] G) (H : holds Try.prog R t5 G [] h) : CallsA Try.prog 5 (fun e => SV.denL G (fun k => e (k - 1000000)) [(.agg [(.int .u8 (.var 0)), (.int .u8 (.var 1)), (.int .u8 (.var 2)), (.val 3)])]) ([].map (SV.denL G dE)) h R :=
  CallsA.of_ev (cf := ⟨allF, [], l5⟩) (fn := Try.f5) (c := bodyOf Try.f5) (pcs := []) Try.func5 (by rfl) callOK (by rfl) hG (by rfl) (by rw [show ([] : List (List SV)).map List.length = [] from rfl, e5]; exact H)
/-- What is left of outworker/outworkerlaw10.Awake. -/
def t6 : Out :=
 (.alloc 43 [(.cst (.slice none 0 0)), (.int .u8 (.lit 2)), (.int .i64 (.lit 0)), (.int .i64 (.lit 2)), (.int .i64 (.lit 1)), (.cst (.slice none 0 0)), (.int .u8 (.lit 1)), (.int .i64 (.lit 0)), (.int .i64 (.lit 3)), (.int .i64 (.lit 0)), (.cst (.slice none 0 0)), (.int .u8 (.lit 1)), (.int .i64 (.lit 0)), (.int .i64 (.lit 3)), (.int .i64 (.lit 0)), (.cst (.slice none 0 0)), (.int .u8 (.lit 3)), (.int .i64 (.lit 0)), (.int .i64 (.lit 0)), (.int .i64 (.lit 0))] (.lsl 4) 
 (.call 14 [(.val 0)] [] [] [] [(false, [.sl])] 
 (.alloc 3 [(.int .i64 (.lit 0)), (.int .i64 (.lit 1)), (.int .i64 (.lit 2)), (.int .i64 (.lit 3))] (.lsl 4) 
 (.call 13 [(.val 1), (.val 2)] [] [] [] [(false, [.bool])] 
 (.ite (.var 3)
  (.call 11 [(.val 0)] [] [] [] [(false, [.sl])] 
  (.need (.tt true) [(.tt true), (.cmp .lss (.lit 3) (.len 4))] 
  (.load (.tt true) (.idx (.var 4) (.lit 3) 1) [.sl] 
  (.alloc 3 [(.int .i64 (.lit 1)), (.int .i64 (.lit 2))] (.lsl 2) 
  (.call 13 [(.val 5), (.val 6)] [] [] [] [(false, [.bool])] 
  (.done (.bool (.var 7)) []))))))
  (.done (.bool (.tt false)) []))))))
def l6 : List (Nat × List Nat × List (Nat × Nat) × List Nat) := []
theorem e6 : ev Try.prog ⟨allF, [10, 13, 20], l6⟩ (bodyOf Try.f6) 0 (initSt [] [] Try.f6.ntmps []) (finK Try.prog Try.f6.results []) = t6 := by kernel_rfl
theorem c6 {G : List Value} {h : H} {R : Value → List (List Value) → H → Prop} (hG : FitsL [] G) (H : holds Try.prog R t6 G [] h) : CallsA Try.prog 6 (fun e => SV.denL G (fun k => e (k - 1000000)) []) ([].map (SV.denL G dE)) h R :=
  CallsA.of_ev (cf := ⟨allF, [10, 13, 20], l6⟩) (fn := Try.f6) (c := bodyOf Try.f6) (pcs := []) Try.func6 (by rfl) callOK (by rfl) hG (by rfl) (by rw [show ([] : List (List SV)).map List.length = [] from rfl, e6]; exact H)
/-- What is left of outworker/outworkerlaw04.Made. -/
def t7 : Out :=
 (.loop 0 [(.int .i64 (.lit 0)), (.val 3), (.cst (.slice none 0 0))] [.int .i64, .sl, .sl] 
  (.ite (.cmp .lss (.var 4) (.op .add .i64 (.lit 1) (.conv .i64 (.op .rem .u8 (.var 2) (.lit 7)))))
   (.call 19 [(.loc 24 0), (.int .i64 (.lit 9))] [24] [[(.val 5)]] [[.sl]] [(false, [.int .i64])] 
   (.loop 1 [(.int .i64 (.lit 0)), (.cst (.slice none 0 0)), (.val 7)] [.int .i64, .sl, .sl] 
    (.ite (.cmp .lss (.var 9) (.var 8))
     (.call 20 [(.loc 24 0), (.int .i64 (.op .add .i64 (.ite (.cmp .gtr (.lit 1) (.conv .i64 (.op .rem .u8 (.var 0) (.lit 5)))) (.lit 1) (.conv .i64 (.op .rem .u8 (.var 0) (.lit 5)))) (.conv .i64 (.op .rem .u8 (.var 1) (.lit 28)))))] [24] [[(.val 11)]] [[.sl]] [(true, [.int .u8, .int .u8, .int .i64, .int .i64, .int .i64, .int .i64, .sl])] 
     (.app 61 7 64 (.val 10) (.cells [(.int .u8 (.var 13)), (.int .u8 (.var 14)), (.int .i64 (.var 15)), (.int .i64 (.var 16)), (.int .i64 (.var 17)), (.int .i64 (.var 18)), (.val 19)] 1) 
     (.again 1 [(.int .i64 (.op .add .i64 (.var 9) (.lit 1))), (.val 20), (.val 12)])))
     (.call 19 [(.loc 24 0), (.int .i64 (.lit 4))] [24] [[(.val 11)]] [[.sl]] [(false, [.int .i64])] 
     (.ite (.cmp .eql (.var 13) (.lit 1))
      (.call 19 [(.loc 24 0), (.int .i64 (.op .add .i64 (.lit 1) (.conv .i64 (.op .rem .u8 (.var 2) (.lit 7)))))] [24] [[(.val 12)]] [[.sl]] [(false, [.int .i64])] 
      (.app 43 5 56 (.val 6) (.cells [(.val 10), (.int .u8 (.lit 1)), (.int .i64 (.lit 0)), (.int .i64 (.var 15)), (.int .i64 (.lit 0))] 1) 
      (.again 0 [(.int .i64 (.op .add .i64 (.var 4) (.lit 1))), (.val 14), (.val 16)])))
      (.ite (.ite (.cmp .eql (.var 13) (.lit 2)) (.cmp .eql (.var 13) (.lit 2)) (.cmp .eql (.var 13) (.lit 3)))
       (.call 19 [(.loc 24 0), (.int .i64 (.op .add .i64 (.ite (.cmp .gtr (.lit 1) (.conv .i64 (.op .rem .u8 (.var 0) (.lit 5)))) (.lit 1) (.conv .i64 (.op .rem .u8 (.var 0) (.lit 5)))) (.conv .i64 (.op .rem .u8 (.var 1) (.lit 28)))))] [24] [[(.val 12)]] [[.sl]] [(false, [.int .i64])] 
       (.call 19 [(.loc 24 0), (.int .i64 (.op .add .i64 (.lit 1) (.conv .i64 (.op .rem .u8 (.var 2) (.lit 7)))))] [24] [[(.val 14)]] [[.sl]] [(false, [.int .i64])] 
       (.call 19 [(.loc 24 0), (.int .i64 (.op .add .i64 (.lit 1) (.conv .i64 (.op .rem .u8 (.var 2) (.lit 7)))))] [24] [[(.val 16)]] [[.sl]] [(false, [.int .i64])] 
       (.app 43 5 56 (.val 6) (.cells [(.val 10), (.int .u8 (.lit 2)), (.int .i64 (.var 15)), (.int .i64 (.var 17)), (.int .i64 (.var 19))] 1) 
       (.again 0 [(.int .i64 (.op .add .i64 (.var 4) (.lit 1))), (.val 18), (.val 20)])))))
       (.call 19 [(.loc 24 0), (.int .i64 (.op .add .i64 (.ite (.cmp .gtr (.lit 1) (.conv .i64 (.op .rem .u8 (.var 0) (.lit 5)))) (.lit 1) (.conv .i64 (.op .rem .u8 (.var 0) (.lit 5)))) (.conv .i64 (.op .rem .u8 (.var 1) (.lit 28)))))] [24] [[(.val 12)]] [[.sl]] [(false, [.int .i64])] 
       (.app 43 5 56 (.val 6) (.cells [(.val 10), (.int .u8 (.lit 3)), (.int .i64 (.var 15)), (.int .i64 (.lit 0)), (.int .i64 (.lit 0))] 1) 
       (.again 0 [(.int .i64 (.op .add .i64 (.var 4) (.lit 1))), (.val 14), (.val 16)])))))))))
   (.done (.agg [(.int .i64 (.conv .i64 (.op .rem .u8 (.var 0) (.lit 5)))), (.int .i64 (.op .add .i64 (.ite (.cmp .gtr (.lit 1) (.conv .i64 (.op .rem .u8 (.var 0) (.lit 5)))) (.lit 1) (.conv .i64 (.op .rem .u8 (.var 0) (.lit 5)))) (.conv .i64 (.op .rem .u8 (.var 1) (.lit 28))))), (.val 6)]) [])))
def l7 : List (Nat × List Nat × List (Nat × Nat) × List Nat) := [(6, [31], [(24, 0), (3, 2)], [32, 6, 33, 34, 35, 36, 37, 38, 39, 40, 41, 42, 43, 44, 45, 46, 47, 48, 56, 55, 57, 58, 59, 60, 61, 63, 62, 64, 65, 66, 67, 68, 69, 70, 71, 72, 73, 74, 75, 76, 49, 50, 51, 52, 53, 54, 77, 78, 79, 80, 81, 82, 83]), (9, [35], [(6, 0), (24, 0)], [36, 37, 38, 39, 40, 41, 42, 43, 44, 45, 46])]
theorem e7 : ev Try.prog ⟨allF, [], l7⟩ (bodyOf Try.f7) 0 (initSt [(.agg [(.int .u8 (.var 0)), (.int .u8 (.var 1)), (.int .u8 (.var 2)), (.val 3)])] [] Try.f7.ntmps [.int .u8, .int .u8, .int .u8, .sl]) (finK Try.prog Try.f7.results []) = t7 := by kernel_rfl
theorem c7 {G : List Value} {h : H} {R : Value → List (List Value) → H → Prop} (hG : FitsL [.int .u8, .int .u8, .int .u8, .sl] G) (H : holds Try.prog R t7 G [] h) : CallsA Try.prog 7 (fun e => SV.denL G (fun k => e (k - 1000000)) [(.agg [(.int .u8 (.var 0)), (.int .u8 (.var 1)), (.int .u8 (.var 2)), (.val 3)])]) ([].map (SV.denL G dE)) h R :=
  CallsA.of_ev (cf := ⟨allF, [], l7⟩) (fn := Try.f7) (c := bodyOf Try.f7) (pcs := []) Try.func7 (by rfl) callOK (by rfl) hG (by rfl) (by rw [show ([] : List (List SV)).map List.length = [] from rfl, e7]; exact H)
/-- What is left of outworker/paths.Reach. -/
def t8 : Out :=
 (.alloc 3 [(.int .i64 (.lit 0))] (.lsl 1) 
 (.call 21 [(.val 1)] [] [] [] [(true, [.sl])] 
 (.call 22 [(.loc 3 0), (.int .i64 (.lit 0))] [3] [[(.cst (.slice none 0 0)), (.cst (.map none))]] [[.sl, .map]] [(false, [.bool])] 
 (.loop 0 [(.val 2), (.val 3), (.val 4)] [.sl, .sl, .map] 
  (.call 23 [(.loc 3 0)] [3] [[(.val 7), (.val 8)]] [[.sl, .map]] [(false, [.int .i64])] 
  (.ite (.cmp .gtr (.var 11) (.lit 0))
   (.call 24 [(.loc 3 0)] [3] [[(.val 9), (.val 10)]] [[.sl, .map]] [(false, [.int .i64]), (false, [.bool])] 
   (.need (.tt true) [(.cmp .geq (.var 14) (.lit 0)), (.cmp .lss (.var 14) (.len 0))] 
   (.load (.tt true) (.fld (.idx (.var 0) (.var 14) 5) 1) [.int .u8, .int .i64, .int .i64, .int .i64] 
   (.call 10 [(.agg [(.int .u8 (.var 16)), (.int .i64 (.var 17)), (.int .i64 (.var 18)), (.int .i64 (.var 19))])] [] [] [] [(false, [.sl])] 
   (.loop 1 [(.int .i64 (.lit 0)), (.val 6), (.val 12), (.val 13)] [.int .i64, .sl, .sl, .map] 
    (.ite (.cmp .lss (.var 21) (.len 20))
     (.need (.tt true) [(.cmp .geq (.var 21) (.lit 0)), (.cmp .lss (.var 21) (.len 20))] 
     (.load (.tt true) (.idx (.var 20) (.var 21) 1) [.int .i64] 
     (.call 25 [(.loc 4 0), (.int .i64 (.var 25))] [4] [[(.val 22)]] [[.sl]] [(false, [.bool])] 
     (.ite (.var 27)
      (.call 22 [(.loc 3 0), (.int .i64 (.var 25))] [3] [[(.val 23), (.val 24)]] [[.sl, .map]] [(false, [.bool])] 
      (.again 1 [(.int .i64 (.op .add .i64 (.var 21) (.lit 1))), (.val 26), (.val 28), (.val 29)]))
      (.again 1 [(.int .i64 (.op .add .i64 (.var 21) (.lit 1))), (.val 26), (.val 23), (.val 24)])))))
     (.again 0 [(.val 22), (.val 23), (.val 24)])))))))
   (.done (.agg [(.val 6)]) [])))))))
def l8 : List (Nat × List Nat × List (Nat × Nat) × List Nat) := [(4, [], [(4, 0), (3, 0), (3, 1)], [12, 13, 15, 14, 16, 17, 5, 6, 18, 19, 20, 21, 22, 23, 24, 25, 26, 27, 28, 8, 29, 30, 31, 32, 33]), (7, [25], [(4, 0), (3, 0), (3, 1)], [26, 27, 28, 8, 29, 30, 31, 32, 33])]
theorem e8 : ev Try.prog ⟨allF, [9], l8⟩ (bodyOf Try.f8) 0 (initSt [(.val 0)] [] Try.f8.ntmps [.sl]) (finK Try.prog Try.f8.results []) = t8 := by kernel_rfl
theorem c8 {G : List Value} {h : H} {R : Value → List (List Value) → H → Prop} (hG : FitsL [.sl] G) (H : holds Try.prog R t8 G [] h) : CallsA Try.prog 8 (fun e => SV.denL G (fun k => e (k - 1000000)) [(.val 0)]) ([].map (SV.denL G dE)) h R :=
  CallsA.of_ev (cf := ⟨allF, [9], l8⟩) (fn := Try.f8) (c := bodyOf Try.f8) (pcs := []) Try.func8 (by rfl) callOK (by rfl) hG (by rfl) (by rw [show ([] : List (List SV)).map List.length = [] from rfl, e8]; exact H)
/-- What is left of (outworker/bag.Set[int]).Has. -/
def t9 : Out :=
 (.need (.ite (.cmp .geq (.var 1) (.lit 0)) (.cmp .lss (.op .quo .i64 (.var 1) (.lit 64)) (.len 0)) (.tt false)) [(.cmp .geq (.op .quo .i64 (.var 1) (.lit 64)) (.lit 0)), (.cmp .lss (.op .quo .i64 (.var 1) (.lit 64)) (.len 0))] 
 (.load (.ite (.cmp .geq (.var 1) (.lit 0)) (.cmp .lss (.op .quo .i64 (.var 1) (.lit 64)) (.len 0)) (.tt false)) (.idx (.var 0) (.op .quo .i64 (.var 1) (.lit 64)) 1) [.int .u64] 
 (.need (.ite (.cmp .geq (.var 1) (.lit 0)) (.cmp .lss (.op .quo .i64 (.var 1) (.lit 64)) (.len 0)) (.tt false)) [(.cmp .geq (.op .rem .i64 (.var 1) (.lit 64)) (.lit 0))] 
 (.done (.bool (.ite (.ite (.cmp .geq (.var 1) (.lit 0)) (.cmp .lss (.op .quo .i64 (.var 1) (.lit 64)) (.len 0)) (.tt false)) (.cmp .eql (.op .and .u64 (.op .shr .u64 (.var 2) (.op .rem .i64 (.var 1) (.lit 64))) (.lit 1)) (.lit 1)) (.tt false))) []))))
def l9 : List (Nat × List Nat × List (Nat × Nat) × List Nat) := []
theorem e9 : ev Try.prog ⟨allF, [], l9⟩ (bodyOf Try.f9) 0 (initSt [(.agg [(.val 0)]), (.int .i64 (.var 1))] [] Try.f9.ntmps [.sl, .int .i64]) (finK Try.prog Try.f9.results []) = t9 := by kernel_rfl
theorem c9 {G : List Value} {h : H} {R : Value → List (List Value) → H → Prop} (hG : FitsL [.sl, .int .i64] G) (H : holds Try.prog R t9 G [] h) : CallsA Try.prog 9 (fun e => SV.denL G (fun k => e (k - 1000000)) [(.agg [(.val 0)]), (.int .i64 (.var 1))]) ([].map (SV.denL G dE)) h R :=
  CallsA.of_ev (cf := ⟨allF, [], l9⟩) (fn := Try.f9) (c := bodyOf Try.f9) (pcs := []) Try.func9 (by rfl) callOK (by rfl) hG (by rfl) (by rw [show ([] : List (List SV)).map List.length = [] from rfl, e9]; exact H)
/-- What is left of outworker/paths.Next. -/
def t10 : Out :=
 (.ite (.ite (.cmp .eql (.var 0) (.lit 1)) (.cmp .eql (.var 0) (.lit 1)) (.ite (.cmp .eql (.var 0) (.lit 2)) (.cmp .eql (.var 2) (.var 3)) (.tt false)))
  (.alloc 3 [(.int .i64 (.var 2))] (.lsl 1) 
  (.done (.val 4) []))
  (.ite (.cmp .eql (.var 0) (.lit 2))
   (.alloc 3 [(.int .i64 (.var 2)), (.int .i64 (.var 3))] (.lsl 2) 
   (.done (.val 4) []))
   (.done (.cst (.slice none 0 0)) [])))
def l10 : List (Nat × List Nat × List (Nat × Nat) × List Nat) := []
theorem e10 : ev Try.prog ⟨allF, [19, 28], l10⟩ (bodyOf Try.f10) 0 (initSt [(.agg [(.int .u8 (.var 0)), (.int .i64 (.var 1)), (.int .i64 (.var 2)), (.int .i64 (.var 3))])] [] Try.f10.ntmps [.int .u8, .int .i64, .int .i64, .int .i64]) (finK Try.prog Try.f10.results []) = t10 := by kernel_rfl
theorem c10 {G : List Value} {h : H} {R : Value → List (List Value) → H → Prop} (hG : FitsL [.int .u8, .int .i64, .int .i64, .int .i64] G) (H : holds Try.prog R t10 G [] h) : CallsA Try.prog 10 (fun e => SV.denL G (fun k => e (k - 1000000)) [(.agg [(.int .u8 (.var 0)), (.int .i64 (.var 1)), (.int .i64 (.var 2)), (.int .i64 (.var 3))])]) ([].map (SV.denL G dE)) h R :=
  CallsA.of_ev (cf := ⟨allF, [19, 28], l10⟩) (fn := Try.f10) (c := bodyOf Try.f10) (pcs := []) Try.func10 (by rfl) callOK (by rfl) hG (by rfl) (by rw [show ([] : List (List SV)).map List.length = [] from rfl, e10]; exact H)
/-- What is left of outworker/paths.Ahead. -/
def t11 : Out :=
 (.mk 36 1 24 (.len 0) 
 (.loop 0 [(.int .i64 (.lit 0))] [.int .i64] 
  (.ite (.cmp .lss (.var 2) (.len 0))
   (.need (.tt true) [(.cmp .geq (.var 2) (.lit 0)), (.cmp .lss (.var 2) (.len 0))] 
   (.load (.tt true) (.idx (.var 0) (.var 2) 5) [.sl, .int .u8, .int .i64, .int .i64, .int .i64] 
   (.call 10 [(.agg [(.int .u8 (.var 4)), (.int .i64 (.var 5)), (.int .i64 (.var 6)), (.int .i64 (.var 7))])] [] [] [] [(false, [.sl])] 
   (.loop 1 [(.int .i64 (.lit 0))] [.int .i64] 
    (.ite (.cmp .lss (.var 9) (.len 8))
     (.need (.tt true) [(.cmp .geq (.var 9) (.lit 0)), (.cmp .lss (.var 9) (.len 8))] 
     (.load (.tt true) (.idx (.var 8) (.var 9) 1) [.int .i64] 
     (.need (.tt true) [(.cmp .geq (.var 10) (.lit 0)), (.cmp .lss (.var 10) (.len 1))] 
     (.load (.tt true) (.idx (.var 1) (.var 10) 1) [.sl] 
     (.app 3 1 8 (.val 11) (.cells [(.int .i64 (.var 2))] 1) 
     (.need (.tt true) [(.cmp .geq (.var 10) (.lit 0)), (.cmp .lss (.var 10) (.len 1))] 
     (.store (.idx (.var 1) (.var 10) 1) [(.val 12)] 
     (.again 1 [(.int .i64 (.op .add .i64 (.var 9) (.lit 1)))]))))))))
     (.again 0 [(.int .i64 (.op .add .i64 (.var 2) (.lit 1)))]))))))
   (.done (.val 1) []))))
def l11 : List (Nat × List Nat × List (Nat × Nat) × List Nat) := [(3, [13], [], [14, 15, 16, 17, 5, 4, 18, 19, 20, 21, 22, 23, 24, 25, 7, 26, 27, 28, 29, 30, 31, 32, 33, 34, 35, 36, 37]), (6, [22], [], [23, 24, 25, 7, 26, 27, 28, 29, 30, 31, 32, 33, 34, 35, 36])]
theorem e11 : ev Try.prog ⟨allF, [], l11⟩ (bodyOf Try.f11) 0 (initSt [(.val 0)] [] Try.f11.ntmps [.sl]) (finK Try.prog Try.f11.results []) = t11 := by kernel_rfl
theorem c11 {G : List Value} {h : H} {R : Value → List (List Value) → H → Prop} (hG : FitsL [.sl] G) (H : holds Try.prog R t11 G [] h) : CallsA Try.prog 11 (fun e => SV.denL G (fun k => e (k - 1000000)) [(.val 0)]) ([].map (SV.denL G dE)) h R :=
  CallsA.of_ev (cf := ⟨allF, [], l11⟩) (fn := Try.f11) (c := bodyOf Try.f11) (pcs := []) Try.func11 (by rfl) callOK (by rfl) hG (by rfl) (by rw [show ([] : List (List SV)).map List.length = [] from rfl, e11]; exact H)
/-- What is left of outworker/outworkerref10.Reach. -/
def t12 : Out :=
 (.mk 4 1 1 (.len 0) 
 (.need (.tt true) [(.tt true), (.cmp .lss (.lit 0) (.len 1))] 
 (.store (.idx (.var 1) (.lit 0) 1) [(.bool (.tt true))] 
 (.loop 0 [(.int .i64 (.lit 0))] [.int .i64] 
  (.ite (.cmp .lss (.var 2) (.len 0))
   (.loop 1 [(.int .i64 (.lit 0))] [.int .i64] 
    (.ite (.cmp .lss (.var 3) (.len 0))
     (.need (.tt true) [(.cmp .geq (.var 3) (.lit 0)), (.cmp .lss (.var 3) (.len 0))] 
     (.load (.tt true) (.fld (.idx (.var 0) (.var 3) 5) 1) [.int .u8, .int .i64, .int .i64, .int .i64] 
     (.call 17 [(.agg [(.int .u8 (.var 4)), (.int .i64 (.var 5)), (.int .i64 (.var 6)), (.int .i64 (.var 7))])] [] [] [] [(false, [.sl])] 
     (.loop 2 [(.int .i64 (.lit 0))] [.int .i64] 
      (.need (.cmp .lss (.var 9) (.len 8)) [(.cmp .geq (.var 3) (.lit 0)), (.cmp .lss (.var 3) (.len 1))] 
      (.load (.cmp .lss (.var 9) (.len 8)) (.idx (.var 1) (.var 3) 1) [.bool] 
      (.ite (.ite (.cmp .lss (.var 9) (.len 8)) (.var 10) (.tt false))
       (.need (.tt true) [(.cmp .geq (.var 9) (.lit 0)), (.cmp .lss (.var 9) (.len 8))] 
       (.load (.tt true) (.idx (.var 8) (.var 9) 1) [.int .i64] 
       (.need (.tt true) [(.cmp .geq (.var 11) (.lit 0)), (.cmp .lss (.var 11) (.len 1))] 
       (.store (.idx (.var 1) (.var 11) 1) [(.bool (.tt true))] 
       (.again 2 [(.int .i64 (.op .add .i64 (.var 9) (.lit 1)))])))))
       (.again 1 [(.int .i64 (.op .add .i64 (.var 3) (.lit 1)))]))))))))
     (.again 0 [(.int .i64 (.op .add .i64 (.var 2) (.lit 1)))])))
   (.done (.val 1) []))))))
def l12 : List (Nat × List Nat × List (Nat × Nat) × List Nat) := [(4, [4], [], [13, 14, 15, 16, 5, 19, 20, 21, 22, 25, 26, 27, 28, 29, 30, 6, 7, 31, 32, 33, 34, 35, 36, 37, 38, 39, 40, 43, 44, 45, 46, 47, 48, 41, 42, 23, 24, 17, 18]), (7, [5], [], [19, 20, 21, 22, 25, 26, 27, 28, 29, 30, 6, 7, 31, 32, 33, 34, 35, 36, 37, 38, 39, 40, 43, 44, 45, 46, 47, 48, 41, 42, 23, 24]), (11, [7], [], [31, 32, 33, 34, 35, 36, 37, 38, 39, 40, 43, 44, 45, 46, 47, 48, 41, 42])]
theorem e12 : ev Try.prog ⟨allF, [], l12⟩ (bodyOf Try.f12) 0 (initSt [(.val 0)] [] Try.f12.ntmps [.sl]) (finK Try.prog Try.f12.results []) = t12 := by kernel_rfl
theorem c12 {G : List Value} {h : H} {R : Value → List (List Value) → H → Prop} (hG : FitsL [.sl] G) (H : holds Try.prog R t12 G [] h) : CallsA Try.prog 12 (fun e => SV.denL G (fun k => e (k - 1000000)) [(.val 0)]) ([].map (SV.denL G dE)) h R :=
  CallsA.of_ev (cf := ⟨allF, [], l12⟩) (fn := Try.f12) (c := bodyOf Try.f12) (pcs := []) Try.func12 (by rfl) callOK (by rfl) hG (by rfl) (by rw [show ([] : List (List SV)).map List.length = [] from rfl, e12]; exact H)
/-- What is left of outworker/outworkerref04.SameInts. -/
def t13 : Out :=
 (.ite (.cmp .neq (.len 0) (.len 1))
  (.done (.bool (.tt false)) [])
  (.loop 0 [(.int .i64 (.lit 0))] [.int .i64] 
   (.ite (.cmp .lss (.var 2) (.len 0))
    (.need (.tt true) [(.cmp .geq (.var 2) (.lit 0)), (.cmp .lss (.var 2) (.len 0))] 
    (.load (.tt true) (.idx (.var 0) (.var 2) 1) [.int .i64] 
    (.need (.tt true) [(.cmp .geq (.var 2) (.lit 0)), (.cmp .lss (.var 2) (.len 1))] 
    (.load (.tt true) (.idx (.var 1) (.var 2) 1) [.int .i64] 
    (.ite (.cmp .neq (.var 3) (.var 4))
     (.done (.bool (.tt false)) [])
     (.again 0 [(.int .i64 (.op .add .i64 (.var 2) (.lit 1)))]))))))
    (.done (.bool (.tt true)) []))))
def l13 : List (Nat × List Nat × List (Nat × Nat) × List Nat) := [(4, [5], [], [11, 12, 13, 14, 17, 18, 19, 20, 21, 22, 23, 24, 25, 4, 15, 16])]
theorem e13 : ev Try.prog ⟨allF, [], l13⟩ (bodyOf Try.f13) 0 (initSt [(.val 0), (.val 1)] [] Try.f13.ntmps [.sl, .sl]) (finK Try.prog Try.f13.results []) = t13 := by kernel_rfl
theorem c13 {G : List Value} {h : H} {R : Value → List (List Value) → H → Prop} (hG : FitsL [.sl, .sl] G) (H : holds Try.prog R t13 G [] h) : CallsA Try.prog 13 (fun e => SV.denL G (fun k => e (k - 1000000)) [(.val 0), (.val 1)]) ([].map (SV.denL G dE)) h R :=
  CallsA.of_ev (cf := ⟨allF, [], l13⟩) (fn := Try.f13) (c := bodyOf Try.f13) (pcs := []) Try.func13 (by rfl) callOK (by rfl) hG (by rfl) (by rw [show ([] : List (List SV)).map List.length = [] from rfl, e13]; exact H)
/-- What is left of outworker/paths.Order. -/
def t14 : Out :=
 (.call 26 [(.loc 8 0), (.int .i64 (.lit 0))] [8] [[(.val 0), (.cst (.slice none 0 0)), (.cst (.slice none 0 0))]] [[.sl, .sl, .sl]] [] 
 (.loop 0 [(.int .i64 (.lit 0)), (.int .i64 (.op .sub .i64 (.len 3) (.lit 1)))] [.int .i64, .int .i64] 
  (.ite (.cmp .lss (.var 4) (.var 5))
   (.need (.tt true) [(.cmp .geq (.var 5) (.lit 0)), (.cmp .lss (.var 5) (.len 3))] 
   (.load (.tt true) (.idx (.var 3) (.var 5) 1) [.int .i64] 
   (.need (.tt true) [(.cmp .geq (.var 4) (.lit 0)), (.cmp .lss (.var 4) (.len 3))] 
   (.load (.tt true) (.idx (.var 3) (.var 4) 1) [.int .i64] 
   (.need (.tt true) [(.cmp .geq (.var 4) (.lit 0)), (.cmp .lss (.var 4) (.len 3))] 
   (.store (.idx (.var 3) (.var 4) 1) [(.int .i64 (.var 6))] 
   (.need (.tt true) [(.cmp .geq (.var 5) (.lit 0)), (.cmp .lss (.var 5) (.len 3))] 
   (.store (.idx (.var 3) (.var 5) 1) [(.int .i64 (.var 7))] 
   (.again 0 [(.int .i64 (.op .add .i64 (.var 4) (.lit 1))), (.int .i64 (.op .sub .i64 (.var 5) (.lit 1)))])))))))))
   (.done (.val 3) []))))
def l14 : List (Nat × List Nat × List (Nat × Nat) × List Nat) := [(4, [4, 5], [], [17, 18, 19, 24, 25, 26, 27, 28, 29, 30, 31, 32, 33, 34, 35, 36, 37, 38, 39, 40, 41, 42, 43, 44, 45, 46, 47, 48, 49, 20, 21, 22, 23])]
theorem e14 : ev Try.prog ⟨allF, [], l14⟩ (bodyOf Try.f14) 0 (initSt [(.val 0)] [] Try.f14.ntmps [.sl]) (finK Try.prog Try.f14.results []) = t14 := by kernel_rfl
theorem c14 {G : List Value} {h : H} {R : Value → List (List Value) → H → Prop} (hG : FitsL [.sl] G) (H : holds Try.prog R t14 G [] h) : CallsA Try.prog 14 (fun e => SV.denL G (fun k => e (k - 1000000)) [(.val 0)]) ([].map (SV.denL G dE)) h R :=
  CallsA.of_ev (cf := ⟨allF, [], l14⟩) (fn := Try.f14) (c := bodyOf Try.f14) (pcs := []) Try.func14 (by rfl) callOK (by rfl) hG (by rfl) (by rw [show ([] : List (List SV)).map List.length = [] from rfl, e14]; exact H)
/-- What is left of outworker/outworkerref10.Order. -/
def t15 : Out :=
 (.mk 4 1 1 (.len 0) 
 (.call 27 [(.val 0), (.int .i64 (.lit 0)), (.cst (.slice none 0 0)), (.val 1)] [] [] [] [(false, [.sl])] 
 (.loop 0 [(.cst (.slice none 0 0)), (.int .i64 (.op .sub .i64 (.len 2) (.lit 1)))] [.sl, .int .i64] 
  (.ite (.cmp .geq (.var 4) (.lit 0))
   (.need (.tt true) [(.cmp .geq (.var 4) (.lit 0)), (.cmp .lss (.var 4) (.len 2))] 
   (.load (.tt true) (.idx (.var 2) (.var 4) 1) [.int .i64] 
   (.app 3 1 8 (.val 3) (.cells [(.int .i64 (.var 5))] 1) 
   (.again 0 [(.val 6), (.int .i64 (.op .sub .i64 (.var 4) (.lit 1)))]))))
   (.done (.val 3) [])))))
def l15 : List (Nat × List Nat × List (Nat × Nat) × List Nat) := [(4, [4, 5], [], [14, 15, 18, 19, 20, 21, 22, 23, 24, 16, 17])]
theorem e15 : ev Try.prog ⟨allF, [], l15⟩ (bodyOf Try.f15) 0 (initSt [(.val 0)] [] Try.f15.ntmps [.sl]) (finK Try.prog Try.f15.results []) = t15 := by kernel_rfl
theorem c15 {G : List Value} {h : H} {R : Value → List (List Value) → H → Prop} (hG : FitsL [.sl] G) (H : holds Try.prog R t15 G [] h) : CallsA Try.prog 15 (fun e => SV.denL G (fun k => e (k - 1000000)) [(.val 0)]) ([].map (SV.denL G dE)) h R :=
  CallsA.of_ev (cf := ⟨allF, [], l15⟩) (fn := Try.f15) (c := bodyOf Try.f15) (pcs := []) Try.func15 (by rfl) callOK (by rfl) hG (by rfl) (by rw [show ([] : List (List SV)).map List.length = [] from rfl, e15]; exact H)
/-- What is left of outworker/outworkerref10.Ahead. -/
def t16 : Out :=
 (.loop 0 [(.cst (.slice none 0 0)), (.int .i64 (.lit 0))] [.sl, .int .i64] 
  (.ite (.cmp .lss (.var 3) (.len 0))
   (.need (.tt true) [(.cmp .geq (.var 3) (.lit 0)), (.cmp .lss (.var 3) (.len 0))] 
   (.load (.tt true) (.fld (.idx (.var 0) (.var 3) 5) 1) [.int .u8, .int .i64, .int .i64, .int .i64] 
   (.call 17 [(.agg [(.int .u8 (.var 4)), (.int .i64 (.var 5)), (.int .i64 (.var 6)), (.int .i64 (.var 7))])] [] [] [] [(false, [.sl])] 
   (.call 28 [(.val 8), (.int .i64 (.var 1))] [] [] [] [(false, [.bool])] 
   (.ite (.var 9)
    (.app 3 1 8 (.val 2) (.cells [(.int .i64 (.var 3))] 1) 
    (.again 0 [(.val 10), (.int .i64 (.op .add .i64 (.var 3) (.lit 1)))]))
    (.again 0 [(.val 2), (.int .i64 (.op .add .i64 (.var 3) (.lit 1)))]))))))
   (.done (.val 2) [])))
def l16 : List (Nat × List Nat × List (Nat × Nat) × List Nat) := [(3, [5, 6], [], [7, 8, 9, 10, 13, 14, 15, 16, 17, 18, 19, 20, 21, 22, 23, 24, 11, 12])]
theorem e16 : ev Try.prog ⟨allF, [], l16⟩ (bodyOf Try.f16) 0 (initSt [(.val 0), (.int .i64 (.var 1))] [] Try.f16.ntmps [.sl, .int .i64]) (finK Try.prog Try.f16.results []) = t16 := by kernel_rfl
theorem c16 {G : List Value} {h : H} {R : Value → List (List Value) → H → Prop} (hG : FitsL [.sl, .int .i64] G) (H : holds Try.prog R t16 G [] h) : CallsA Try.prog 16 (fun e => SV.denL G (fun k => e (k - 1000000)) [(.val 0), (.int .i64 (.var 1))]) ([].map (SV.denL G dE)) h R :=
  CallsA.of_ev (cf := ⟨allF, [], l16⟩) (fn := Try.f16) (c := bodyOf Try.f16) (pcs := []) Try.func16 (by rfl) callOK (by rfl) hG (by rfl) (by rw [show ([] : List (List SV)).map List.length = [] from rfl, e16]; exact H)
/-- What is left of outworker/outworkerref10.Next. -/
def t17 : Out :=
 (.ite (.cmp .eql (.var 0) (.lit 1))
  (.alloc 3 [(.int .i64 (.var 2))] (.lsl 1) 
  (.done (.val 4) []))
  (.ite (.cmp .eql (.var 0) (.lit 2))
   (.ite (.cmp .eql (.var 2) (.var 3))
    (.alloc 3 [(.int .i64 (.var 2))] (.lsl 1) 
    (.done (.val 4) []))
    (.alloc 3 [(.int .i64 (.var 2)), (.int .i64 (.var 3))] (.lsl 2) 
    (.done (.val 4) [])))
   (.done (.cst (.slice none 0 0)) [])))
def l17 : List (Nat × List Nat × List (Nat × Nat) × List Nat) := []
theorem e17 : ev Try.prog ⟨allF, [9, 19, 24], l17⟩ (bodyOf Try.f17) 0 (initSt [(.agg [(.int .u8 (.var 0)), (.int .i64 (.var 1)), (.int .i64 (.var 2)), (.int .i64 (.var 3))])] [] Try.f17.ntmps [.int .u8, .int .i64, .int .i64, .int .i64]) (finK Try.prog Try.f17.results []) = t17 := by kernel_rfl
theorem c17 {G : List Value} {h : H} {R : Value → List (List Value) → H → Prop} (hG : FitsL [.int .u8, .int .i64, .int .i64, .int .i64] G) (H : holds Try.prog R t17 G [] h) : CallsA Try.prog 17 (fun e => SV.denL G (fun k => e (k - 1000000)) [(.agg [(.int .u8 (.var 0)), (.int .i64 (.var 1)), (.int .i64 (.var 2)), (.int .i64 (.var 3))])]) ([].map (SV.denL G dE)) h R :=
  CallsA.of_ev (cf := ⟨allF, [9, 19, 24], l17⟩) (fn := Try.f17) (c := bodyOf Try.f17) (pcs := []) Try.func17 (by rfl) callOK (by rfl) hG (by rfl) (by rw [show ([] : List (List SV)).map List.length = [] from rfl, e17]; exact H)
/-- What is left of (outworker/bag.Set[int]).Len. -/
def t18 : Out :=
 (.loop 0 [(.int .i64 (.lit 0)), (.int .i64 (.lit 0))] [.int .i64, .int .i64] 
  (.ite (.cmp .lss (.var 2) (.len 0))
   (.need (.tt true) [(.cmp .geq (.var 2) (.lit 0)), (.cmp .lss (.var 2) (.len 0))] 
   (.load (.tt true) (.idx (.var 0) (.var 2) 1) [.int .u64] 
   (.call 29 [(.int .u64 (.var 3))] [] [] [] [(false, [.int .i64])] 
   (.again 0 [(.int .i64 (.op .add .i64 (.var 1) (.var 4))), (.int .i64 (.op .add .i64 (.var 2) (.lit 1)))]))))
   (.done (.int .i64 (.var 1)) [])))
def l18 : List (Nat × List Nat × List (Nat × Nat) × List Nat) := [(3, [3, 9], [], [10, 11, 12, 5, 13, 14, 15, 16, 17])]
theorem e18 : ev Try.prog ⟨allF, [], l18⟩ (bodyOf Try.f18) 0 (initSt [(.agg [(.val 0)])] [] Try.f18.ntmps [.sl]) (finK Try.prog Try.f18.results []) = t18 := by kernel_rfl
theorem c18 {G : List Value} {h : H} {R : Value → List (List Value) → H → Prop} (hG : FitsL [.sl] G) (H : holds Try.prog R t18 G [] h) : CallsA Try.prog 18 (fun e => SV.denL G (fun k => e (k - 1000000)) [(.agg [(.val 0)])]) ([].map (SV.denL G dE)) h R :=
  CallsA.of_ev (cf := ⟨allF, [], l18⟩) (fn := Try.f18) (c := bodyOf Try.f18) (pcs := []) Try.func18 (by rfl) callOK (by rfl) hG (by rfl) (by rw [show ([] : List (List SV)).map List.length = [] from rfl, e18]; exact H)
/-- What is left of outworker/bag.Of[int]. -/
def t21 : Out :=
 (.loop 0 [(.int .i64 (.lit 0)), (.cst (.slice none 0 0))] [.int .i64, .sl] 
  (.ite (.cmp .lss (.var 1) (.len 0))
   (.need (.tt true) [(.cmp .geq (.var 1) (.lit 0)), (.cmp .lss (.var 1) (.len 0))] 
   (.load (.tt true) (.idx (.var 0) (.var 1) 1) [.int .i64] 
   (.call 25 [(.loc 3 0), (.int .i64 (.var 3))] [3] [[(.val 2)]] [[.sl]] [(false, [.bool])] 
   (.again 0 [(.int .i64 (.op .add .i64 (.var 1) (.lit 1))), (.val 4)]))))
   (.done (.agg [(.val 2)]) [])))
def l21 : List (Nat × List Nat × List (Nat × Nat) × List Nat) := [(3, [8], [(3, 0)], [9, 10, 11, 5, 12, 13, 14])]
theorem e21 : ev Try.prog ⟨allF, [], l21⟩ (bodyOf Try.f21) 0 (initSt [(.val 0)] [] Try.f21.ntmps [.sl]) (finK Try.prog Try.f21.results []) = t21 := by kernel_rfl
theorem c21 {G : List Value} {h : H} {R : Value → List (List Value) → H → Prop} (hG : FitsL [.sl] G) (H : holds Try.prog R t21 G [] h) : CallsA Try.prog 21 (fun e => SV.denL G (fun k => e (k - 1000000)) [(.val 0)]) ([].map (SV.denL G dE)) h R :=
  CallsA.of_ev (cf := ⟨allF, [], l21⟩) (fn := Try.f21) (c := bodyOf Try.f21) (pcs := []) Try.func21 (by rfl) callOK (by rfl) hG (by rfl) (by rw [show ([] : List (List SV)).map List.length = [] from rfl, e21]; exact H)
/-- What is left of outworker/outworkerref10.down. -/
def t27 : Out :=
 (.need (.tt true) [(.cmp .geq (.var 1) (.lit 0)), (.cmp .lss (.var 1) (.len 3))] 
 (.store (.idx (.var 3) (.var 1) 1) [(.bool (.tt true))] 
 (.need (.tt true) [(.cmp .geq (.var 1) (.lit 0)), (.cmp .lss (.var 1) (.len 0))] 
 (.load (.tt true) (.fld (.idx (.var 0) (.var 1) 5) 1) [.int .u8, .int .i64, .int .i64, .int .i64] 
 (.call 17 [(.agg [(.int .u8 (.var 4)), (.int .i64 (.var 5)), (.int .i64 (.var 6)), (.int .i64 (.var 7))])] [] [] [] [(false, [.sl])] 
 (.loop 0 [(.val 2), (.int .i64 (.lit 0))] [.sl, .int .i64] 
  (.ite (.cmp .lss (.var 10) (.len 8))
   (.need (.tt true) [(.cmp .geq (.var 10) (.lit 0)), (.cmp .lss (.var 10) (.len 8))] 
   (.load (.tt true) (.idx (.var 8) (.var 10) 1) [.int .i64] 
   (.need (.tt true) [(.cmp .geq (.var 11) (.lit 0)), (.cmp .lss (.var 11) (.len 3))] 
   (.load (.tt true) (.idx (.var 3) (.var 11) 1) [.bool] 
   (.ite (.not (.var 12))
    (.need (.tt true) [(.cmp .geq (.var 10) (.lit 0)), (.cmp .lss (.var 10) (.len 8))] 
    (.load (.tt true) (.idx (.var 8) (.var 10) 1) [.int .i64] 
    (.call 27 [(.val 0), (.int .i64 (.var 13)), (.val 9), (.val 3)] [] [] [] [(false, [.sl])] 
    (.again 0 [(.val 14), (.int .i64 (.op .add .i64 (.var 10) (.lit 1)))]))))
    (.again 0 [(.val 9), (.int .i64 (.op .add .i64 (.var 10) (.lit 1)))]))))))
   (.app 3 1 8 (.val 9) (.cells [(.int .i64 (.var 1))] 1) 
   (.done (.val 11) [])))))))))
def l27 : List (Nat × List Nat × List (Nat × Nat) × List Nat) := [(4, [2, 10], [], [20, 21, 22, 23, 26, 27, 28, 29, 30, 31, 32, 33, 34, 35, 36, 37, 38, 39, 40, 41, 24, 25])]
theorem e27 : ev Try.prog ⟨allF, [], l27⟩ (bodyOf Try.f27) 0 (initSt [(.val 0), (.int .i64 (.var 1)), (.val 2), (.val 3)] [] Try.f27.ntmps [.sl, .int .i64, .sl, .sl]) (finK Try.prog Try.f27.results []) = t27 := by kernel_rfl
theorem c27 {G : List Value} {h : H} {R : Value → List (List Value) → H → Prop} (hG : FitsL [.sl, .int .i64, .sl, .sl] G) (H : holds Try.prog R t27 G [] h) : CallsA Try.prog 27 (fun e => SV.denL G (fun k => e (k - 1000000)) [(.val 0), (.int .i64 (.var 1)), (.val 2), (.val 3)]) ([].map (SV.denL G dE)) h R :=
  CallsA.of_ev (cf := ⟨allF, [], l27⟩) (fn := Try.f27) (c := bodyOf Try.f27) (pcs := []) Try.func27 (by rfl) callOK (by rfl) hG (by rfl) (by rw [show ([] : List (List SV)).map List.length = [] from rfl, e27]; exact H)
/-- What is left of outworker/outworkerref10.In. -/
def t28 : Out :=
 (.loop 0 [(.int .i64 (.lit 0))] [.int .i64] 
  (.ite (.cmp .lss (.var 2) (.len 0))
   (.need (.tt true) [(.cmp .geq (.var 2) (.lit 0)), (.cmp .lss (.var 2) (.len 0))] 
   (.load (.tt true) (.idx (.var 0) (.var 2) 1) [.int .i64] 
   (.ite (.cmp .eql (.var 3) (.var 1))
    (.done (.bool (.tt true)) [])
    (.again 0 [(.int .i64 (.op .add .i64 (.var 2) (.lit 1)))]))))
   (.done (.bool (.tt false)) [])))
def l28 : List (Nat × List Nat × List (Nat × Nat) × List Nat) := [(2, [5], [], [6, 7, 8, 9, 12, 13, 14, 15, 16, 17, 4, 10, 11])]
theorem e28 : ev Try.prog ⟨allF, [], l28⟩ (bodyOf Try.f28) 0 (initSt [(.val 0), (.int .i64 (.var 1))] [] Try.f28.ntmps [.sl, .int .i64]) (finK Try.prog Try.f28.results []) = t28 := by kernel_rfl
theorem c28 {G : List Value} {h : H} {R : Value → List (List Value) → H → Prop} (hG : FitsL [.sl, .int .i64] G) (H : holds Try.prog R t28 G [] h) : CallsA Try.prog 28 (fun e => SV.denL G (fun k => e (k - 1000000)) [(.val 0), (.int .i64 (.var 1))]) ([].map (SV.denL G dE)) h R :=
  CallsA.of_ev (cf := ⟨allF, [], l28⟩) (fn := Try.f28) (c := bodyOf Try.f28) (pcs := []) Try.func28 (by rfl) callOK (by rfl) hG (by rfl) (by rw [show ([] : List (List SV)).map List.length = [] from rfl, e28]; exact H)
/-- What is left of math/bits.OnesCount64. -/
def t29 : Out :=
 (.done (.int .i64 (.op .and .i64 (.conv .i64 (.op .add .u64 (.op .add .u64 (.op .add .u64 (.op .and .u64 (.op .add .u64 (.op .shr .u64 (.op .add .u64 (.op .and .u64 (.op .shr .u64 (.op .add .u64 (.op .and .u64 (.op .shr .u64 (.var 0) (.lit 1)) (.lit 6148914691236517205)) (.op .and .u64 (.var 0) (.lit 6148914691236517205))) (.lit 2)) (.lit 3689348814741910323)) (.op .and .u64 (.op .add .u64 (.op .and .u64 (.op .shr .u64 (.var 0) (.lit 1)) (.lit 6148914691236517205)) (.op .and .u64 (.var 0) (.lit 6148914691236517205))) (.lit 3689348814741910323))) (.lit 4)) (.op .add .u64 (.op .and .u64 (.op .shr .u64 (.op .add .u64 (.op .and .u64 (.op .shr .u64 (.var 0) (.lit 1)) (.lit 6148914691236517205)) (.op .and .u64 (.var 0) (.lit 6148914691236517205))) (.lit 2)) (.lit 3689348814741910323)) (.op .and .u64 (.op .add .u64 (.op .and .u64 (.op .shr .u64 (.var 0) (.lit 1)) (.lit 6148914691236517205)) (.op .and .u64 (.var 0) (.lit 6148914691236517205))) (.lit 3689348814741910323)))) (.lit 1085102592571150095)) (.op .shr .u64 (.op .and .u64 (.op .add .u64 (.op .shr .u64 (.op .add .u64 (.op .and .u64 (.op .shr .u64 (.op .add .u64 (.op .and .u64 (.op .shr .u64 (.var 0) (.lit 1)) (.lit 6148914691236517205)) (.op .and .u64 (.var 0) (.lit 6148914691236517205))) (.lit 2)) (.lit 3689348814741910323)) (.op .and .u64 (.op .add .u64 (.op .and .u64 (.op .shr .u64 (.var 0) (.lit 1)) (.lit 6148914691236517205)) (.op .and .u64 (.var 0) (.lit 6148914691236517205))) (.lit 3689348814741910323))) (.lit 4)) (.op .add .u64 (.op .and .u64 (.op .shr .u64 (.op .add .u64 (.op .and .u64 (.op .shr .u64 (.var 0) (.lit 1)) (.lit 6148914691236517205)) (.op .and .u64 (.var 0) (.lit 6148914691236517205))) (.lit 2)) (.lit 3689348814741910323)) (.op .and .u64 (.op .add .u64 (.op .and .u64 (.op .shr .u64 (.var 0) (.lit 1)) (.lit 6148914691236517205)) (.op .and .u64 (.var 0) (.lit 6148914691236517205))) (.lit 3689348814741910323)))) (.lit 1085102592571150095)) (.lit 8))) (.op .shr .u64 (.op .add .u64 (.op .and .u64 (.op .add .u64 (.op .shr .u64 (.op .add .u64 (.op .and .u64 (.op .shr .u64 (.op .add .u64 (.op .and .u64 (.op .shr .u64 (.var 0) (.lit 1)) (.lit 6148914691236517205)) (.op .and .u64 (.var 0) (.lit 6148914691236517205))) (.lit 2)) (.lit 3689348814741910323)) (.op .and .u64 (.op .add .u64 (.op .and .u64 (.op .shr .u64 (.var 0) (.lit 1)) (.lit 6148914691236517205)) (.op .and .u64 (.var 0) (.lit 6148914691236517205))) (.lit 3689348814741910323))) (.lit 4)) (.op .add .u64 (.op .and .u64 (.op .shr .u64 (.op .add .u64 (.op .and .u64 (.op .shr .u64 (.var 0) (.lit 1)) (.lit 6148914691236517205)) (.op .and .u64 (.var 0) (.lit 6148914691236517205))) (.lit 2)) (.lit 3689348814741910323)) (.op .and .u64 (.op .add .u64 (.op .and .u64 (.op .shr .u64 (.var 0) (.lit 1)) (.lit 6148914691236517205)) (.op .and .u64 (.var 0) (.lit 6148914691236517205))) (.lit 3689348814741910323)))) (.lit 1085102592571150095)) (.op .shr .u64 (.op .and .u64 (.op .add .u64 (.op .shr .u64 (.op .add .u64 (.op .and .u64 (.op .shr .u64 (.op .add .u64 (.op .and .u64 (.op .shr .u64 (.var 0) (.lit 1)) (.lit 6148914691236517205)) (.op .and .u64 (.var 0) (.lit 6148914691236517205))) (.lit 2)) (.lit 3689348814741910323)) (.op .and .u64 (.op .add .u64 (.op .and .u64 (.op .shr .u64 (.var 0) (.lit 1)) (.lit 6148914691236517205)) (.op .and .u64 (.var 0) (.lit 6148914691236517205))) (.lit 3689348814741910323))) (.lit 4)) (.op .add .u64 (.op .and .u64 (.op .shr .u64 (.op .add .u64 (.op .and .u64 (.op .shr .u64 (.var 0) (.lit 1)) (.lit 6148914691236517205)) (.op .and .u64 (.var 0) (.lit 6148914691236517205))) (.lit 2)) (.lit 3689348814741910323)) (.op .and .u64 (.op .add .u64 (.op .and .u64 (.op .shr .u64 (.var 0) (.lit 1)) (.lit 6148914691236517205)) (.op .and .u64 (.var 0) (.lit 6148914691236517205))) (.lit 3689348814741910323)))) (.lit 1085102592571150095)) (.lit 8))) (.lit 16))) (.op .shr .u64 (.op .add .u64 (.op .add .u64 (.op .and .u64 (.op .add .u64 (.op .shr .u64 (.op .add .u64 (.op .and .u64 (.op .shr .u64 (.op .add .u64 (.op .and .u64 (.op .shr .u64 (.var 0) (.lit 1)) (.lit 6148914691236517205)) (.op .and .u64 (.var 0) (.lit 6148914691236517205))) (.lit 2)) (.lit 3689348814741910323)) (.op .and .u64 (.op .add .u64 (.op .and .u64 (.op .shr .u64 (.var 0) (.lit 1)) (.lit 6148914691236517205)) (.op .and .u64 (.var 0) (.lit 6148914691236517205))) (.lit 3689348814741910323))) (.lit 4)) (.op .add .u64 (.op .and .u64 (.op .shr .u64 (.op .add .u64 (.op .and .u64 (.op .shr .u64 (.var 0) (.lit 1)) (.lit 6148914691236517205)) (.op .and .u64 (.var 0) (.lit 6148914691236517205))) (.lit 2)) (.lit 3689348814741910323)) (.op .and .u64 (.op .add .u64 (.op .and .u64 (.op .shr .u64 (.var 0) (.lit 1)) (.lit 6148914691236517205)) (.op .and .u64 (.var 0) (.lit 6148914691236517205))) (.lit 3689348814741910323)))) (.lit 1085102592571150095)) (.op .shr .u64 (.op .and .u64 (.op .add .u64 (.op .shr .u64 (.op .add .u64 (.op .and .u64 (.op .shr .u64 (.op .add .u64 (.op .and .u64 (.op .shr .u64 (.var 0) (.lit 1)) (.lit 6148914691236517205)) (.op .and .u64 (.var 0) (.lit 6148914691236517205))) (.lit 2)) (.lit 3689348814741910323)) (.op .and .u64 (.op .add .u64 (.op .and .u64 (.op .shr .u64 (.var 0) (.lit 1)) (.lit 6148914691236517205)) (.op .and .u64 (.var 0) (.lit 6148914691236517205))) (.lit 3689348814741910323))) (.lit 4)) (.op .add .u64 (.op .and .u64 (.op .shr .u64 (.op .add .u64 (.op .and .u64 (.op .shr .u64 (.var 0) (.lit 1)) (.lit 6148914691236517205)) (.op .and .u64 (.var 0) (.lit 6148914691236517205))) (.lit 2)) (.lit 3689348814741910323)) (.op .and .u64 (.op .add .u64 (.op .and .u64 (.op .shr .u64 (.var 0) (.lit 1)) (.lit 6148914691236517205)) (.op .and .u64 (.var 0) (.lit 6148914691236517205))) (.lit 3689348814741910323)))) (.lit 1085102592571150095)) (.lit 8))) (.op .shr .u64 (.op .add .u64 (.op .and .u64 (.op .add .u64 (.op .shr .u64 (.op .add .u64 (.op .and .u64 (.op .shr .u64 (.op .add .u64 (.op .and .u64 (.op .shr .u64 (.var 0) (.lit 1)) (.lit 6148914691236517205)) (.op .and .u64 (.var 0) (.lit 6148914691236517205))) (.lit 2)) (.lit 3689348814741910323)) (.op .and .u64 (.op .add .u64 (.op .and .u64 (.op .shr .u64 (.var 0) (.lit 1)) (.lit 6148914691236517205)) (.op .and .u64 (.var 0) (.lit 6148914691236517205))) (.lit 3689348814741910323))) (.lit 4)) (.op .add .u64 (.op .and .u64 (.op .shr .u64 (.op .add .u64 (.op .and .u64 (.op .shr .u64 (.var 0) (.lit 1)) (.lit 6148914691236517205)) (.op .and .u64 (.var 0) (.lit 6148914691236517205))) (.lit 2)) (.lit 3689348814741910323)) (.op .and .u64 (.op .add .u64 (.op .and .u64 (.op .shr .u64 (.var 0) (.lit 1)) (.lit 6148914691236517205)) (.op .and .u64 (.var 0) (.lit 6148914691236517205))) (.lit 3689348814741910323)))) (.lit 1085102592571150095)) (.op .shr .u64 (.op .and .u64 (.op .add .u64 (.op .shr .u64 (.op .add .u64 (.op .and .u64 (.op .shr .u64 (.op .add .u64 (.op .and .u64 (.op .shr .u64 (.var 0) (.lit 1)) (.lit 6148914691236517205)) (.op .and .u64 (.var 0) (.lit 6148914691236517205))) (.lit 2)) (.lit 3689348814741910323)) (.op .and .u64 (.op .add .u64 (.op .and .u64 (.op .shr .u64 (.var 0) (.lit 1)) (.lit 6148914691236517205)) (.op .and .u64 (.var 0) (.lit 6148914691236517205))) (.lit 3689348814741910323))) (.lit 4)) (.op .add .u64 (.op .and .u64 (.op .shr .u64 (.op .add .u64 (.op .and .u64 (.op .shr .u64 (.var 0) (.lit 1)) (.lit 6148914691236517205)) (.op .and .u64 (.var 0) (.lit 6148914691236517205))) (.lit 2)) (.lit 3689348814741910323)) (.op .and .u64 (.op .add .u64 (.op .and .u64 (.op .shr .u64 (.var 0) (.lit 1)) (.lit 6148914691236517205)) (.op .and .u64 (.var 0) (.lit 6148914691236517205))) (.lit 3689348814741910323)))) (.lit 1085102592571150095)) (.lit 8))) (.lit 16))) (.lit 32)))) (.lit 127))) [])
def l29 : List (Nat × List Nat × List (Nat × Nat) × List Nat) := []
theorem e29 : ev Try.prog ⟨allF, [], l29⟩ (bodyOf Try.f29) 0 (initSt [(.int .u64 (.var 0))] [] Try.f29.ntmps [.int .u64]) (finK Try.prog Try.f29.results []) = t29 := by kernel_rfl
theorem c29 {G : List Value} {h : H} {R : Value → List (List Value) → H → Prop} (hG : FitsL [.int .u64] G) (H : holds Try.prog R t29 G [] h) : CallsA Try.prog 29 (fun e => SV.denL G (fun k => e (k - 1000000)) [(.int .u64 (.var 0))]) ([].map (SV.denL G dE)) h R :=
  CallsA.of_ev (cf := ⟨allF, [], l29⟩) (fn := Try.f29) (c := bodyOf Try.f29) (pcs := []) Try.func29 (by rfl) callOK (by rfl) hG (by rfl) (by rw [show ([] : List (List SV)).map List.length = [] from rfl, e29]; exact H)
end Go.Proofs.Ytgcaicdmjbkplaa
