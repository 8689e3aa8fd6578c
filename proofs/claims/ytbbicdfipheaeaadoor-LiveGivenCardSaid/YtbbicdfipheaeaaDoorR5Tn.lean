/-
  What the evaluator leaves of the functions of this seat (trees, printed by a program of ours), and their contracts from it. Conditions: none.
-/
import Derived.Test.YtbbicdfipheaeaaDoorR1Tr
set_option linter.unusedVariables false
set_option linter.unusedSimpArgs false
namespace Go.Proofs.YtbbicdfipheaeaaDoor
open Go

/-- What is left of outworker/outworkerref10.taken. -/
def t63 : Out :=
 (.loop 0 [(.int .i64 (.var 5))] [.int .i64] 
  (.ite (.cmp .lss (.var 7) (.len 0))
   (.need (.tt true) [(.cmp .geq (.var 7) (.lit 0)), (.cmp .lss (.var 7) (.len 0))] 
   (.load (.tt true) (.idx (.var 0) (.var 7) 7) [.int .u8, .int .u8, .int .i64, .int .i64, .int .i64, .int .i64, .sl] 
   (.call 72 [(.agg [(.int .u8 (.var 8)), (.int .u8 (.var 9)), (.int .i64 (.var 10)), (.int .i64 (.var 11)), (.int .i64 (.var 12)), (.int .i64 (.var 13)), (.val 14)])] [] [] [] [(false, [.sl])] 
   (.call 22 [(.val 15), (.int .i64 (.var 6))] [] [] [] [(false, [.bool])] 
   (.ite (.var 16)
    (.done (.int .i64 (.lit 1)) [])
    (.need (.tt true) [(.cmp .geq (.var 7) (.lit 0)), (.cmp .lss (.var 7) (.len 0))] 
    (.load (.tt true) (.fld (.idx (.var 0) (.var 7) 7) 0) [.int .u8] 
    (.call 73 [(.int .u8 (.var 17))] [] [] [] [(false, [.bool])] 
    (.need (.var 18) [(.cmp .geq (.var 7) (.lit 0)), (.cmp .lss (.var 7) (.len 0))] 
    (.load (.var 18) (.fld (.idx (.var 0) (.var 7) 7) 2) [.int .i64] 
    (.ite (.ite (.var 18) (.cmp .eql (.var 19) (.var 6)) (.tt false))
     (.done (.int .i64 (.lit 2)) [])
     (.again 0 [(.int .i64 (.op .add .i64 (.var 7) (.lit 1)))]))))))))))))
   (.call 74 [(.agg [(.int .u8 (.var 1)), (.int .i64 (.var 2)), (.int .i64 (.var 3)), (.int .i64 (.var 4))])] [] [] [] [(false, [.bool])] 
   (.ite (.ite (.var 8) (.cmp .eql (.var 2) (.var 6)) (.tt false))
    (.done (.int .i64 (.lit 1)) [])
    (.done (.int .i64 (.lit 0)) [])))))
def l63 : List (Nat × List Nat × List (Nat × Nat) × List Nat) := [(2, [7], [], [9, 10, 11, 12, 13, 16, 17, 18, 19, 20, 21, 22, 23, 6, 24, 25, 26, 27, 28, 29, 30, 31, 32, 33, 34, 35, 36, 37, 38, 39, 40, 14, 15])]
theorem e63 : ev Tryd.prog ⟨allF, [], l63⟩ (bodyOf Tryd.f63) 0 (initSt [(.agg [(.val 0), (.int .u8 (.var 1)), (.int .i64 (.var 2)), (.int .i64 (.var 3)), (.int .i64 (.var 4))]), (.int .i64 (.var 5)), (.int .i64 (.var 6))] [] Tryd.f63.ntmps [.sl, .int .u8, .int .i64, .int .i64, .int .i64, .int .i64, .int .i64]) (finK Tryd.prog Tryd.f63.results []) = t63 := by kernel_rfl
theorem c63 {G : List Value} {h : H} {R : Value → List (List Value) → H → Prop} (hG : FitsL [.sl, .int .u8, .int .i64, .int .i64, .int .i64, .int .i64, .int .i64] G) (H : holds Tryd.prog R t63 G [] h) : CallsA Tryd.prog 63 (fun e => SV.denL G (fun k => e (k - 1000000)) [(.agg [(.val 0), (.int .u8 (.var 1)), (.int .i64 (.var 2)), (.int .i64 (.var 3)), (.int .i64 (.var 4))]), (.int .i64 (.var 5)), (.int .i64 (.var 6))]) ([].map (SV.denL G dE)) h R :=
  CallsA.of_ev (cf := ⟨allF, [], l63⟩) (fn := Tryd.f63) (c := bodyOf Tryd.f63) (pcs := []) Tryd.func63 (by rfl) callOK (by rfl) hG (by rfl) (by rw [show ([] : List (List SV)).map List.length = [] from rfl, e63]; exact H)
/-- What is left of outworker/outworkerref10.Needed. -/
def t34 : Out :=
 (.need (.tt true) [(.cmp .geq (.var 1) (.lit 0)), (.cmp .lss (.var 1) (.len 0))] 
 (.load (.tt true) (.idx (.var 0) (.var 1) 5) [.sl, .int .u8, .int .i64, .int .i64, .int .i64] 
 (.call 63 [(.agg [(.val 4), (.int .u8 (.var 5)), (.int .i64 (.var 6)), (.int .i64 (.var 7)), (.int .i64 (.var 8))]), (.int .i64 (.var 2)), (.int .i64 (.var 3))] [] [] [] [(false, [.int .i64])] 
 (.ite (.cmp .neq (.var 9) (.lit 0))
  (.done (.bool (.cmp .eql (.var 9) (.lit 1))) [])
  (.mk 4 1 1 (.len 0) 
  (.alloc 3 [] (.lsl 0) 
  (.need (.tt true) [(.cmp .geq (.var 1) (.lit 0)), (.cmp .lss (.var 1) (.len 0))] 
  (.load (.tt true) (.fld (.idx (.var 0) (.var 1) 5) 1) [.int .u8, .int .i64, .int .i64, .int .i64] 
  (.call 32 [(.agg [(.int .u8 (.var 12)), (.int .i64 (.var 13)), (.int .i64 (.var 14)), (.int .i64 (.var 15))])] [] [] [] [(false, [.sl])] 
  (.app 3 1 8 (.val 11) (.sl (.val 16)) 
  (.loop 0 [(.val 17)] [.sl] 
   (.ite (.cmp .gtr (.len 18) (.lit 0))
    (.need (.tt true) [(.tt true), (.cmp .lss (.lit 0) (.len 18))] 
    (.load (.tt true) (.idx (.var 18) (.lit 0) 1) [.int .i64] 
    (.need (.tt true) [(.tt true), (.cmp .leq (.lit 1) (.len 18))] 
    (.bnd (.slice (.val 18) (some (.lit 1)) none 1) 
    (.need (.tt true) [(.cmp .geq (.var 19) (.lit 0)), (.cmp .lss (.var 19) (.len 10))] 
    (.load (.tt true) (.idx (.var 10) (.var 19) 1) [.bool] 
    (.ite (.var 21)
     (.again 0 [(.val 20)])
     (.need (.tt true) [(.cmp .geq (.var 19) (.lit 0)), (.cmp .lss (.var 19) (.len 10))] 
     (.store (.idx (.var 10) (.var 19) 1) [(.bool (.tt true))] 
     (.need (.tt true) [(.cmp .geq (.var 19) (.lit 0)), (.cmp .lss (.var 19) (.len 0))] 
     (.load (.tt true) (.idx (.var 0) (.var 19) 5) [.sl, .int .u8, .int .i64, .int .i64, .int .i64] 
     (.call 63 [(.agg [(.val 22), (.int .u8 (.var 23)), (.int .i64 (.var 24)), (.int .i64 (.var 25)), (.int .i64 (.var 26))]), (.int .i64 (.lit 0)), (.int .i64 (.var 3))] [] [] [] [(false, [.int .i64])] 
     (.ite (.cmp .eql (.var 27) (.lit 1))
      (.done (.bool (.tt true)) [])
      (.ite (.cmp .eql (.var 27) (.lit 0))
       (.need (.tt true) [(.cmp .geq (.var 19) (.lit 0)), (.cmp .lss (.var 19) (.len 0))] 
       (.load (.tt true) (.fld (.idx (.var 0) (.var 19) 5) 1) [.int .u8, .int .i64, .int .i64, .int .i64] 
       (.call 32 [(.agg [(.int .u8 (.var 28)), (.int .i64 (.var 29)), (.int .i64 (.var 30)), (.int .i64 (.var 31))])] [] [] [] [(false, [.sl])] 
       (.app 3 1 8 (.val 20) (.sl (.val 32)) 
       (.again 0 [(.val 33)])))))
       (.again 0 [(.val 20)])))))))))))))))
    (.done (.bool (.tt false)) [])))))))))))))
def l34 : List (Nat × List Nat × List (Nat × Nat) × List Nat) := [(6, [11], [], [36, 37, 38, 39, 40, 41, 12, 42, 43, 44, 45, 46, 47, 48, 49, 50, 51, 52, 53, 54, 55, 56, 13, 57, 58, 8, 59, 60, 61, 62, 63, 64, 65, 66, 67, 68])]
theorem e34 : ev Tryd.prog ⟨allF, [28], l34⟩ (bodyOf Tryd.f34) 0 (initSt [(.val 0), (.int .i64 (.var 1)), (.int .i64 (.var 2)), (.int .i64 (.var 3))] [] Tryd.f34.ntmps [.sl, .int .i64, .int .i64, .int .i64]) (finK Tryd.prog Tryd.f34.results []) = t34 := by kernel_rfl
theorem c34 {G : List Value} {h : H} {R : Value → List (List Value) → H → Prop} (hG : FitsL [.sl, .int .i64, .int .i64, .int .i64] G) (H : holds Tryd.prog R t34 G [] h) : CallsA Tryd.prog 34 (fun e => SV.denL G (fun k => e (k - 1000000)) [(.val 0), (.int .i64 (.var 1)), (.int .i64 (.var 2)), (.int .i64 (.var 3))]) ([].map (SV.denL G dE)) h R :=
  CallsA.of_ev (cf := ⟨allF, [28], l34⟩) (fn := Tryd.f34) (c := bodyOf Tryd.f34) (pcs := []) Tryd.func34 (by rfl) callOK (by rfl) hG (by rfl) (by rw [show ([] : List (List SV)).map List.length = [] from rfl, e34]; exact H)
/-- What is left of outworker/outworkerref10.Behind. -/
def t35 : Out :=
 (.need (.tt true) [(.cmp .geq (.var 1) (.lit 0)), (.cmp .lss (.var 1) (.len 0))] 
 (.load (.tt true) (.fld (.idx (.var 0) (.var 1) 5) 1) [.int .u8, .int .i64, .int .i64, .int .i64] 
 (.call 32 [(.agg [(.int .u8 (.var 3)), (.int .i64 (.var 4)), (.int .i64 (.var 5)), (.int .i64 (.var 6))])] [] [] [] [(false, [.sl])] 
 (.loop 0 [(.int .i64 (.lit 0))] [.int .i64] 
  (.ite (.cmp .lss (.var 8) (.len 7))
   (.need (.tt true) [(.cmp .geq (.var 8) (.lit 0)), (.cmp .lss (.var 8) (.len 7))] 
   (.load (.tt true) (.idx (.var 7) (.var 8) 1) [.int .i64] 
   (.call 34 [(.val 0), (.int .i64 (.var 9)), (.int .i64 (.lit 0)), (.int .i64 (.var 2))] [] [] [] [(false, [.bool])] 
   (.ite (.var 10)
    (.done (.bool (.tt true)) [])
    (.again 0 [(.int .i64 (.op .add .i64 (.var 8) (.lit 1)))])))))
   (.done (.bool (.tt false)) []))))))
def l35 : List (Nat × List Nat × List (Nat × Nat) × List Nat) := [(3, [8], [], [15, 16, 17, 18, 21, 22, 23, 24, 25, 26, 27, 6, 19, 20])]
theorem e35 : ev Tryd.prog ⟨allF, [], l35⟩ (bodyOf Tryd.f35) 0 (initSt [(.val 0), (.int .i64 (.var 1)), (.int .i64 (.var 2))] [] Tryd.f35.ntmps [.sl, .int .i64, .int .i64]) (finK Tryd.prog Tryd.f35.results []) = t35 := by kernel_rfl
theorem c35 {G : List Value} {h : H} {R : Value → List (List Value) → H → Prop} (hG : FitsL [.sl, .int .i64, .int .i64] G) (H : holds Tryd.prog R t35 G [] h) : CallsA Tryd.prog 35 (fun e => SV.denL G (fun k => e (k - 1000000)) [(.val 0), (.int .i64 (.var 1)), (.int .i64 (.var 2))]) ([].map (SV.denL G dE)) h R :=
  CallsA.of_ev (cf := ⟨allF, [], l35⟩) (fn := Tryd.f35) (c := bodyOf Tryd.f35) (pcs := []) Tryd.func35 (by rfl) callOK (by rfl) hG (by rfl) (by rw [show ([] : List (List SV)).map List.length = [] from rfl, e35]; exact H)
/-- What is left of outworker/outworkerlaw12.LiveAll. -/
def t8 : Out :=
 (.call 29 [] [] [] [] [(false, [.bool])] 
 (.ite (.not (.var 5))
  (.done (.bool (.tt false)) [])
  (.call 12 [(.agg [(.int .u8 (.var 0)), (.int .u8 (.var 1)), (.int .u8 (.var 2)), (.val 3)])] [] [] [] [(true, [.int .i64, .int .i64, .sl])] 
  (.call 30 [(.agg [(.int .i64 (.var 6)), (.int .i64 (.var 7)), (.val 8)]), (.val 4)] [] [] [] [(false, [.sl])] 
  (.call 31 [(.val 9)] [] [] [] [(false, [.sl]), (false, [.sl])] 
  (.ite (.ite (.cmp .neq (.len 10) (.len 9)) (.tt true) (.cmp .neq (.len 11) (.len 9)))
   (.done (.bool (.tt false)) [])
   (.loop 0 [(.int .i64 (.lit 0))] [.int .i64] 
    (.ite (.cmp .lss (.var 12) (.len 9))
     (.need (.tt true) [(.cmp .geq (.var 12) (.lit 0)), (.cmp .lss (.var 12) (.len 9))] 
     (.load (.tt true) (.idx (.var 9) (.var 12) 5) [.sl, .int .u8, .int .i64, .int .i64, .int .i64] 
     (.need (.tt true) [(.cmp .geq (.var 12) (.lit 0)), (.cmp .lss (.var 12) (.len 11))] 
     (.load (.tt true) (.idx (.var 11) (.var 12) 1) [.sl] 
     (.call 33 [(.agg [(.val 13), (.int .u8 (.var 14)), (.int .i64 (.var 15)), (.int .i64 (.var 16)), (.int .i64 (.var 17))]), (.agg [(.val 18)])] [] [] [] [(false, [.sl])] 
     (.need (.tt true) [(.cmp .geq (.var 12) (.lit 0)), (.cmp .lss (.var 12) (.len 9))] 
     (.load (.tt true) (.fld (.idx (.var 9) (.var 12) 5) 0) [.sl] 
     (.ite (.cmp .neq (.len 19) (.len 20))
      (.done (.bool (.tt false)) [])
      (.loop 1 [(.int .i64 (.lit 0))] [.int .i64] 
       (.ite (.cmp .lss (.var 21) (.var 7))
        (.need (.tt true) [(.cmp .geq (.var 12) (.lit 0)), (.cmp .lss (.var 12) (.len 10))] 
        (.load (.tt true) (.idx (.var 10) (.var 12) 1) [.sl] 
        (.call 23 [(.agg [(.val 22)]), (.int .i64 (.var 21))] [] [] [] [(false, [.bool])] 
        (.call 34 [(.val 9), (.int .i64 (.var 12)), (.int .i64 (.lit 0)), (.int .i64 (.var 21))] [] [] [] [(false, [.bool])] 
        (.need (.not (.ite (.var 23) (.not (.var 24)) (.var 24))) [(.cmp .geq (.var 12) (.lit 0)), (.cmp .lss (.var 12) (.len 11))] 
        (.load (.not (.ite (.var 23) (.not (.var 24)) (.var 24))) (.idx (.var 11) (.var 12) 1) [.sl] 
        (.ite (.not (.ite (.var 23) (.not (.var 24)) (.var 24)))
         (.call 23 [(.agg [(.val 25)]), (.int .i64 (.var 21))] [] [] [] [(false, [.bool])] 
         (.call 35 [(.val 9), (.int .i64 (.var 12)), (.int .i64 (.var 21))] [] [] [] [(false, [.bool])] 
         (.ite (.ite (.var 26) (.not (.var 27)) (.var 27))
          (.done (.bool (.tt false)) [])
          (.loop 2 [(.int .i64 (.lit 0))] [.int .i64] 
           (.ite (.cmp .lss (.var 28) (.len 19))
            (.need (.tt true) [(.cmp .geq (.var 28) (.lit 0)), (.cmp .lss (.var 28) (.len 19))] 
            (.load (.tt true) (.idx (.var 19) (.var 28) 1) [.sl] 
            (.call 23 [(.agg [(.val 29)]), (.int .i64 (.var 21))] [] [] [] [(false, [.bool])] 
            (.call 34 [(.val 9), (.int .i64 (.var 12)), (.int .i64 (.op .add .i64 (.var 28) (.lit 1))), (.int .i64 (.var 21))] [] [] [] [(false, [.bool])] 
            (.ite (.ite (.var 30) (.not (.var 31)) (.var 31))
             (.done (.bool (.tt false)) [])
             (.again 2 [(.int .i64 (.op .add .i64 (.var 28) (.lit 1)))]))))))
            (.again 1 [(.int .i64 (.op .add .i64 (.var 21) (.lit 1)))]))))))
         (.done (.bool (.tt false)) []))))))))
        (.again 0 [(.int .i64 (.op .add .i64 (.var 12) (.lit 1)))])))))))))))
     (.done (.bool (.tt true)) [])))))))))
def l8 : List (Nat × List Nat × List (Nat × Nat) × List Nat) := [(9, [39], [], [40, 41, 9, 42, 43, 44, 45, 46, 47, 48, 49, 50, 10, 51, 52, 53, 54, 55, 56, 57, 58, 59, 4, 60, 61, 62, 63, 64, 11, 65, 66, 67, 68, 69, 70, 71, 72, 73, 74, 75, 76, 77, 78, 79, 80, 81, 82, 83, 84, 85, 86, 87, 88, 89, 90, 91, 92, 93, 12, 94, 95, 96, 97, 98, 99, 100, 101, 102, 103, 104, 105, 106, 107, 108, 109]), (15, [62], [], [63, 64, 11, 65, 66, 67, 68, 69, 70, 71, 72, 73, 74, 75, 76, 77, 78, 79, 80, 81, 82, 83, 84, 85, 86, 87, 88, 4, 89, 90, 91, 92, 93, 12, 94, 95, 96, 97, 98, 99, 100, 101, 102, 103, 104, 105, 106, 107, 108]), (20, [91], [], [92, 93, 12, 94, 95, 96, 97, 98, 99, 100, 101, 102, 103, 104, 105, 106, 4, 107])]
theorem e8 : ev Tryd.prog ⟨allF, [], l8⟩ (bodyOf Tryd.f8) 0 (initSt [(.agg [(.int .u8 (.var 0)), (.int .u8 (.var 1)), (.int .u8 (.var 2)), (.val 3)]), (.val 4)] [] Tryd.f8.ntmps [.int .u8, .int .u8, .int .u8, .sl, .sl]) (finK Tryd.prog Tryd.f8.results []) = t8 := by kernel_rfl
theorem c8 {G : List Value} {h : H} {R : Value → List (List Value) → H → Prop} (hG : FitsL [.int .u8, .int .u8, .int .u8, .sl, .sl] G) (H : holds Tryd.prog R t8 G [] h) : CallsA Tryd.prog 8 (fun e => SV.denL G (fun k => e (k - 1000000)) [(.agg [(.int .u8 (.var 0)), (.int .u8 (.var 1)), (.int .u8 (.var 2)), (.val 3)]), (.val 4)]) ([].map (SV.denL G dE)) h R :=
  CallsA.of_ev (cf := ⟨allF, [], l8⟩) (fn := Tryd.f8) (c := bodyOf Tryd.f8) (pcs := []) Tryd.func8 (by rfl) callOK (by rfl) hG (by rfl) (by rw [show ([] : List (List SV)).map List.length = [] from rfl, e8]; exact H)
end Go.Proofs.YtbbicdfipheaeaaDoor
