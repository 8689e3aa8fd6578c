/-
  What the evaluator leaves of the functions of this seat (trees, printed by a program of ours), and their contracts from it. Conditions: none.
-/
import Derived.Test.YtbgfabppmobpgaaDoorR1Tr
set_option linter.unusedVariables false
set_option linter.unusedSimpArgs false
namespace Go.Proofs.YtbgfabppmobpgaaDoor
open Go

/-- What is left of outworker/outworkerlaw16.ColourFits. -/
def t7 : Out :=
 (.call 19 [] [] [] [] [(false, [.bool])] 
 (.ite (.not (.var 5))
  (.done (.bool (.tt false)) [])
  (.call 12 [(.int .u8 (.var 0)), (.val 1), (.val 2)] [] [] [] [(true, [.int .i64, .sl, .sl])] 
  (.call 21 [(.int .i64 (.var 6)), (.int .u16 (.var 4))] [] [] [] [(false, [.sl])] 
  (.call 20 [(.agg [(.int .i64 (.var 6)), (.val 7), (.val 8)]), (.int .i64 (.op .add .i64 (.lit 1) (.conv .i64 (.op .rem .u8 (.var 3) (.lit 8))))), (.val 9)] [] [] [] [(false, [.sl]), (false, [.int .i64])] 
  (.ite (.not (.cmp .neq (.var 11) (.lit 0)))
   (.call 15 [(.agg [(.int .i64 (.var 6)), (.val 7), (.val 8)]), (.int .i64 (.op .add .i64 (.lit 1) (.conv .i64 (.op .rem .u8 (.var 3) (.lit 8))))), (.val 10)] [] [] [] [(false, [.bool])] 
   (.ite (.not (.var 12))
    (.done (.bool (.tt false)) [])
    (.loop 0 [(.bool (.tt true)), (.int .i64 (.lit 0))] [.bool, .int .i64] 
     (.ite (.cmp .lss (.var 14) (.len 10))
      (.need (.tt true) [(.cmp .geq (.var 14) (.lit 0)), (.cmp .lss (.var 14) (.len 10))] 
      (.load (.tt true) (.idx (.var 10) (.var 14) 1) [.int .i64] 
      (.loop 1 [(.bool (.tt false)), (.int .i64 (.lit 0))] [.bool, .int .i64] 
       (.ite (.cmp .lss (.var 17) (.len 8))
        (.need (.tt true) [(.cmp .geq (.var 17) (.lit 0)), (.cmp .lss (.var 17) (.len 8))] 
        (.load (.tt true) (.idx (.var 8) (.var 17) 2) [.int .i64, .int .i64] 
        (.again 1 [(.bool (.ite (.ite (.var 16) (.tt true) (.cmp .eql (.var 18) (.var 14))) (.tt true) (.cmp .eql (.var 19) (.var 14)))), (.int .i64 (.op .add .i64 (.var 17) (.lit 1)))])))
        (.call 22 [(.agg [(.int .i64 (.var 6)), (.val 7), (.val 8)]), (.int .i64 (.var 14))] [] [] [] [(false, [.int .i64])] 
        (.ite (.ite (.ite (.cmp .lss (.var 18) (.op .add .i64 (.lit 1) (.conv .i64 (.op .rem .u8 (.var 3) (.lit 8))))) (.not (.var 16)) (.tt false)) (.cmp .lss (.var 15) (.lit 0)) (.tt false))
         (.done (.bool (.tt false)) [])
         (.again 0 [(.bool (.ite (.var 13) (.cmp .lss (.var 18) (.op .add .i64 (.lit 1) (.conv .i64 (.op .rem .u8 (.var 3) (.lit 8))))) (.tt false))), (.int .i64 (.op .add .i64 (.var 14) (.lit 1)))])))))))
      (.ite (.var 13)
       (.call 23 [(.val 10)] [] [] [] [(false, [.int .i64])] 
       (.done (.bool (.cmp .eql (.var 15) (.lit 0))) []))
       (.done (.bool (.tt true)) []))))))
   (.done (.bool (.tt false)) [])))))))
def l7 : List (Nat × List Nat × List (Nat × Nat) × List Nat) := [(10, [15, 53], [], [54, 55, 56, 57, 16, 17, 18, 58, 59, 60, 61, 62, 63, 64, 20, 65, 66, 67, 68, 69, 70, 71, 72, 73, 74, 75, 76, 77, 78, 79, 80, 81, 82, 83, 21, 84, 85, 86, 87, 88, 89, 90, 91, 92, 93, 94, 95, 96, 10, 97]), (14, [18, 61], [], [62, 63, 64, 20, 65, 66, 67, 68, 69, 70, 71, 72, 73, 74, 75, 76, 77, 78])]
theorem e7 : ev Tryd.prog ⟨allF, [], l7⟩ (bodyOf Tryd.f7) 0 (initSt [(.int .u8 (.var 0)), (.val 1), (.val 2), (.int .u8 (.var 3)), (.int .u16 (.var 4))] [] Tryd.f7.ntmps [.int .u8, .sl, .sl, .int .u8, .int .u16]) (finK Tryd.prog Tryd.f7.results []) = t7 := by kernel_rfl
theorem c7 {G : List Value} {h : H} {R : Value → List (List Value) → H → Prop} (hG : FitsL [.int .u8, .sl, .sl, .int .u8, .int .u16] G) (H : holds Tryd.prog R t7 G [] h) : CallsA Tryd.prog 7 (fun e => SV.denL G (fun k => e (k - 1000000)) [(.int .u8 (.var 0)), (.val 1), (.val 2), (.int .u8 (.var 3)), (.int .u16 (.var 4))]) ([].map (SV.denL G dE)) h R :=
  CallsA.of_ev (cf := ⟨allF, [], l7⟩) (fn := Tryd.f7) (c := bodyOf Tryd.f7) (pcs := []) Tryd.func7 (by rfl) callOK (by rfl) hG (by rfl) (by rw [show ([] : List (List SV)).map List.length = [] from rfl, e7]; exact H)
/-- What is left of outworker/outworkerlaw16.ColourTrees. -/
def t9 : Out :=
 (.call 19 [] [] [] [] [(false, [.bool])] 
 (.ite (.not (.var 2))
  (.done (.bool (.tt false)) [])
  (.loop 0 [(.int .i64 (.lit 0)), (.cst (.slice none 0 0))] [.int .i64, .sl] 
   (.ite (.cmp .lss (.var 3) (.conv .i64 (.op .rem .u8 (.var 0) (.lit 20))))
    (.app 41 2 16 (.val 4) (.cells [(.int .i64 (.op .mul .i64 (.lit 2) (.var 3))), (.int .i64 (.op .add .i64 (.op .mul .i64 (.lit 2) (.var 3)) (.lit 1)))] 1) 
    (.again 0 [(.int .i64 (.op .add .i64 (.var 3) (.lit 1))), (.val 5)]))
    (.call 21 [(.int .i64 (.op .mul .i64 (.lit 2) (.conv .i64 (.op .rem .u8 (.var 0) (.lit 20))))), (.int .u16 (.var 1))] [] [] [] [(false, [.sl])] 
    (.call 20 [(.agg [(.int .i64 (.op .mul .i64 (.lit 2) (.conv .i64 (.op .rem .u8 (.var 0) (.lit 20))))), (.val 4), (.cst (.slice none 0 0))]), (.int .i64 (.lit 2)), (.val 5)] [] [] [] [(false, [.sl]), (false, [.int .i64])] 
    (.call 21 [(.int .i64 (.conv .i64 (.op .rem .u8 (.var 0) (.lit 20)))), (.int .u16 (.var 1))] [] [] [] [(false, [.sl])] 
    (.call 20 [(.agg [(.int .i64 (.conv .i64 (.op .rem .u8 (.var 0) (.lit 20)))), (.cst (.slice none 0 0)), (.cst (.slice none 0 0))]), (.int .i64 (.lit 1)), (.val 8)] [] [] [] [(false, [.sl]), (false, [.int .i64])] 
    (.ite (.ite (.cmp .eql (.var 7) (.lit 0)) (.cmp .eql (.var 10) (.lit 0)) (.tt false))
     (.call 23 [(.val 6)] [] [] [] [(false, [.int .i64])] 
     (.ite (.cmp .eql (.var 11) (.lit 0))
      (.call 15 [(.agg [(.int .i64 (.op .mul .i64 (.lit 2) (.conv .i64 (.op .rem .u8 (.var 0) (.lit 20))))), (.val 4), (.cst (.slice none 0 0))]), (.int .i64 (.lit 2)), (.val 6)] [] [] [] [(false, [.bool])] 
      (.ite (.var 12)
       (.call 23 [(.val 9)] [] [] [] [(false, [.int .i64])] 
       (.done (.bool (.ite (.cmp .eql (.var 13) (.lit 0)) (.cmp .eql (.len 9) (.conv .i64 (.op .rem .u8 (.var 0) (.lit 20)))) (.tt false))) []))
       (.done (.bool (.tt false)) [])))
      (.done (.bool (.tt false)) [])))
     (.done (.bool (.tt false)) []))))))))))
def l9 : List (Nat × List Nat × List (Nat × Nat) × List Nat) := [(6, [21], [(6, 1)], [22, 23, 7, 24, 25, 26, 27, 28, 29, 30, 31, 32, 33, 34, 35])]
theorem e9 : ev Tryd.prog ⟨allF, [], l9⟩ (bodyOf Tryd.f9) 0 (initSt [(.int .u8 (.var 0)), (.int .u16 (.var 1))] [] Tryd.f9.ntmps [.int .u8, .int .u16]) (finK Tryd.prog Tryd.f9.results []) = t9 := by kernel_rfl
theorem c9 {G : List Value} {h : H} {R : Value → List (List Value) → H → Prop} (hG : FitsL [.int .u8, .int .u16] G) (H : holds Tryd.prog R t9 G [] h) : CallsA Tryd.prog 9 (fun e => SV.denL G (fun k => e (k - 1000000)) [(.int .u8 (.var 0)), (.int .u16 (.var 1))]) ([].map (SV.denL G dE)) h R :=
  CallsA.of_ev (cf := ⟨allF, [], l9⟩) (fn := Tryd.f9) (c := bodyOf Tryd.f9) (pcs := []) Tryd.func9 (by rfl) callOK (by rfl) hG (by rfl) (by rw [show ([] : List (List SV)).map List.length = [] from rfl, e9]; exact H)
/-- What is left of outworker/outworkerlaw16.ColourSame. -/
def t10 : Out :=
 (.call 19 [] [] [] [] [(false, [.bool])] 
 (.ite (.not (.var 5))
  (.done (.bool (.tt false)) [])
  (.call 12 [(.int .u8 (.var 0)), (.val 1), (.val 2)] [] [] [] [(true, [.int .i64, .sl, .sl])] 
  (.call 21 [(.int .i64 (.var 6)), (.int .u16 (.var 4))] [] [] [] [(false, [.sl])] 
  (.call 20 [(.agg [(.int .i64 (.var 6)), (.val 7), (.val 8)]), (.int .i64 (.op .add .i64 (.lit 1) (.conv .i64 (.op .rem .u8 (.var 3) (.lit 8))))), (.val 9)] [] [] [] [(false, [.sl]), (false, [.int .i64])] 
  (.call 12 [(.int .u8 (.var 0)), (.val 1), (.val 2)] [] [] [] [(true, [.int .i64, .sl, .sl])] 
  (.call 21 [(.int .i64 (.var 6)), (.int .u16 (.var 4))] [] [] [] [(false, [.sl])] 
  (.call 20 [(.agg [(.int .i64 (.var 12)), (.val 13), (.val 14)]), (.int .i64 (.op .add .i64 (.lit 1) (.conv .i64 (.op .rem .u8 (.var 3) (.lit 8))))), (.val 15)] [] [] [] [(false, [.sl]), (false, [.int .i64])] 
  (.ite (.ite (.ite (.cmp .neq (.var 11) (.lit 0)) (.tt true) (.cmp .neq (.var 17) (.lit 0))) (.tt true) (.cmp .neq (.len 10) (.len 16)))
   (.done (.bool (.tt false)) [])
   (.loop 0 [(.int .i64 (.lit 0))] [.int .i64] 
    (.ite (.cmp .lss (.var 18) (.len 10))
     (.need (.tt true) [(.cmp .geq (.var 18) (.lit 0)), (.cmp .lss (.var 18) (.len 10))] 
     (.load (.tt true) (.idx (.var 10) (.var 18) 1) [.int .i64] 
     (.need (.tt true) [(.cmp .geq (.var 18) (.lit 0)), (.cmp .lss (.var 18) (.len 16))] 
     (.load (.tt true) (.idx (.var 16) (.var 18) 1) [.int .i64] 
     (.need (.not (.cmp .neq (.var 19) (.var 20))) [(.cmp .geq (.var 18) (.lit 0)), (.cmp .lss (.var 18) (.len 9))] 
     (.load (.not (.cmp .neq (.var 19) (.var 20))) (.idx (.var 9) (.var 18) 1) [.bool] 
     (.ite (.not (.cmp .neq (.var 19) (.var 20)))
      (.call 21 [(.int .i64 (.var 6)), (.int .u16 (.var 4))] [] [] [] [(false, [.sl])] 
      (.still (.not (.cmp .neq (.var 19) (.var 20))) (.idx (.var 9) (.var 18) 1) [(.bool (.var 21))] 
      (.still (.tt true) (.idx (.var 16) (.var 18) 1) [(.int .i64 (.var 20))] 
      (.still (.tt true) (.idx (.var 10) (.var 18) 1) [(.int .i64 (.var 19))] 
      (.need (.tt true) [(.cmp .geq (.var 18) (.lit 0)), (.cmp .lss (.var 18) (.len 22))] 
      (.load (.tt true) (.idx (.var 22) (.var 18) 1) [.bool] 
      (.ite (.ite (.var 21) (.not (.var 23)) (.var 23))
       (.done (.bool (.tt false)) [])
       (.again 0 [(.int .i64 (.op .add .i64 (.var 18) (.lit 1)))]))))))))
      (.still (.tt true) (.idx (.var 16) (.var 18) 1) [(.int .i64 (.var 20))] 
      (.still (.tt true) (.idx (.var 10) (.var 18) 1) [(.int .i64 (.var 19))] 
      (.done (.bool (.tt false)) []))))))))))
     (.call 12 [(.int .u8 (.var 0)), (.val 1), (.val 2)] [] [] [] [(true, [.int .i64, .sl, .sl])] 
     (.call 24 [(.val 7), (.val 20)] [] [] [] [(false, [.bool])] 
     (.ite (.var 22)
      (.call 24 [(.val 8), (.val 21)] [] [] [] [(false, [.bool])] 
      (.done (.bool (.var 23)) []))
      (.done (.bool (.tt false)) [])))))))))))))))
def l10 : List (Nat × List Nat × List (Nat × Nat) × List Nat) := [(10, [70], [], [71, 72, 17, 73, 74, 75, 76, 77, 78, 79, 80, 81, 82, 83, 84, 85, 86, 87, 88, 89, 90, 91, 92, 93, 94, 95, 10, 96])]
theorem e10 : ev Tryd.prog ⟨allF, [], l10⟩ (bodyOf Tryd.f10) 0 (initSt [(.int .u8 (.var 0)), (.val 1), (.val 2), (.int .u8 (.var 3)), (.int .u16 (.var 4))] [] Tryd.f10.ntmps [.int .u8, .sl, .sl, .int .u8, .int .u16]) (finK Tryd.prog Tryd.f10.results []) = t10 := by kernel_rfl
theorem c10 {G : List Value} {h : H} {R : Value → List (List Value) → H → Prop} (hG : FitsL [.int .u8, .sl, .sl, .int .u8, .int .u16] G) (H : holds Tryd.prog R t10 G [] h) : CallsA Tryd.prog 10 (fun e => SV.denL G (fun k => e (k - 1000000)) [(.int .u8 (.var 0)), (.val 1), (.val 2), (.int .u8 (.var 3)), (.int .u16 (.var 4))]) ([].map (SV.denL G dE)) h R :=
  CallsA.of_ev (cf := ⟨allF, [], l10⟩) (fn := Tryd.f10) (c := bodyOf Tryd.f10) (pcs := []) Tryd.func10 (by rfl) callOK (by rfl) hG (by rfl) (by rw [show ([] : List (List SV)).map List.length = [] from rfl, e10]; exact H)
/-- What is left of outworker/outworkerlaw16.ColourRefuses. -/
def t8 : Out :=
 (.call 19 [] [] [] [] [(false, [.bool])] 
 (.ite (.not (.var 5))
  (.done (.bool (.tt false)) [])
  (.ite (.ite (.ite (.ite (.cmp .gtr (.len 1) (.lit 200)) (.tt true) (.cmp .gtr (.len 2) (.lit 200))) (.tt true) (.ite (.cmp .gtr (.var 0) (.lit 200)) (.cmp .lss (.var 0) (.lit 4096)) (.tt false))) (.tt true) (.cmp .gtr (.len 4) (.lit 5000)))
   (.done (.bool (.tt true)) [])
   (.call 20 [(.agg [(.int .i64 (.var 0)), (.val 1), (.val 2)]), (.int .i64 (.var 3)), (.val 4)] [] [] [] [(false, [.sl]), (false, [.int .i64])] 
   (.call 18 [(.agg [(.int .i64 (.var 0)), (.val 1), (.val 2)])] [] [] [] [(false, [.bool])] 
   (.ite (.cmp .eql (.var 7) (.ite (.ite (.not (.var 8)) (.tt true) (.cmp .neq (.len 4) (.var 0))) (.lit 30) (.ite (.ite (.cmp .lss (.var 3) (.lit 1)) (.tt true) (.cmp .gtr (.var 3) (.lit 8))) (.lit 40) (.lit 0))))
    (.ite (.not (.ite (.cmp .neq (.var 7) (.lit 0)) (.cmp .eql (.len 6) (.lit 0)) (.tt false)))
     (.ite (.cmp .eql (.var 7) (.lit 0))
      (.call 15 [(.agg [(.int .i64 (.var 0)), (.val 1), (.val 2)]), (.int .i64 (.var 3)), (.val 6)] [] [] [] [(false, [.bool])] 
      (.done (.bool (.var 9)) []))
      (.done (.bool (.tt false)) []))
     (.done (.bool (.tt true)) []))
    (.done (.bool (.tt false)) [])))))))
def l8 : List (Nat × List Nat × List (Nat × Nat) × List Nat) := []
theorem e8 : ev Tryd.prog ⟨allF, [1000003], l8⟩ (bodyOf Tryd.f8) 0 (initSt [(.agg [(.int .i64 (.var 0)), (.val 1), (.val 2)]), (.int .i64 (.var 3)), (.val 4)] [] Tryd.f8.ntmps [.int .i64, .sl, .sl, .int .i64, .sl]) (finK Tryd.prog Tryd.f8.results []) = t8 := by kernel_rfl
theorem c8 {G : List Value} {h : H} {R : Value → List (List Value) → H → Prop} (hG : FitsL [.int .i64, .sl, .sl, .int .i64, .sl] G) (H : holds Tryd.prog R t8 G [] h) : CallsA Tryd.prog 8 (fun e => SV.denL G (fun k => e (k - 1000000)) [(.agg [(.int .i64 (.var 0)), (.val 1), (.val 2)]), (.int .i64 (.var 3)), (.val 4)]) ([].map (SV.denL G dE)) h R :=
  CallsA.of_ev (cf := ⟨allF, [1000003], l8⟩) (fn := Tryd.f8) (c := bodyOf Tryd.f8) (pcs := []) Tryd.func8 (by rfl) callOK (by rfl) hG (by rfl) (by rw [show ([] : List (List SV)).map List.length = [] from rfl, e8]; exact H)
end Go.Proofs.YtbgfabppmobpgaaDoor
