/-
  What the evaluator leaves of the functions of this seat (trees, printed by a program of ours), and their contracts from it. Conditions: none.
-/
import Derived.Test.YtbgfabppmobpgaaDoorR1Tr
set_option linter.unusedVariables false
set_option linter.unusedSimpArgs false
namespace Go.Proofs.YtbgfabppmobpgaaDoor
open Go

/-- What is left of outworker/outworkerlaw17.SearchBest. -/
def t3 : Out :=
 (.call 11 [] [] [] [] [(false, [.bool])] 
 (.ite (.not (.var 4))
  (.done (.bool (.tt false)) [])
  (.call 12 [(.int .u8 (.op .rem .u8 (.var 0) (.lit 8))), (.val 1), (.cst (.slice none 0 0))] [] [] [] [(true, [.int .i64, .sl, .sl])] 
  (.call 13 [(.int .i64 (.conv .i64 (.op .rem .u8 (.var 0) (.lit 8)))), (.val 3)] [] [] [] [(false, [.sl])] 
  (.call 14 [(.agg [(.int .i64 (.var 5)), (.val 6), (.val 7)]), (.int .i64 (.op .add .i64 (.lit 1) (.conv .i64 (.op .rem .u8 (.var 2) (.lit 4))))), (.val 8)] [] [] [] [(false, [.sl]), (false, [.int .i64]), (false, [.int .i64])] 
  (.ite (.cmp .eql (.var 11) (.lit 0))
   (.call 15 [(.agg [(.int .i64 (.var 5)), (.val 6), (.val 7)]), (.int .i64 (.op .add .i64 (.lit 1) (.conv .i64 (.op .rem .u8 (.var 2) (.lit 4))))), (.val 9)] [] [] [] [(false, [.bool])] 
   (.ite (.var 12)
    (.call 16 [(.val 9), (.val 8)] [] [] [] [(false, [.int .i64])] 
    (.ite (.cmp .eql (.var 10) (.var 13))
     (.call 17 [(.agg [(.int .i64 (.var 5)), (.val 6), (.val 7)]), (.int .i64 (.op .add .i64 (.lit 1) (.conv .i64 (.op .rem .u8 (.var 2) (.lit 4))))), (.val 8)] [] [] [] [(false, [.int .i64])] 
     (.done (.bool (.cmp .eql (.var 10) (.var 14))) []))
     (.done (.bool (.tt false)) [])))
    (.done (.bool (.tt false)) [])))
   (.done (.bool (.tt false)) [])))))))
def l3 : List (Nat × List Nat × List (Nat × Nat) × List Nat) := []
theorem e3 : ev Tryd.prog ⟨allF, [], l3⟩ (bodyOf Tryd.f3) 0 (initSt [(.int .u8 (.var 0)), (.val 1), (.int .u8 (.var 2)), (.val 3)] [] Tryd.f3.ntmps [.int .u8, .sl, .int .u8, .sl]) (finK Tryd.prog Tryd.f3.results []) = t3 := by kernel_rfl
theorem c3 {G : List Value} {h : H} {R : Value → List (List Value) → H → Prop} (hG : FitsL [.int .u8, .sl, .int .u8, .sl] G) (H : holds Tryd.prog R t3 G [] h) : CallsA Tryd.prog 3 (fun e => SV.denL G (fun k => e (k - 1000000)) [(.int .u8 (.var 0)), (.val 1), (.int .u8 (.var 2)), (.val 3)]) ([].map (SV.denL G dE)) h R :=
  CallsA.of_ev (cf := ⟨allF, [], l3⟩) (fn := Tryd.f3) (c := bodyOf Tryd.f3) (pcs := []) Tryd.func3 (by rfl) callOK (by rfl) hG (by rfl) (by rw [show ([] : List (List SV)).map List.length = [] from rfl, e3]; exact H)
/-- What is left of outworker/outworkerlaw17.SearchRefuses. -/
def t4 : Out :=
 (.call 11 [] [] [] [] [(false, [.bool])] 
 (.ite (.not (.var 5))
  (.done (.bool (.tt false)) [])
  (.ite (.ite (.ite (.cmp .gtr (.len 1) (.lit 100)) (.tt true) (.cmp .gtr (.len 2) (.lit 100))) (.tt true) (.cmp .gtr (.len 4) (.lit 5000)))
   (.done (.bool (.tt true)) [])
   (.call 14 [(.agg [(.int .i64 (.var 0)), (.val 1), (.val 2)]), (.int .i64 (.var 3)), (.val 4)] [] [] [] [(false, [.sl]), (false, [.int .i64]), (false, [.int .i64])] 
   (.call 18 [(.agg [(.int .i64 (.var 0)), (.val 1), (.val 2)])] [] [] [] [(false, [.bool])] 
   (.ite (.ite (.not (.var 9)) (.tt true) (.cmp .neq (.len 4) (.var 0)))
    (.ite (.cmp .eql (.var 8) (.lit 30))
     (.ite (.not (.ite (.ite (.cmp .neq (.var 8) (.lit 0)) (.cmp .eql (.len 6) (.lit 0)) (.tt false)) (.cmp .eql (.var 7) (.lit 0)) (.tt false)))
      (.ite (.cmp .eql (.var 8) (.lit 0))
       (.call 15 [(.agg [(.int .i64 (.var 0)), (.val 1), (.val 2)]), (.int .i64 (.var 3)), (.val 6)] [] [] [] [(false, [.bool])] 
       (.ite (.var 10)
        (.call 16 [(.val 6), (.val 4)] [] [] [] [(false, [.int .i64])] 
        (.done (.bool (.cmp .eql (.var 7) (.var 11))) []))
        (.done (.bool (.tt false)) [])))
       (.done (.bool (.tt false)) []))
      (.done (.bool (.tt true)) []))
     (.done (.bool (.tt false)) []))
    (.ite (.ite (.cmp .lss (.var 3) (.lit 1)) (.tt true) (.cmp .gtr (.var 3) (.lit 8)))
     (.ite (.cmp .eql (.var 8) (.lit 40))
      (.ite (.not (.ite (.ite (.cmp .neq (.var 8) (.lit 0)) (.cmp .eql (.len 6) (.lit 0)) (.tt false)) (.cmp .eql (.var 7) (.lit 0)) (.tt false)))
       (.ite (.cmp .eql (.var 8) (.lit 0))
        (.call 15 [(.agg [(.int .i64 (.var 0)), (.val 1), (.val 2)]), (.int .i64 (.var 3)), (.val 6)] [] [] [] [(false, [.bool])] 
        (.ite (.var 10)
         (.call 16 [(.val 6), (.val 4)] [] [] [] [(false, [.int .i64])] 
         (.done (.bool (.cmp .eql (.var 7) (.var 11))) []))
         (.done (.bool (.tt false)) [])))
        (.done (.bool (.tt false)) []))
       (.done (.bool (.tt true)) []))
      (.done (.bool (.tt false)) []))
     (.ite (.cmp .gtr (.var 0) (.lit 14))
      (.ite (.cmp .eql (.var 8) (.lit 9))
       (.ite (.not (.ite (.ite (.cmp .neq (.var 8) (.lit 0)) (.cmp .eql (.len 6) (.lit 0)) (.tt false)) (.cmp .eql (.var 7) (.lit 0)) (.tt false)))
        (.ite (.cmp .eql (.var 8) (.lit 0))
         (.call 15 [(.agg [(.int .i64 (.var 0)), (.val 1), (.val 2)]), (.int .i64 (.var 3)), (.val 6)] [] [] [] [(false, [.bool])] 
         (.ite (.var 10)
          (.call 16 [(.val 6), (.val 4)] [] [] [] [(false, [.int .i64])] 
          (.done (.bool (.cmp .eql (.var 7) (.var 11))) []))
          (.done (.bool (.tt false)) [])))
         (.done (.bool (.tt false)) []))
        (.done (.bool (.tt true)) []))
       (.done (.bool (.tt false)) []))
      (.loop 0 [(.int .i64 (.lit 0)), (.int .i64 (.lit 0))] [.int .i64, .int .i64] 
       (.ite (.cmp .lss (.var 11) (.len 4))
        (.need (.tt true) [(.cmp .geq (.var 11) (.lit 0)), (.cmp .lss (.var 11) (.len 4))] 
        (.load (.tt true) (.idx (.var 4) (.var 11) 1) [.int .i64] 
        (.again 0 [(.int .i64 (.ite (.ite (.cmp .lss (.var 12) (.lit 1)) (.tt true) (.cmp .gtr (.var 12) (.lit 1000))) (.lit 2) (.var 10))), (.int .i64 (.op .add .i64 (.var 11) (.lit 1)))])))
        (.ite (.cmp .eql (.var 8) (.var 10))
         (.ite (.not (.ite (.ite (.cmp .neq (.var 8) (.lit 0)) (.cmp .eql (.len 6) (.lit 0)) (.tt false)) (.cmp .eql (.var 7) (.lit 0)) (.tt false)))
          (.ite (.cmp .eql (.var 8) (.lit 0))
           (.call 15 [(.agg [(.int .i64 (.var 0)), (.val 1), (.val 2)]), (.int .i64 (.var 3)), (.val 6)] [] [] [] [(false, [.bool])] 
           (.ite (.var 12)
            (.call 16 [(.val 6), (.val 4)] [] [] [] [(false, [.int .i64])] 
            (.done (.bool (.cmp .eql (.var 7) (.var 13))) []))
            (.done (.bool (.tt false)) [])))
           (.done (.bool (.tt false)) []))
          (.done (.bool (.tt true)) []))
         (.done (.bool (.tt false)) []))))))))))))
def l4 : List (Nat × List Nat × List (Nat × Nat) × List Nat) := [(8, [10, 40], [], [41, 42, 43, 12, 44, 45, 46, 47, 48, 49, 50])]
theorem e4 : ev Tryd.prog ⟨allF, [1000003], l4⟩ (bodyOf Tryd.f4) 0 (initSt [(.agg [(.int .i64 (.var 0)), (.val 1), (.val 2)]), (.int .i64 (.var 3)), (.val 4)] [] Tryd.f4.ntmps [.int .i64, .sl, .sl, .int .i64, .sl]) (finK Tryd.prog Tryd.f4.results []) = t4 := by kernel_rfl
theorem c4 {G : List Value} {h : H} {R : Value → List (List Value) → H → Prop} (hG : FitsL [.int .i64, .sl, .sl, .int .i64, .sl] G) (H : holds Tryd.prog R t4 G [] h) : CallsA Tryd.prog 4 (fun e => SV.denL G (fun k => e (k - 1000000)) [(.agg [(.int .i64 (.var 0)), (.val 1), (.val 2)]), (.int .i64 (.var 3)), (.val 4)]) ([].map (SV.denL G dE)) h R :=
  CallsA.of_ev (cf := ⟨allF, [1000003], l4⟩) (fn := Tryd.f4) (c := bodyOf Tryd.f4) (pcs := []) Tryd.func4 (by rfl) callOK (by rfl) hG (by rfl) (by rw [show ([] : List (List SV)).map List.length = [] from rfl, e4]; exact H)
/-- What is left of outworker/outworkerlaw17.SearchMore. -/
def t5 : Out :=
 (.call 11 [] [] [] [] [(false, [.bool])] 
 (.ite (.not (.var 5))
  (.done (.bool (.tt false)) [])
  (.call 12 [(.int .u8 (.op .rem .u8 (.var 0) (.lit 11))), (.val 1), (.cst (.slice none 0 0))] [] [] [] [(true, [.int .i64, .sl, .sl])] 
  (.call 13 [(.int .i64 (.var 6)), (.val 3)] [] [] [] [(false, [.sl])] 
  (.call 14 [(.agg [(.int .i64 (.var 6)), (.val 7), (.val 8)]), (.int .i64 (.op .add .i64 (.lit 1) (.conv .i64 (.op .rem .u8 (.var 2) (.lit 6))))), (.val 9)] [] [] [] [(false, [.sl]), (false, [.int .i64]), (false, [.int .i64])] 
  (.call 14 [(.agg [(.int .i64 (.var 6)), (.val 7), (.val 8)]), (.int .i64 (.op .add .i64 (.op .add .i64 (.lit 1) (.conv .i64 (.op .rem .u8 (.var 2) (.lit 6)))) (.lit 1))), (.val 9)] [] [] [] [(false, [.sl]), (false, [.int .i64]), (false, [.int .i64])] 
  (.ite (.cmp .gtr (.len 7) (.lit 0))
   (.need (.tt true) [(.cmp .neq (.len 7) (.lit 0))] 
   (.need (.tt true) [(.cmp .geq (.op .rem .i64 (.conv .i64 (.var 4)) (.len 7)) (.lit 0)), (.cmp .leq (.op .rem .i64 (.conv .i64 (.var 4)) (.len 7)) (.cap 7))] 
   (.bnd (.slice (.val 7) none (some (.op .rem .i64 (.conv .i64 (.var 4)) (.len 7))) 2) 
   (.need (.tt true) [(.cmp .geq (.op .add .i64 (.op .rem .i64 (.conv .i64 (.var 4)) (.len 7)) (.lit 1)) (.lit 0)), (.cmp .leq (.op .add .i64 (.op .rem .i64 (.conv .i64 (.var 4)) (.len 7)) (.lit 1)) (.len 7))] 
   (.bnd (.slice (.val 7) (some (.op .add .i64 (.op .rem .i64 (.conv .i64 (.var 4)) (.len 7)) (.lit 1))) none 2) 
   (.alloc 41 [] (.lsl 0) 
   (.app 41 2 16 (.val 18) (.sl (.val 16)) 
   (.app 41 2 16 (.val 19) (.sl (.val 17)) 
   (.call 14 [(.agg [(.int .i64 (.var 6)), (.val 20), (.val 8)]), (.int .i64 (.op .add .i64 (.lit 1) (.conv .i64 (.op .rem .u8 (.var 2) (.lit 6))))), (.val 9)] [] [] [] [(false, [.sl]), (false, [.int .i64]), (false, [.int .i64])] 
   (.done (.bool (.ite (.ite (.ite (.ite (.ite (.ite (.cmp .eql (.var 12) (.lit 0)) (.cmp .eql (.var 15) (.lit 0)) (.tt false)) (.cmp .eql (.var 23) (.lit 0)) (.tt false)) (.cmp .leq (.var 14) (.var 11)) (.tt false)) (.cmp .leq (.var 22) (.var 11)) (.tt false)) (.cmp .geq (.var 11) (.lit 0)) (.tt false)) (.ite (.cmp .lss (.op .add .i64 (.lit 1) (.conv .i64 (.op .rem .u8 (.var 2) (.lit 6)))) (.var 6)) (.tt true) (.cmp .eql (.var 11) (.lit 0))) (.tt false))) []))))))))))
   (.call 14 [(.agg [(.int .i64 (.var 6)), (.val 7), (.val 8)]), (.int .i64 (.op .add .i64 (.lit 1) (.conv .i64 (.op .rem .u8 (.var 2) (.lit 6))))), (.val 9)] [] [] [] [(false, [.sl]), (false, [.int .i64]), (false, [.int .i64])] 
   (.done (.bool (.ite (.ite (.ite (.ite (.ite (.ite (.cmp .eql (.var 12) (.lit 0)) (.cmp .eql (.var 15) (.lit 0)) (.tt false)) (.cmp .eql (.var 18) (.lit 0)) (.tt false)) (.cmp .leq (.var 14) (.var 11)) (.tt false)) (.cmp .leq (.var 17) (.var 11)) (.tt false)) (.cmp .geq (.var 11) (.lit 0)) (.tt false)) (.ite (.cmp .lss (.op .add .i64 (.lit 1) (.conv .i64 (.op .rem .u8 (.var 2) (.lit 6)))) (.var 6)) (.tt true) (.cmp .eql (.var 11) (.lit 0))) (.tt false))) [])))))))))
def l5 : List (Nat × List Nat × List (Nat × Nat) × List Nat) := []
theorem e5 : ev Tryd.prog ⟨allF, [67], l5⟩ (bodyOf Tryd.f5) 0 (initSt [(.int .u8 (.var 0)), (.val 1), (.int .u8 (.var 2)), (.val 3), (.int .u8 (.var 4))] [] Tryd.f5.ntmps [.int .u8, .sl, .int .u8, .sl, .int .u8]) (finK Tryd.prog Tryd.f5.results []) = t5 := by kernel_rfl
theorem c5 {G : List Value} {h : H} {R : Value → List (List Value) → H → Prop} (hG : FitsL [.int .u8, .sl, .int .u8, .sl, .int .u8] G) (H : holds Tryd.prog R t5 G [] h) : CallsA Tryd.prog 5 (fun e => SV.denL G (fun k => e (k - 1000000)) [(.int .u8 (.var 0)), (.val 1), (.int .u8 (.var 2)), (.val 3), (.int .u8 (.var 4))]) ([].map (SV.denL G dE)) h R :=
  CallsA.of_ev (cf := ⟨allF, [67], l5⟩) (fn := Tryd.f5) (c := bodyOf Tryd.f5) (pcs := []) Tryd.func5 (by rfl) callOK (by rfl) hG (by rfl) (by rw [show ([] : List (List SV)).map List.length = [] from rfl, e5]; exact H)
/-- What is left of outworker/outworkerlaw17.SearchApart. -/
def t6 : Out :=
 (.call 11 [] [] [] [] [(false, [.bool])] 
 (.ite (.not (.var 6))
  (.done (.bool (.tt false)) [])
  (.call 12 [(.int .u8 (.op .rem .u8 (.var 0) (.lit 8))), (.val 2), (.cst (.slice none 0 0))] [] [] [] [(true, [.int .i64, .sl, .sl])] 
  (.call 12 [(.int .u8 (.op .rem .u8 (.var 1) (.lit 7))), (.val 3), (.cst (.slice none 0 0))] [] [] [] [(true, [.int .i64, .sl, .sl])] 
  (.both 
   (.alloc 41 [] (.lsl 0) 
   (.both 
    (.app 41 2 16 (.val 13) (.sl (.val 8)) 
    (.loop 0 [(.int .i64 (.lit 0)), (.val 14)] [.int .i64, .sl] 
     (.ite (.cmp .lss (.var 15) (.len 11))
      (.need (.tt true) [(.cmp .geq (.var 15) (.lit 0)), (.cmp .lss (.var 15) (.len 11))] 
      (.load (.tt true) (.idx (.var 11) (.var 15) 2) [.int .i64, .int .i64] 
      (.app 41 2 16 (.val 16) (.cells [(.int .i64 (.op .add .i64 (.var 7) (.var 17))), (.int .i64 (.op .add .i64 (.var 7) (.var 18)))] 1) 
      (.again 0 [(.int .i64 (.op .add .i64 (.var 15) (.lit 1))), (.val 19)]))))
      (.call 13 [(.int .i64 (.op .add .i64 (.var 7) (.var 10))), (.val 5)] [] [] [] [(false, [.sl])] 
      (.need (.tt true) [(.cmp .geq (.var 7) (.lit 0)), (.cmp .leq (.var 7) (.cap 17))] 
      (.bnd (.slice (.val 17) none (some (.var 7)) 1) 
      (.call 14 [(.agg [(.int .i64 (.var 7)), (.val 8), (.val 9)]), (.int .i64 (.op .add .i64 (.lit 1) (.conv .i64 (.op .rem .u8 (.var 4) (.lit 4))))), (.val 18)] [] [] [] [(false, [.sl]), (false, [.int .i64]), (false, [.int .i64])] 
      (.need (.tt true) [(.cmp .geq (.var 7) (.lit 0)), (.cmp .leq (.var 7) (.len 17))] 
      (.bnd (.slice (.val 17) (some (.var 7)) none 1) 
      (.call 14 [(.agg [(.int .i64 (.var 10)), (.val 11), (.val 12)]), (.int .i64 (.op .add .i64 (.lit 1) (.conv .i64 (.op .rem .u8 (.var 4) (.lit 4))))), (.val 22)] [] [] [] [(false, [.sl]), (false, [.int .i64]), (false, [.int .i64])] 
      (.call 14 [(.agg [(.int .i64 (.op .add .i64 (.var 7) (.var 10))), (.val 16), (.cst (.slice none 0 0))]), (.int .i64 (.op .add .i64 (.lit 1) (.conv .i64 (.op .rem .u8 (.var 4) (.lit 4))))), (.val 17)] [] [] [] [(false, [.sl]), (false, [.int .i64]), (false, [.int .i64])] 
      (.done (.bool (.ite (.ite (.ite (.cmp .eql (.var 21) (.lit 0)) (.cmp .eql (.var 25) (.lit 0)) (.tt false)) (.cmp .eql (.var 28) (.lit 0)) (.tt false)) (.cmp .eql (.var 27) (.op .add .i64 (.var 20) (.var 24))) (.tt false))) [])))))))))))) 
    (.app 41 2 16 (.val 13) (.sl (.val 8)) 
    (.loop 0 [(.int .i64 (.lit 0)), (.val 14)] [.int .i64, .sl] 
     (.ite (.cmp .lss (.var 15) (.len 11))
      (.need (.tt true) [(.cmp .geq (.var 15) (.lit 0)), (.cmp .lss (.var 15) (.len 11))] 
      (.load (.tt true) (.idx (.var 11) (.var 15) 2) [.int .i64, .int .i64] 
      (.app 41 2 16 (.val 16) (.cells [(.int .i64 (.op .add .i64 (.var 7) (.var 17))), (.int .i64 (.op .add .i64 (.var 7) (.var 18)))] 1) 
      (.again 0 [(.int .i64 (.op .add .i64 (.var 15) (.lit 1))), (.val 19)]))))
      (.call 13 [(.int .i64 (.op .add .i64 (.var 7) (.var 10))), (.val 5)] [] [] [] [(false, [.sl])] 
      (.need (.tt true) [(.cmp .geq (.var 7) (.lit 0)), (.cmp .leq (.var 7) (.cap 17))] 
      (.bnd (.slice (.val 17) none (some (.var 7)) 1) 
      (.call 14 [(.agg [(.int .i64 (.var 7)), (.val 8), (.val 9)]), (.int .i64 (.op .add .i64 (.lit 1) (.conv .i64 (.op .rem .u8 (.var 4) (.lit 4))))), (.val 18)] [] [] [] [(false, [.sl]), (false, [.int .i64]), (false, [.int .i64])] 
      (.need (.tt true) [(.cmp .geq (.var 7) (.lit 0)), (.cmp .leq (.var 7) (.len 17))] 
      (.bnd (.slice (.val 17) (some (.var 7)) none 1) 
      (.call 14 [(.agg [(.int .i64 (.var 10)), (.val 11), (.val 12)]), (.int .i64 (.op .add .i64 (.lit 1) (.conv .i64 (.op .rem .u8 (.var 4) (.lit 4))))), (.val 22)] [] [] [] [(false, [.sl]), (false, [.int .i64]), (false, [.int .i64])] 
      (.call 14 [(.agg [(.int .i64 (.op .add .i64 (.var 7) (.var 10))), (.val 16), (.cst (.slice none 0 0))]), (.int .i64 (.op .add .i64 (.lit 1) (.conv .i64 (.op .rem .u8 (.var 4) (.lit 4))))), (.val 17)] [] [] [] [(false, [.sl]), (false, [.int .i64]), (false, [.int .i64])] 
      (.done (.bool (.ite (.ite (.ite (.cmp .eql (.var 21) (.lit 0)) (.cmp .eql (.var 25) (.lit 0)) (.tt false)) (.cmp .eql (.var 28) (.lit 0)) (.tt false)) (.cmp .eql (.var 27) (.op .add .i64 (.var 20) (.var 24))) (.tt false))) [])))))))))))))) 
   (.alloc 41 [] (.lsl 0) 
   (.app 41 2 16 (.val 13) (.sl (.val 8)) 
   (.loop 0 [(.int .i64 (.lit 0)), (.val 14)] [.int .i64, .sl] 
    (.ite (.cmp .lss (.var 15) (.len 11))
     (.need (.tt true) [(.cmp .geq (.var 15) (.lit 0)), (.cmp .lss (.var 15) (.len 11))] 
     (.load (.tt true) (.idx (.var 11) (.var 15) 2) [.int .i64, .int .i64] 
     (.app 41 2 16 (.val 16) (.cells [(.int .i64 (.op .add .i64 (.var 7) (.var 17))), (.int .i64 (.op .add .i64 (.var 7) (.var 18)))] 1) 
     (.again 0 [(.int .i64 (.op .add .i64 (.var 15) (.lit 1))), (.val 19)]))))
     (.call 13 [(.int .i64 (.op .add .i64 (.var 7) (.var 10))), (.val 5)] [] [] [] [(false, [.sl])] 
     (.need (.tt true) [(.cmp .geq (.var 7) (.lit 0)), (.cmp .leq (.var 7) (.cap 17))] 
     (.bnd (.slice (.val 17) none (some (.var 7)) 1) 
     (.call 14 [(.agg [(.int .i64 (.var 7)), (.val 8), (.val 9)]), (.int .i64 (.op .add .i64 (.lit 1) (.conv .i64 (.op .rem .u8 (.var 4) (.lit 4))))), (.val 18)] [] [] [] [(false, [.sl]), (false, [.int .i64]), (false, [.int .i64])] 
     (.need (.tt true) [(.cmp .geq (.var 7) (.lit 0)), (.cmp .leq (.var 7) (.len 17))] 
     (.bnd (.slice (.val 17) (some (.var 7)) none 1) 
     (.call 14 [(.agg [(.int .i64 (.var 10)), (.val 11), (.val 12)]), (.int .i64 (.op .add .i64 (.lit 1) (.conv .i64 (.op .rem .u8 (.var 4) (.lit 4))))), (.val 22)] [] [] [] [(false, [.sl]), (false, [.int .i64]), (false, [.int .i64])] 
     (.call 14 [(.agg [(.int .i64 (.op .add .i64 (.var 7) (.var 10))), (.val 16), (.cst (.slice none 0 0))]), (.int .i64 (.op .add .i64 (.lit 1) (.conv .i64 (.op .rem .u8 (.var 4) (.lit 4))))), (.val 17)] [] [] [] [(false, [.sl]), (false, [.int .i64]), (false, [.int .i64])] 
     (.done (.bool (.ite (.ite (.ite (.cmp .eql (.var 21) (.lit 0)) (.cmp .eql (.var 25) (.lit 0)) (.tt false)) (.cmp .eql (.var 28) (.lit 0)) (.tt false)) (.cmp .eql (.var 27) (.op .add .i64 (.var 20) (.var 24))) (.tt false))) []))))))))))))))))))
def l6 : List (Nat × List Nat × List (Nat × Nat) × List Nat) := [(6, [52], [(15, 1)], [53, 54, 55, 17, 56, 57, 58, 59, 60, 61, 62, 63, 64, 65, 66, 67, 68, 69, 70, 71, 72])]
theorem e6 : ev Tryd.prog ⟨allF, [44], l6⟩ (bodyOf Tryd.f6) 0 (initSt [(.int .u8 (.var 0)), (.int .u8 (.var 1)), (.val 2), (.val 3), (.int .u8 (.var 4)), (.val 5)] [] Tryd.f6.ntmps [.int .u8, .int .u8, .sl, .sl, .int .u8, .sl]) (finK Tryd.prog Tryd.f6.results []) = t6 := by kernel_rfl
theorem c6 {G : List Value} {h : H} {R : Value → List (List Value) → H → Prop} (hG : FitsL [.int .u8, .int .u8, .sl, .sl, .int .u8, .sl] G) (H : holds Tryd.prog R t6 G [] h) : CallsA Tryd.prog 6 (fun e => SV.denL G (fun k => e (k - 1000000)) [(.int .u8 (.var 0)), (.int .u8 (.var 1)), (.val 2), (.val 3), (.int .u8 (.var 4)), (.val 5)]) ([].map (SV.denL G dE)) h R :=
  CallsA.of_ev (cf := ⟨allF, [44], l6⟩) (fn := Tryd.f6) (c := bodyOf Tryd.f6) (pcs := []) Tryd.func6 (by rfl) callOK (by rfl) hG (by rfl) (by rw [show ([] : List (List SV)).map List.length = [] from rfl, e6]; exact H)
end Go.Proofs.YtbgfabppmobpgaaDoor
