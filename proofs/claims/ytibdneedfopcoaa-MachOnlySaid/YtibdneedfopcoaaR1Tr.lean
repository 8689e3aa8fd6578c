/-
  What the evaluator leaves of the functions of this seat (trees, printed by a program of ours), and their contracts from it. Conditions: none.
-/
import Derived.Test.YtibdneedfopcoaaEv24
import Derived.Test.YtibdneedfopcoaaProg
set_option linter.unusedVariables false
set_option linter.unusedSimpArgs false
namespace Go.Proofs.Ytibdneedfopcoaa
open Go

def bodyOf (fn : Func) : Code := match fn.body with | some c => c | none => .seq (.exit 0) (.exit 0)
def allF : List Nat := [2, 3, 4, 5, 6, 7, 8, 9, 10, 11, 12, 13, 14, 15, 16, 17, 18, 19, 20, 21, 22, 23, 24, 25, 26, 27, 28, 29, 30, 31, 32, 33, 34, 35, 36, 37, 38, 39, 40, 41, 42, 43, 44, 45, 46, 47]
theorem callOK : CallOK Try.prog allF := by
  intro f hf args w
  simp only [allF, List.mem_cons, List.not_mem_nil, or_false] at hf
  rcases hf with rfl | rfl | rfl | rfl | rfl | rfl | rfl | rfl | rfl | rfl | rfl | rfl | rfl | rfl | rfl | rfl | rfl | rfl | rfl | rfl | rfl | rfl | rfl | rfl | rfl | rfl | rfl | rfl | rfl | rfl | rfl | rfl | rfl | rfl | rfl | rfl | rfl | rfl | rfl | rfl | rfl | rfl | rfl | rfl | rfl | rfl
  · exact Try.call2 args w
  · exact Try.call3 args w
  · exact Try.call4 args w
  · exact Try.call5 args w
  · exact Try.call6 args w
  · exact Try.call7 args w
  · exact Try.call8 args w
  · exact Try.call9 args w
  · exact Try.call10 args w
  · exact Try.call11 args w
  · exact Try.call12 args w
  · exact Try.call13 args w
  · exact Try.call14 args w
  · exact Try.call15 args w
  · exact Try.call16 args w
  · exact Try.call17 args w
  · exact Try.call18 args w
  · exact Try.call19 args w
  · exact Try.call20 args w
  · exact Try.call21 args w
  · exact Try.call22 args w
  · exact Try.call23 args w
  · exact Try.call24 args w
  · exact Try.call25 args w
  · exact Try.call26 args w
  · exact Try.call27 args w
  · exact Try.call28 args w
  · exact Try.call29 args w
  · exact Try.call30 args w
  · exact Try.call31 args w
  · exact Try.call32 args w
  · exact Try.call33 args w
  · exact Try.call34 args w
  · exact Try.call35 args w
  · exact Try.call36 args w
  · exact Try.call37 args w
  · exact Try.call38 args w
  · exact Try.call39 args w
  · exact Try.call40 args w
  · exact Try.call41 args w
  · exact Try.call42 args w
  · exact Try.call43 args w
  · exact Try.call44 args w
  · exact Try.call45 args w
  · exact Try.call46 args w
  · exact Try.call47 args w
/-- What is left of outworker/outworkerlaw04.IrChecks. -/
def t3 : Out :=
 (.call 13 [] [] [] [] [(false, [.bool])] 
 (.ite (.not (.var 11))
  (.done (.bool (.tt false)) [])
  (.call 14 [(.val 2)] [] [] [] [(false, [.bool])] 
  (.ite (.var 12)
   (.done (.bool (.tt true)) [])
   (.call 15 [(.agg [(.int .u8 (.var 3)), (.int .u8 (.var 4)), (.int .u8 (.var 5)), (.val 6)])] [] [] [] [(true, [.int .i64, .int .i64, .sl])] 
   (.call 16 [(.agg [(.int .i64 (.var 0)), (.int .i64 (.var 1)), (.val 2)])] [] [] [] [(true, [.int .i64, .int .i64, .int .i64])] 
   (.call 17 [(.agg [(.int .i64 (.var 0)), (.int .i64 (.var 1)), (.val 2)])] [] [] [] [(true, [.int .i64, .int .i64, .int .i64])] 
   (.ite (.and (.cmp .eql (.var 16) (.var 19)) (.and (.cmp .eql (.var 17) (.var 20)) (.cmp .eql (.var 18) (.var 21))))
    (.call 16 [(.agg [(.int .i64 (.var 13)), (.int .i64 (.var 14)), (.val 15)])] [] [] [] [(true, [.int .i64, .int .i64, .int .i64])] 
    (.ite (.not (.and (.cmp .eql (.var 22) (.lit 0)) (.and (.cmp .eql (.var 23) (.lit 0)) (.cmp .eql (.var 24) (.lit 0)))))
     (.done (.bool (.tt false)) [])
     (.call 18 [(.val 15), (.int .u8 (.var 7)), (.int .u8 (.var 8)), (.int .u8 (.var 9)), (.int .i64 (.var 10))] [] [] [] [] 
     (.call 16 [(.agg [(.int .i64 (.var 13)), (.int .i64 (.var 14)), (.val 15)])] [] [] [] [(true, [.int .i64, .int .i64, .int .i64])] 
     (.call 17 [(.agg [(.int .i64 (.var 13)), (.int .i64 (.var 14)), (.val 15)])] [] [] [] [(true, [.int .i64, .int .i64, .int .i64])] 
     (.ite (.not (.and (.cmp .eql (.var 25) (.var 28)) (.and (.cmp .eql (.var 26) (.var 29)) (.cmp .eql (.var 27) (.var 30)))))
      (.done (.bool (.tt false)) [])
      (.call 15 [(.agg [(.int .u8 (.var 3)), (.int .u8 (.var 4)), (.int .u8 (.var 5)), (.val 6)])] [] [] [] [(true, [.int .i64, .int .i64, .sl])] 
      (.ite (.cmp .eql (.op .rem .u8 (.var 9) (.lit 3)) (.lit 0))
       (.call 16 [(.agg [(.int .i64 (.var 10)), (.int .i64 (.var 32)), (.val 33)])] [] [] [] [(true, [.int .i64, .int .i64, .int .i64])] 
       (.call 17 [(.agg [(.int .i64 (.var 10)), (.int .i64 (.var 32)), (.val 33)])] [] [] [] [(true, [.int .i64, .int .i64, .int .i64])] 
       (.done (.bool (.and (.cmp .eql (.var 34) (.var 37)) (.and (.cmp .eql (.var 35) (.var 38)) (.cmp .eql (.var 36) (.var 39))))) [])))
       (.ite (.cmp .eql (.op .rem .u8 (.var 9) (.lit 3)) (.lit 1))
        (.call 16 [(.agg [(.int .i64 (.var 31)), (.int .i64 (.var 10)), (.val 33)])] [] [] [] [(true, [.int .i64, .int .i64, .int .i64])] 
        (.call 17 [(.agg [(.int .i64 (.var 31)), (.int .i64 (.var 10)), (.val 33)])] [] [] [] [(true, [.int .i64, .int .i64, .int .i64])] 
        (.done (.bool (.and (.cmp .eql (.var 34) (.var 37)) (.and (.cmp .eql (.var 35) (.var 38)) (.cmp .eql (.var 36) (.var 39))))) [])))
        (.loop 0 [(.int .u8 (.lit 0))] [.int .u8] 
         (.ite (.cmp .lss (.var 34) (.op .rem .u8 (.var 7) (.lit 40)))
          (.need (.tt true) [(.tt true), (.cmp .lss (.lit 0) (.len 33))] 
          (.load (.tt true) (.fld (.idx (.var 33) (.lit 0) 5) 0) [.sl] 
          (.still (.tt true) (.fld (.idx (.var 33) (.lit 0) 5) 0) [(.val 35)] 
          (.app 46 7 64 (.val 35) (.cells [(.int .u8 (.lit 1)), (.int .u8 (.lit 0)), (.int .i64 (.lit 0)), (.int .i64 (.lit 0)), (.int .i64 (.lit 0)), (.int .i64 (.lit 0)), (.cst (.slice none 0 0))] 1) 
          (.need (.tt true) [(.tt true), (.cmp .lss (.lit 0) (.len 33))] 
          (.store (.fld (.idx (.var 33) (.lit 0) 5) 0) [(.val 36)] 
          (.again 0 [(.int .u8 (.op .add .u8 (.var 34) (.lit 1)))])))))))
          (.call 16 [(.agg [(.int .i64 (.var 31)), (.int .i64 (.var 32)), (.val 33)])] [] [] [] [(true, [.int .i64, .int .i64, .int .i64])] 
          (.call 17 [(.agg [(.int .i64 (.var 31)), (.int .i64 (.var 32)), (.val 33)])] [] [] [] [(true, [.int .i64, .int .i64, .int .i64])] 
          (.done (.bool (.and (.cmp .eql (.var 35) (.var 38)) (.and (.cmp .eql (.var 36) (.var 39)) (.cmp .eql (.var 37) (.var 40))))) []))))))))))))))
    (.done (.bool (.tt false)) [])))))))))
def l3 : List (Nat × List Nat × List (Nat × Nat) × List Nat) := [(14, [51], [], [52, 53, 54, 55, 56, 57, 58, 59, 60, 61, 62, 63, 64, 65])]
theorem e3 : ev Try.prog ⟨allF, [], l3⟩ (bodyOf Try.f3) 0 (initSt [(.agg [(.int .i64 (.var 0)), (.int .i64 (.var 1)), (.val 2)]), (.agg [(.int .u8 (.var 3)), (.int .u8 (.var 4)), (.int .u8 (.var 5)), (.val 6)]), (.int .u8 (.var 7)), (.int .u8 (.var 8)), (.int .u8 (.var 9)), (.int .i64 (.var 10))] [] Try.f3.ntmps [.int .i64, .int .i64, .sl, .int .u8, .int .u8, .int .u8, .sl, .int .u8, .int .u8, .int .u8, .int .i64]) (finK Try.prog Try.f3.results []) = t3 := by kernel_rfl
theorem c3 {G : List Value} {h : H} {R : Value → List (List Value) → H → Prop} (hG : FitsL [.int .i64, .int .i64, .sl, .int .u8, .int .u8, .int .u8, .sl, .int .u8, .int .u8, .int .u8, .int .i64] G) (H : holds Try.prog R t3 G [] h) : CallsA Try.prog 3 (fun e => SV.denL G (fun k => e (k - 1000000)) [(.agg [(.int .i64 (.var 0)), (.int .i64 (.var 1)), (.val 2)]), (.agg [(.int .u8 (.var 3)), (.int .u8 (.var 4)), (.int .u8 (.var 5)), (.val 6)]), (.int .u8 (.var 7)), (.int .u8 (.var 8)), (.int .u8 (.var 9)), (.int .i64 (.var 10))]) [] h R :=
  CallsA.of_ev (cf := ⟨allF, [], l3⟩) (fn := Try.f3) (c := bodyOf Try.f3) (pcs := []) Try.func3 (by rfl) callOK (by rfl) hG (by rfl) (by rw [show ([] : List (List SV)).map List.length = [] from rfl, e3]; exact H)
/-- What is left of outworker/outworkerlaw04.IrUses. -/
def t4 : Out :=
 (.call 13 [] [] [] [] [(false, [.bool])] 
 (.ite (.not (.var 11))
  (.done (.bool (.tt false)) [])
  (.ite (.cmp .gtr (.len 6) (.lit 1000))
   (.done (.bool (.tt true)) [])
   (.call 19 [(.agg [(.int .u8 (.var 0)), (.int .u8 (.var 1)), (.int .i64 (.var 2)), (.int .i64 (.var 3)), (.int .i64 (.var 4)), (.int .i64 (.var 5)), (.val 6)])] [] [] [] [(false, [.sl])] 
   (.call 21 [(.agg [(.int .u8 (.var 0)), (.int .u8 (.var 1)), (.int .i64 (.var 2)), (.int .i64 (.var 3)), (.int .i64 (.var 4)), (.int .i64 (.var 5)), (.val 6)])] [] [] [] [(false, [.sl])] 
   (.call 20 [(.val 12), (.val 13)] [] [] [] [(false, [.bool])] 
   (.ite (.not (.var 14))
    (.done (.bool (.tt false)) [])
    (.loop 0 [(.int .i64 (.lit 0))] [.int .i64] 
     (.ite (.cmp .lss (.var 15) (.len 12))
      (.need (.tt true) [(.cmp .geq (.var 15) (.lit 0)), (.cmp .lss (.var 15) (.len 12))] 
      (.store (.idx (.var 12) (.var 15) 1) [(.int .i64 (.lit (-7)))] 
      (.again 0 [(.int .i64 (.op .add .i64 (.var 15) (.lit 1)))])))
      (.call 22 [(.agg [(.int .u8 (.var 0)), (.int .u8 (.var 1)), (.int .i64 (.var 2)), (.int .i64 (.var 3)), (.int .i64 (.var 4)), (.int .i64 (.var 5)), (.val 6)])] [] [] [] [(false, [.int .i64]), (false, [.bool])] 
      (.call 23 [(.agg [(.int .u8 (.var 7)), (.int .i64 (.var 8)), (.int .i64 (.var 9)), (.int .i64 (.var 10))])] [] [] [] [(false, [.int .i64]), (false, [.bool])] 
      (.call 19 [(.agg [(.int .u8 (.var 0)), (.int .u8 (.var 1)), (.int .i64 (.var 2)), (.int .i64 (.var 3)), (.int .i64 (.var 4)), (.int .i64 (.var 5)), (.val 6)])] [] [] [] [(false, [.sl])] 
      (.call 21 [(.agg [(.int .u8 (.var 0)), (.int .u8 (.var 1)), (.int .i64 (.var 2)), (.int .i64 (.var 3)), (.int .i64 (.var 4)), (.int .i64 (.var 5)), (.val 6)])] [] [] [] [(false, [.sl])] 
      (.call 20 [(.val 20), (.val 21)] [] [] [] [(false, [.bool])] 
      (.ite (.var 22)
       (.call 24 [(.int .u8 (.var 0))] [] [] [] [(false, [.bool])] 
       (.ite (.ite (.ite (.ite (.var 17) (.var 23) (.not (.var 23))) (.ite (.ite (.var 17) (.cmp .eql (.var 16) (.var 2)) (.tt false)) (.tt true) (.ite (.not (.var 17)) (.cmp .eql (.var 16) (.lit 0)) (.tt false))) (.tt false)) (.cmp .eql (.var 18) (.var 8)) (.tt false))
        (.call 25 [(.agg [(.int .u8 (.var 7)), (.int .i64 (.var 8)), (.int .i64 (.var 9)), (.int .i64 (.var 10))])] [] [] [] [(false, [.bool])] 
        (.done (.bool (.ite (.var 19) (.var 24) (.not (.var 24)))) []))
        (.done (.bool (.tt false)) [])))
       (.done (.bool (.tt false)) []))))))))))))))))
def l4 : List (Nat × List Nat × List (Nat × Nat) × List Nat) := [(9, [26], [], [27, 28, 6, 29, 30, 31, 32])]
theorem e4 : ev Try.prog ⟨allF, [], l4⟩ (bodyOf Try.f4) 0 (initSt [(.agg [(.int .u8 (.var 0)), (.int .u8 (.var 1)), (.int .i64 (.var 2)), (.int .i64 (.var 3)), (.int .i64 (.var 4)), (.int .i64 (.var 5)), (.val 6)]), (.agg [(.int .u8 (.var 7)), (.int .i64 (.var 8)), (.int .i64 (.var 9)), (.int .i64 (.var 10))])] [] Try.f4.ntmps [.int .u8, .int .u8, .int .i64, .int .i64, .int .i64, .int .i64, .sl, .int .u8, .int .i64, .int .i64, .int .i64]) (finK Try.prog Try.f4.results []) = t4 := by kernel_rfl
theorem c4 {G : List Value} {h : H} {R : Value → List (List Value) → H → Prop} (hG : FitsL [.int .u8, .int .u8, .int .i64, .int .i64, .int .i64, .int .i64, .sl, .int .u8, .int .i64, .int .i64, .int .i64] G) (H : holds Try.prog R t4 G [] h) : CallsA Try.prog 4 (fun e => SV.denL G (fun k => e (k - 1000000)) [(.agg [(.int .u8 (.var 0)), (.int .u8 (.var 1)), (.int .i64 (.var 2)), (.int .i64 (.var 3)), (.int .i64 (.var 4)), (.int .i64 (.var 5)), (.val 6)]), (.agg [(.int .u8 (.var 7)), (.int .i64 (.var 8)), (.int .i64 (.var 9)), (.int .i64 (.var 10))])]) [] h R :=
  CallsA.of_ev (cf := ⟨allF, [], l4⟩) (fn := Try.f4) (c := bodyOf Try.f4) (pcs := []) Try.func4 (by rfl) callOK (by rfl) hG (by rfl) (by rw [show ([] : List (List SV)).map List.length = [] from rfl, e4]; exact H)
/-- What is left of outworker/outworkerlaw04.IrEnds. -/
def t5 : Out :=
 (.call 13 [] [] [] [] [(false, [.bool])] 
 (.ite (.not (.var 6))
  (.done (.bool (.tt false)) [])
  (.call 26 [(.agg [(.int .u8 (.var 0)), (.int .i64 (.var 1)), (.int .i64 (.var 2)), (.int .i64 (.var 3))]), (.int .i64 (.var 4)), (.int .i64 (.var 5))] [] [] [] [(false, [.int .i64])] 
  (.call 27 [(.agg [(.int .u8 (.var 0)), (.int .i64 (.var 1)), (.int .i64 (.var 2)), (.int .i64 (.var 3))]), (.int .i64 (.var 4)), (.int .i64 (.var 5)), (.int .i64 (.lit 21))] [] [] [] [(false, [.int .i64])] 
  (.done (.bool (.cmp .eql (.var 7) (.var 8))) [])))))
def l5 : List (Nat × List Nat × List (Nat × Nat) × List Nat) := []
theorem e5 : ev Try.prog ⟨allF, [], l5⟩ (bodyOf Try.f5) 0 (initSt [(.agg [(.int .u8 (.var 0)), (.int .i64 (.var 1)), (.int .i64 (.var 2)), (.int .i64 (.var 3))]), (.int .i64 (.var 4)), (.int .i64 (.var 5))] [] Try.f5.ntmps [.int .u8, .int .i64, .int .i64, .int .i64, .int .i64, .int .i64]) (finK Try.prog Try.f5.results []) = t5 := by kernel_rfl
theorem c5 {G : List Value} {h : H} {R : Value → List (List Value) → H → Prop} (hG : FitsL [.int .u8, .int .i64, .int .i64, .int .i64, .int .i64, .int .i64] G) (H : holds Try.prog R t5 G [] h) : CallsA Try.prog 5 (fun e => SV.denL G (fun k => e (k - 1000000)) [(.agg [(.int .u8 (.var 0)), (.int .i64 (.var 1)), (.int .i64 (.var 2)), (.int .i64 (.var 3))]), (.int .i64 (.var 4)), (.int .i64 (.var 5))]) [] h R :=
  CallsA.of_ev (cf := ⟨allF, [], l5⟩) (fn := Try.f5) (c := bodyOf Try.f5) (pcs := []) Try.func5 (by rfl) callOK (by rfl) hG (by rfl) (by rw [show ([] : List (List SV)).map List.length = [] from rfl, e5]; exact H)
/-- What is left of outworker/outworkerlaw04.IrOnly. -/
def t6 : Out :=
 (.call 13 [] [] [] [] [(false, [.bool])] 
 (.ite (.not (.var 11))
  (.done (.bool (.tt false)) [])
  (.call 15 [(.agg [(.int .u8 (.var 3)), (.int .u8 (.var 4)), (.int .u8 (.var 5)), (.val 6)])] [] [] [] [(true, [.int .i64, .int .i64, .sl])] 
  (.call 18 [(.val 14), (.int .u8 (.var 7)), (.int .u8 (.var 8)), (.int .u8 (.var 9)), (.int .i64 (.var 10))] [] [] [] [] 
  (.call 14 [(.val 2)] [] [] [] [(false, [.bool])] 
  (.ite (.var 15)
   (.done (.bool (.tt true)) [])
   (.alloc 24 [(.int .i64 (.var 0)), (.int .i64 (.var 1)), (.val 2), (.int .i64 (.var 12)), (.int .i64 (.var 13)), (.val 14)] (.lsl 2) 
   (.loop 0 [(.int .i64 (.lit 0))] [.int .i64] 
    (.ite (.cmp .lss (.var 17) (.len 16))
     (.need (.tt true) [(.cmp .geq (.var 17) (.lit 0)), (.cmp .lss (.var 17) (.len 16))] 
     (.load (.tt true) (.idx (.var 16) (.var 17) 3) [.int .i64, .int .i64, .sl] 
     (.call 16 [(.agg [(.int .i64 (.var 18)), (.int .i64 (.var 19)), (.val 20)])] [] [] [] [(true, [.int .i64, .int .i64, .int .i64])] 
     (.ite (.cmp .neq (.var 21) (.lit 0))
      (.again 0 [(.int .i64 (.op .add .i64 (.var 17) (.lit 1)))])
      (.loop 1 [(.int .i64 (.lit 0))] [.int .i64] 
       (.ite (.cmp .lss (.var 24) (.len 20))
        (.need (.tt true) [(.cmp .geq (.var 24) (.lit 0)), (.cmp .lss (.var 24) (.len 20))] 
        (.load (.tt true) (.idx (.var 20) (.var 24) 5) [.sl, .int .u8, .int .i64, .int .i64, .int .i64] 
        (.loop 2 [(.int .i64 (.lit 0))] [.int .i64] 
         (.ite (.cmp .lss (.var 30) (.len 25))
          (.need (.tt true) [(.cmp .geq (.var 30) (.lit 0)), (.cmp .lss (.var 30) (.len 25))] 
          (.load (.tt true) (.idx (.var 25) (.var 30) 7) [.int .u8, .int .u8, .int .i64, .int .i64, .int .i64, .int .i64, .sl] 
          (.call 19 [(.agg [(.int .u8 (.var 31)), (.int .u8 (.var 32)), (.int .i64 (.var 33)), (.int .i64 (.var 34)), (.int .i64 (.var 35)), (.int .i64 (.var 36)), (.val 37)])] [] [] [] [(false, [.sl])] 
          (.call 22 [(.agg [(.int .u8 (.var 31)), (.int .u8 (.var 32)), (.int .i64 (.var 33)), (.int .i64 (.var 34)), (.int .i64 (.var 35)), (.int .i64 (.var 36)), (.val 37)])] [] [] [] [(false, [.int .i64]), (false, [.bool])] 
          (.ite (.var 40)
           (.app 3 1 8 (.val 38) (.cells [(.int .i64 (.var 39))] 1) 
           (.loop 3 [(.int .i64 (.lit 0))] [.int .i64] 
            (.ite (.cmp .lss (.var 42) (.len 41))
             (.need (.tt true) [(.cmp .geq (.var 42) (.lit 0)), (.cmp .lss (.var 42) (.len 41))] 
             (.load (.tt true) (.idx (.var 41) (.var 42) 1) [.int .i64] 
             (.call 28 [(.int .i64 (.var 43)), (.int .i64 (.var 19))] [] [] [] [(false, [.bool])] 
             (.ite (.not (.var 44))
              (.done (.bool (.tt false)) [])
              (.again 3 [(.int .i64 (.op .add .i64 (.var 42) (.lit 1)))])))))
             (.again 2 [(.int .i64 (.op .add .i64 (.var 30) (.lit 1)))]))))
           (.loop 3 [(.int .i64 (.lit 0))] [.int .i64] 
            (.ite (.cmp .lss (.var 41) (.len 38))
             (.need (.tt true) [(.cmp .geq (.var 41) (.lit 0)), (.cmp .lss (.var 41) (.len 38))] 
             (.load (.tt true) (.idx (.var 38) (.var 41) 1) [.int .i64] 
             (.call 28 [(.int .i64 (.var 42)), (.int .i64 (.var 19))] [] [] [] [(false, [.bool])] 
             (.ite (.not (.var 43))
              (.done (.bool (.tt false)) [])
              (.again 3 [(.int .i64 (.op .add .i64 (.var 41) (.lit 1)))])))))
             (.again 2 [(.int .i64 (.op .add .i64 (.var 30) (.lit 1)))]))))))))
          (.call 23 [(.agg [(.int .u8 (.var 26)), (.int .i64 (.var 27)), (.int .i64 (.var 28)), (.int .i64 (.var 29))])] [] [] [] [(false, [.int .i64]), (false, [.bool])] 
          (.ite (.var 32)
           (.call 28 [(.int .i64 (.var 31)), (.int .i64 (.var 19))] [] [] [] [(false, [.bool])] 
           (.ite (.var 33)
            (.call 28 [(.int .i64 (.var 28)), (.int .i64 (.len 20))] [] [] [] [(false, [.bool])] 
            (.ite (.var 34)
             (.call 28 [(.int .i64 (.var 29)), (.int .i64 (.len 20))] [] [] [] [(false, [.bool])] 
             (.ite (.not (.var 35))
              (.done (.bool (.tt false)) [])
              (.again 1 [(.int .i64 (.op .add .i64 (.var 24) (.lit 1)))])))
             (.done (.bool (.tt false)) [])))
            (.done (.bool (.tt false)) [])))
           (.call 28 [(.int .i64 (.var 28)), (.int .i64 (.len 20))] [] [] [] [(false, [.bool])] 
           (.ite (.var 33)
            (.call 28 [(.int .i64 (.var 29)), (.int .i64 (.len 20))] [] [] [] [(false, [.bool])] 
            (.ite (.not (.var 34))
             (.done (.bool (.tt false)) [])
             (.again 1 [(.int .i64 (.op .add .i64 (.var 24) (.lit 1)))])))
            (.done (.bool (.tt false)) [])))))))))
        (.again 0 [(.int .i64 (.op .add .i64 (.var 17) (.lit 1)))])))))))
     (.done (.bool (.tt true)) []))))))))))
def l6 : List (Nat × List Nat × List (Nat × Nat) × List Nat) := [(8, [46], [], [47, 48, 49, 15, 50, 51, 52, 53, 16, 54, 55, 56, 57, 58, 59, 60, 18, 61, 62, 63, 64, 65, 66, 67, 20, 68, 69, 21, 71, 72, 70, 73, 74, 22, 23, 75, 76, 77, 78, 79, 80, 81, 82, 83, 84, 85, 25, 86, 87, 88, 89, 90, 91, 12, 92, 93, 95, 96, 97, 94, 98, 99, 26, 27, 100, 101, 102, 103, 104, 105, 106, 107, 108, 109, 110, 111, 112, 113, 114, 115, 116, 117, 118, 119, 120, 121, 122, 123, 124, 125, 126, 127, 128, 129, 130, 131, 132]), (13, [57], [], [58, 59, 60, 18, 61, 62, 63, 64, 65, 66, 67, 20, 68, 69, 21, 71, 72, 70, 73, 74, 22, 23, 75, 76, 77, 78, 79, 80, 81, 82, 83, 84, 85, 25, 86, 87, 88, 89, 90, 91, 12, 92, 93, 95, 96, 97, 94, 98, 99, 26, 27, 100, 101, 102, 103, 104, 105, 106, 107, 108, 109, 110, 111, 112, 113, 114, 115, 116, 117, 118, 119, 120, 121, 122, 123, 124, 125, 126, 127, 128, 129, 130, 131]), (16, [64], [], [65, 66, 67, 20, 68, 69, 21, 71, 72, 70, 73, 74, 22, 23, 75, 76, 77, 78, 79, 80, 81, 82, 83, 84, 85, 25, 86, 87, 88, 89, 90, 91, 12, 92, 93]), (23, [82], [], [83, 84, 85, 25, 86, 87, 88, 89, 90, 91, 12, 92])]
theorem e6 : ev Try.prog ⟨allF, [44], l6⟩ (bodyOf Try.f6) 0 (initSt [(.agg [(.int .i64 (.var 0)), (.int .i64 (.var 1)), (.val 2)]), (.agg [(.int .u8 (.var 3)), (.int .u8 (.var 4)), (.int .u8 (.var 5)), (.val 6)]), (.int .u8 (.var 7)), (.int .u8 (.var 8)), (.int .u8 (.var 9)), (.int .i64 (.var 10))] [] Try.f6.ntmps [.int .i64, .int .i64, .sl, .int .u8, .int .u8, .int .u8, .sl, .int .u8, .int .u8, .int .u8, .int .i64]) (finK Try.prog Try.f6.results []) = t6 := by kernel_rfl
theorem c6 {G : List Value} {h : H} {R : Value → List (List Value) → H → Prop} (hG : FitsL [.int .i64, .int .i64, .sl, .int .u8, .int .u8, .int .u8, .sl, .int .u8, .int .u8, .int .u8, .int .i64] G) (H : holds Try.prog R t6 G [] h) : CallsA Try.prog 6 (fun e => SV.denL G (fun k => e (k - 1000000)) [(.agg [(.int .i64 (.var 0)), (.int .i64 (.var 1)), (.val 2)]), (.agg [(.int .u8 (.var 3)), (.int .u8 (.var 4)), (.int .u8 (.var 5)), (.val 6)]), (.int .u8 (.var 7)), (.int .u8 (.var 8)), (.int .u8 (.var 9)), (.int .i64 (.var 10))]) [] h R :=
  CallsA.of_ev (cf := ⟨allF, [44], l6⟩) (fn := Try.f6) (c := bodyOf Try.f6) (pcs := []) Try.func6 (by rfl) callOK (by rfl) hG (by rfl) (by rw [show ([] : List (List SV)).map List.length = [] from rfl, e6]; exact H)
/-- What is left of outworker/outworkerlaw04.IrTwice. -/
def t7 : Out :=
 (.call 13 [] [] [] [] [(false, [.bool])] 
 (.ite (.not (.var 4))
  (.done (.bool (.tt false)) [])
  (.call 15 [(.agg [(.int .u8 (.var 0)), (.int .u8 (.var 1)), (.int .u8 (.var 2)), (.val 3)])] [] [] [] [(true, [.int .i64, .int .i64, .sl])] 
  (.need (.tt true) [(.tt true), (.cmp .lss (.lit 0) (.len 7))] 
  (.load (.tt true) (.idx (.var 7) (.lit 0) 5) [.sl, .int .u8, .int .i64, .int .i64, .int .i64] 
  (.app 41 5 56 (.val 7) (.cells [(.val 8), (.int .u8 (.var 9)), (.int .i64 (.var 10)), (.int .i64 (.var 11)), (.int .i64 (.var 12))] 1) 
  (.call 16 [(.agg [(.int .i64 (.var 5)), (.int .i64 (.op .add .i64 (.var 6) (.lit 1))), (.val 13)])] [] [] [] [(true, [.int .i64, .int .i64, .int .i64])] 
  (.ite (.and (.cmp .eql (.var 14) (.lit 0)) (.and (.cmp .eql (.var 15) (.lit 0)) (.cmp .eql (.var 16) (.lit 0))))
   (.call 15 [(.agg [(.int .u8 (.var 0)), (.int .u8 (.var 1)), (.int .u8 (.var 2)), (.val 3)])] [] [] [] [(true, [.int .i64, .int .i64, .sl])] 
   (.call 16 [(.agg [(.int .i64 (.var 17)), (.int .i64 (.var 18)), (.val 19)])] [] [] [] [(true, [.int .i64, .int .i64, .int .i64])] 
   (.done (.bool (.and (.cmp .eql (.var 20) (.lit 0)) (.and (.cmp .eql (.var 21) (.lit 0)) (.cmp .eql (.var 22) (.lit 0))))) [])))
   (.done (.bool (.tt false)) [])))))))))
def l7 : List (Nat × List Nat × List (Nat × Nat) × List Nat) := []
theorem e7 : ev Try.prog ⟨allF, [], l7⟩ (bodyOf Try.f7) 0 (initSt [(.agg [(.int .u8 (.var 0)), (.int .u8 (.var 1)), (.int .u8 (.var 2)), (.val 3)])] [] Try.f7.ntmps [.int .u8, .int .u8, .int .u8, .sl]) (finK Try.prog Try.f7.results []) = t7 := by kernel_rfl
theorem c7 {G : List Value} {h : H} {R : Value → List (List Value) → H → Prop} (hG : FitsL [.int .u8, .int .u8, .int .u8, .sl] G) (H : holds Try.prog R t7 G [] h) : CallsA Try.prog 7 (fun e => SV.denL G (fun k => e (k - 1000000)) [(.agg [(.int .u8 (.var 0)), (.int .u8 (.var 1)), (.int .u8 (.var 2)), (.val 3)])]) [] h R :=
  CallsA.of_ev (cf := ⟨allF, [], l7⟩) (fn := Try.f7) (c := bodyOf Try.f7) (pcs := []) Try.func7 (by rfl) callOK (by rfl) hG (by rfl) (by rw [show ([] : List (List SV)).map List.length = [] from rfl, e7]; exact H)
/-- What is left of outworker/outworkerlaw04.IrCopied. -/
def t8 : Out :=
 (.call 13 [] [] [] [] [(false, [.bool])] 
 (.ite (.not (.var 8))
  (.done (.bool (.tt false)) [])
  (.call 15 [(.agg [(.int .u8 (.var 0)), (.int .u8 (.var 1)), (.int .u8 (.var 2)), (.val 3)])] [] [] [] [(true, [.int .i64, .int .i64, .sl])] 
  (.need (.tt true) [(.cmp .neq (.len 11) (.lit 0))] 
  (.need (.tt true) [(.cmp .geq (.op .rem .i64 (.conv .i64 (.var 4)) (.len 11)) (.lit 0)), (.cmp .lss (.op .rem .i64 (.conv .i64 (.var 4)) (.len 11)) (.len 11))] 
  (.load (.tt true) (.idx (.var 11) (.op .rem .i64 (.conv .i64 (.var 4)) (.len 11)) 5) [.sl, .int .u8, .int .i64, .int .i64, .int .i64] 
  (.still (.tt true) (.idx (.var 11) (.op .rem .i64 (.conv .i64 (.var 4)) (.len 11)) 5) [(.val 12), (.int .u8 (.var 13)), (.int .i64 (.var 14)), (.int .i64 (.var 15)), (.int .i64 (.var 16))] 
  (.call 29 [(.agg [(.val 12), (.int .u8 (.var 13)), (.int .i64 (.var 14)), (.int .i64 (.var 15)), (.int .i64 (.var 16))])] [] [] [] [(true, [.sl, .int .u8, .int .i64, .int .i64, .int .i64])] 
  (.alloc 41 [(.val 12), (.int .u8 (.var 13)), (.int .i64 (.var 14)), (.int .i64 (.var 15)), (.int .i64 (.var 16))] (.lsl 1) 
  (.alloc 41 [(.val 17), (.int .u8 (.var 18)), (.int .i64 (.var 19)), (.int .i64 (.var 20)), (.int .i64 (.var 21))] (.lsl 1) 
  (.call 30 [(.val 22), (.val 23)] [] [] [] [(false, [.bool])] 
  (.ite (.not (.var 24))
   (.done (.bool (.tt false)) [])
   (.alloc 41 [(.val 17), (.int .u8 (.var 18)), (.int .i64 (.var 19)), (.int .i64 (.var 20)), (.int .i64 (.var 21))] (.lsl 1) 
   (.call 18 [(.val 25), (.int .u8 (.lit 0)), (.int .u8 (.var 5)), (.int .u8 (.var 6)), (.int .i64 (.var 7))] [] [] [] [] 
   (.call 15 [(.agg [(.int .u8 (.var 0)), (.int .u8 (.var 1)), (.int .u8 (.var 2)), (.val 3)])] [] [] [] [(true, [.int .i64, .int .i64, .sl])] 
   (.call 31 [(.agg [(.int .i64 (.var 9)), (.int .i64 (.var 10)), (.val 11)]), (.agg [(.int .i64 (.var 26)), (.int .i64 (.var 27)), (.val 28)])] [] [] [] [(false, [.bool])] 
   (.done (.bool (.var 29)) [])))))))))))))))))
def l8 : List (Nat × List Nat × List (Nat × Nat) × List Nat) := []
theorem e8 : ev Try.prog ⟨allF, [31, 33, 37], l8⟩ (bodyOf Try.f8) 0 (initSt [(.agg [(.int .u8 (.var 0)), (.int .u8 (.var 1)), (.int .u8 (.var 2)), (.val 3)]), (.int .u8 (.var 4)), (.int .u8 (.var 5)), (.int .u8 (.var 6)), (.int .i64 (.var 7))] [] Try.f8.ntmps [.int .u8, .int .u8, .int .u8, .sl, .int .u8, .int .u8, .int .u8, .int .i64]) (finK Try.prog Try.f8.results []) = t8 := by kernel_rfl
theorem c8 {G : List Value} {h : H} {R : Value → List (List Value) → H → Prop} (hG : FitsL [.int .u8, .int .u8, .int .u8, .sl, .int .u8, .int .u8, .int .u8, .int .i64] G) (H : holds Try.prog R t8 G [] h) : CallsA Try.prog 8 (fun e => SV.denL G (fun k => e (k - 1000000)) [(.agg [(.int .u8 (.var 0)), (.int .u8 (.var 1)), (.int .u8 (.var 2)), (.val 3)]), (.int .u8 (.var 4)), (.int .u8 (.var 5)), (.int .u8 (.var 6)), (.int .i64 (.var 7))]) [] h R :=
  CallsA.of_ev (cf := ⟨allF, [31, 33, 37], l8⟩) (fn := Try.f8) (c := bodyOf Try.f8) (pcs := []) Try.func8 (by rfl) callOK (by rfl) hG (by rfl) (by rw [show ([] : List (List SV)).map List.length = [] from rfl, e8]; exact H)
/-- What is left of outworker/outworkerlaw05.MachChecks. -/
def t9 : Out :=
 (.call 32 [] [] [] [] [(false, [.bool])] 
 (.ite (.not (.var 15))
  (.done (.bool (.tt false)) [])
  (.call 14 [(.val 3)] [] [] [] [(false, [.bool])] 
  (.ite (.var 16)
   (.done (.bool (.tt true)) [])
   (.call 33 [(.agg [(.int .u8 (.var 4)), (.int .u8 (.var 5)), (.int .u8 (.var 6)), (.val 7)]), (.int .u8 (.var 8)), (.int .u8 (.var 9)), (.val 10)] [] [] [] [(true, [.int .i64, .int .i64, .int .i64, .sl])] 
   (.call 34 [(.agg [(.int .i64 (.var 0)), (.int .i64 (.var 1)), (.int .i64 (.var 2)), (.val 3)])] [] [] [] [(true, [.int .i64, .int .i64, .int .i64])] 
   (.call 35 [(.agg [(.int .i64 (.var 0)), (.int .i64 (.var 1)), (.int .i64 (.var 2)), (.val 3)])] [] [] [] [(true, [.int .i64, .int .i64, .int .i64])] 
   (.ite (.and (.cmp .eql (.var 21) (.var 24)) (.and (.cmp .eql (.var 22) (.var 25)) (.cmp .eql (.var 23) (.var 26))))
    (.call 34 [(.agg [(.int .i64 (.var 17)), (.int .i64 (.var 18)), (.int .i64 (.var 19)), (.val 20)])] [] [] [] [(true, [.int .i64, .int .i64, .int .i64])] 
    (.ite (.not (.and (.cmp .eql (.var 27) (.lit 0)) (.and (.cmp .eql (.var 28) (.lit 0)) (.cmp .eql (.var 29) (.lit 0)))))
     (.done (.bool (.tt false)) [])
     (.call 18 [(.val 20), (.int .u8 (.var 11)), (.int .u8 (.var 12)), (.int .u8 (.var 13)), (.int .i64 (.var 14))] [] [] [] [] 
     (.call 34 [(.agg [(.int .i64 (.var 17)), (.int .i64 (.var 18)), (.int .i64 (.var 19)), (.val 20)])] [] [] [] [(true, [.int .i64, .int .i64, .int .i64])] 
     (.call 35 [(.agg [(.int .i64 (.var 17)), (.int .i64 (.var 18)), (.int .i64 (.var 19)), (.val 20)])] [] [] [] [(true, [.int .i64, .int .i64, .int .i64])] 
     (.ite (.not (.and (.cmp .eql (.var 30) (.var 33)) (.and (.cmp .eql (.var 31) (.var 34)) (.cmp .eql (.var 32) (.var 35)))))
      (.done (.bool (.tt false)) [])
      (.ite (.cmp .eql (.op .rem .u8 (.var 13) (.lit 4)) (.lit 0))
       (.call 34 [(.agg [(.int .i64 (.var 17)), (.int .i64 (.var 14)), (.int .i64 (.var 19)), (.val 20)])] [] [] [] [(true, [.int .i64, .int .i64, .int .i64])] 
       (.call 35 [(.agg [(.int .i64 (.var 17)), (.int .i64 (.var 14)), (.int .i64 (.var 19)), (.val 20)])] [] [] [] [(true, [.int .i64, .int .i64, .int .i64])] 
       (.done (.bool (.and (.cmp .eql (.var 36) (.var 39)) (.and (.cmp .eql (.var 37) (.var 40)) (.cmp .eql (.var 38) (.var 41))))) [])))
       (.ite (.cmp .eql (.op .rem .u8 (.var 13) (.lit 4)) (.lit 1))
        (.call 34 [(.agg [(.int .i64 (.var 17)), (.int .i64 (.var 18)), (.int .i64 (.var 14)), (.val 20)])] [] [] [] [(true, [.int .i64, .int .i64, .int .i64])] 
        (.call 35 [(.agg [(.int .i64 (.var 17)), (.int .i64 (.var 18)), (.int .i64 (.var 14)), (.val 20)])] [] [] [] [(true, [.int .i64, .int .i64, .int .i64])] 
        (.done (.bool (.and (.cmp .eql (.var 36) (.var 39)) (.and (.cmp .eql (.var 37) (.var 40)) (.cmp .eql (.var 38) (.var 41))))) [])))
        (.ite (.cmp .eql (.op .rem .u8 (.var 13) (.lit 4)) (.lit 2))
         (.call 34 [(.agg [(.int .i64 (.var 14)), (.int .i64 (.var 18)), (.int .i64 (.var 19)), (.val 20)])] [] [] [] [(true, [.int .i64, .int .i64, .int .i64])] 
         (.call 35 [(.agg [(.int .i64 (.var 14)), (.int .i64 (.var 18)), (.int .i64 (.var 19)), (.val 20)])] [] [] [] [(true, [.int .i64, .int .i64, .int .i64])] 
         (.done (.bool (.and (.cmp .eql (.var 36) (.var 39)) (.and (.cmp .eql (.var 37) (.var 40)) (.cmp .eql (.var 38) (.var 41))))) [])))
         (.loop 0 [(.int .u8 (.lit 0))] [.int .u8] 
          (.ite (.cmp .lss (.var 36) (.var 11))
           (.need (.tt true) [(.tt true), (.cmp .lss (.lit 0) (.len 20))] 
           (.load (.tt true) (.fld (.idx (.var 20) (.lit 0) 5) 0) [.sl] 
           (.still (.tt true) (.fld (.idx (.var 20) (.lit 0) 5) 0) [(.val 37)] 
           (.app 46 7 64 (.val 37) (.cells [(.int .u8 (.lit 8)), (.int .u8 (.lit 0)), (.int .i64 (.lit 0)), (.int .i64 (.lit 0)), (.int .i64 (.lit 0)), (.int .i64 (.lit 0)), (.cst (.slice none 0 0)), (.int .u8 (.lit 1)), (.int .u8 (.lit 0)), (.int .i64 (.lit 0)), (.int .i64 (.lit 0)), (.int .i64 (.lit 0)), (.int .i64 (.lit 0)), (.cst (.slice none 0 0))] 2) 
           (.need (.tt true) [(.tt true), (.cmp .lss (.lit 0) (.len 20))] 
           (.store (.fld (.idx (.var 20) (.lit 0) 5) 0) [(.val 38)] 
           (.again 0 [(.int .u8 (.op .add .u8 (.var 36) (.lit 1)))])))))))
           (.call 34 [(.agg [(.int .i64 (.var 17)), (.int .i64 (.var 18)), (.int .i64 (.var 19)), (.val 20)])] [] [] [] [(true, [.int .i64, .int .i64, .int .i64])] 
           (.call 35 [(.agg [(.int .i64 (.var 17)), (.int .i64 (.var 18)), (.int .i64 (.var 19)), (.val 20)])] [] [] [] [(true, [.int .i64, .int .i64, .int .i64])] 
           (.done (.bool (.and (.cmp .eql (.var 37) (.var 40)) (.and (.cmp .eql (.var 38) (.var 41)) (.cmp .eql (.var 39) (.var 42))))) []))))))))))))))
    (.done (.bool (.tt false)) [])))))))))
def l9 : List (Nat × List Nat × List (Nat × Nat) × List Nat) := [(13, [56], [], [57, 58, 59, 60, 61, 62, 63, 64, 65, 66, 67, 68, 69, 70, 71])]
theorem e9 : ev Try.prog ⟨allF, [], l9⟩ (bodyOf Try.f9) 0 (initSt [(.agg [(.int .i64 (.var 0)), (.int .i64 (.var 1)), (.int .i64 (.var 2)), (.val 3)]), (.agg [(.int .u8 (.var 4)), (.int .u8 (.var 5)), (.int .u8 (.var 6)), (.val 7)]), (.int .u8 (.var 8)), (.int .u8 (.var 9)), (.val 10), (.int .u8 (.var 11)), (.int .u8 (.var 12)), (.int .u8 (.var 13)), (.int .i64 (.var 14))] [] Try.f9.ntmps [.int .i64, .int .i64, .int .i64, .sl, .int .u8, .int .u8, .int .u8, .sl, .int .u8, .int .u8, .sl, .int .u8, .int .u8, .int .u8, .int .i64]) (finK Try.prog Try.f9.results []) = t9 := by kernel_rfl
theorem c9 {G : List Value} {h : H} {R : Value → List (List Value) → H → Prop} (hG : FitsL [.int .i64, .int .i64, .int .i64, .sl, .int .u8, .int .u8, .int .u8, .sl, .int .u8, .int .u8, .sl, .int .u8, .int .u8, .int .u8, .int .i64] G) (H : holds Try.prog R t9 G [] h) : CallsA Try.prog 9 (fun e => SV.denL G (fun k => e (k - 1000000)) [(.agg [(.int .i64 (.var 0)), (.int .i64 (.var 1)), (.int .i64 (.var 2)), (.val 3)]), (.agg [(.int .u8 (.var 4)), (.int .u8 (.var 5)), (.int .u8 (.var 6)), (.val 7)]), (.int .u8 (.var 8)), (.int .u8 (.var 9)), (.val 10), (.int .u8 (.var 11)), (.int .u8 (.var 12)), (.int .u8 (.var 13)), (.int .i64 (.var 14))]) [] h R :=
  CallsA.of_ev (cf := ⟨allF, [], l9⟩) (fn := Try.f9) (c := bodyOf Try.f9) (pcs := []) Try.func9 (by rfl) callOK (by rfl) hG (by rfl) (by rw [show ([] : List (List SV)).map List.length = [] from rfl, e9]; exact H)
/-- What is left of outworker/outworkerlaw05.MachFree. -/
def t10 : Out :=
 (.call 32 [] [] [] [] [(false, [.bool])] 
 (.ite (.not (.var 7))
  (.done (.bool (.tt false)) [])
  (.call 36 [(.agg [(.int .u8 (.var 0)), (.int .u8 (.var 1)), (.int .i64 (.var 2)), (.int .i64 (.var 3)), (.int .i64 (.var 4)), (.int .i64 (.var 5)), (.val 6)])] [] [] [] [(false, [.bool])] 
  (.done (.bool (.ite (.var 8) (.ite (.ite (.cmp .eql (.var 0) (.lit 2)) (.tt true) (.cmp .eql (.var 0) (.lit 7))) (.tt true) (.cmp .eql (.var 0) (.lit 8))) (.not (.ite (.ite (.cmp .eql (.var 0) (.lit 2)) (.tt true) (.cmp .eql (.var 0) (.lit 7))) (.tt true) (.cmp .eql (.var 0) (.lit 8)))))) []))))
def l10 : List (Nat × List Nat × List (Nat × Nat) × List Nat) := []
theorem e10 : ev Try.prog ⟨allF, [], l10⟩ (bodyOf Try.f10) 0 (initSt [(.agg [(.int .u8 (.var 0)), (.int .u8 (.var 1)), (.int .i64 (.var 2)), (.int .i64 (.var 3)), (.int .i64 (.var 4)), (.int .i64 (.var 5)), (.val 6)])] [] Try.f10.ntmps [.int .u8, .int .u8, .int .i64, .int .i64, .int .i64, .int .i64, .sl]) (finK Try.prog Try.f10.results []) = t10 := by kernel_rfl
theorem c10 {G : List Value} {h : H} {R : Value → List (List Value) → H → Prop} (hG : FitsL [.int .u8, .int .u8, .int .i64, .int .i64, .int .i64, .int .i64, .sl] G) (H : holds Try.prog R t10 G [] h) : CallsA Try.prog 10 (fun e => SV.denL G (fun k => e (k - 1000000)) [(.agg [(.int .u8 (.var 0)), (.int .u8 (.var 1)), (.int .i64 (.var 2)), (.int .i64 (.var 3)), (.int .i64 (.var 4)), (.int .i64 (.var 5)), (.val 6)])]) [] h R :=
  CallsA.of_ev (cf := ⟨allF, [], l10⟩) (fn := Try.f10) (c := bodyOf Try.f10) (pcs := []) Try.func10 (by rfl) callOK (by rfl) hG (by rfl) (by rw [show ([] : List (List SV)).map List.length = [] from rfl, e10]; exact H)
/-- What is left of outworker/outworkerlaw05.MachOnly. -/
def t11 : Out :=
 (.call 32 [] [] [] [] [(false, [.bool])] 
 (.ite (.not (.var 11))
  (.done (.bool (.tt false)) [])
  (.call 14 [(.val 3)] [] [] [] [(false, [.bool])] 
  (.ite (.var 12)
   (.done (.bool (.tt true)) [])
   (.call 33 [(.agg [(.int .u8 (.var 4)), (.int .u8 (.var 5)), (.int .u8 (.var 6)), (.val 7)]), (.int .u8 (.var 8)), (.int .u8 (.var 9)), (.val 10)] [] [] [] [(true, [.int .i64, .int .i64, .int .i64, .sl])] 
   (.alloc 67 [(.int .i64 (.var 0)), (.int .i64 (.var 1)), (.int .i64 (.var 2)), (.val 3), (.int .i64 (.var 13)), (.int .i64 (.var 14)), (.int .i64 (.var 15)), (.val 16)] (.lsl 2) 
   (.loop 0 [(.int .i64 (.lit 0))] [.int .i64] 
    (.ite (.cmp .lss (.var 18) (.len 17))
     (.need (.tt true) [(.cmp .geq (.var 18) (.lit 0)), (.cmp .lss (.var 18) (.len 17))] 
     (.load (.tt true) (.idx (.var 17) (.var 18) 4) [.int .i64, .int .i64, .int .i64, .sl] 
     (.call 34 [(.agg [(.int .i64 (.var 19)), (.int .i64 (.var 20)), (.int .i64 (.var 21)), (.val 22)])] [] [] [] [(true, [.int .i64, .int .i64, .int .i64])] 
     (.ite (.cmp .neq (.var 23) (.lit 0))
      (.again 0 [(.int .i64 (.op .add .i64 (.var 18) (.lit 1)))])
      (.loop 1 [(.int .i64 (.lit 0))] [.int .i64] 
       (.ite (.cmp .lss (.var 26) (.len 22))
        (.need (.tt true) [(.cmp .geq (.var 26) (.lit 0)), (.cmp .lss (.var 26) (.len 22))] 
        (.load (.tt true) (.idx (.var 22) (.var 26) 5) [.sl, .int .u8, .int .i64, .int .i64, .int .i64] 
        (.loop 2 [(.int .i64 (.lit 0))] [.int .i64] 
         (.ite (.cmp .lss (.var 32) (.len 27))
          (.need (.tt true) [(.cmp .geq (.var 32) (.lit 0)), (.cmp .lss (.var 32) (.len 27))] 
          (.load (.tt true) (.idx (.var 27) (.var 32) 7) [.int .u8, .int .u8, .int .i64, .int .i64, .int .i64, .int .i64, .sl] 
          (.ite (.cmp .eql (.var 33) (.lit 8))
           (.ite (.ite (.ite (.ite (.cmp .lss (.var 35) (.lit 0)) (.tt true) (.cmp .geq (.var 35) (.var 20))) (.tt true) (.cmp .lss (.var 36) (.lit 0))) (.tt true) (.cmp .geq (.var 36) (.var 21)))
            (.done (.bool (.tt false)) [])
            (.again 2 [(.int .i64 (.op .add .i64 (.var 32) (.lit 1)))]))
           (.ite (.ite (.cmp .eql (.var 33) (.lit 7)) (.ite (.ite (.ite (.cmp .lss (.var 36) (.lit 0)) (.tt true) (.cmp .geq (.var 36) (.var 20))) (.tt true) (.cmp .lss (.var 35) (.lit 0))) (.tt true) (.cmp .geq (.var 35) (.var 21))) (.tt false))
            (.done (.bool (.tt false)) [])
            (.again 2 [(.int .i64 (.op .add .i64 (.var 32) (.lit 1)))])))))
          (.again 1 [(.int .i64 (.op .add .i64 (.var 26) (.lit 1)))])))))
        (.call 34 [(.agg [(.int .i64 (.var 19)), (.int .i64 (.ite (.cmp .lss (.lit 8) (.op .add .i64 (.var 20) (.lit 1))) (.lit 8) (.op .add .i64 (.var 20) (.lit 1)))), (.int .i64 (.ite (.cmp .lss (.lit 64) (.op .add .i64 (.var 21) (.lit 3))) (.lit 64) (.op .add .i64 (.var 21) (.lit 3)))), (.val 22)])] [] [] [] [(true, [.int .i64, .int .i64, .int .i64])] 
        (.ite (.cmp .neq (.var 27) (.lit 0))
         (.done (.bool (.tt false)) [])
         (.again 0 [(.int .i64 (.op .add .i64 (.var 18) (.lit 1)))])))))))))
     (.done (.bool (.tt true)) [])))))))))
def l11 : List (Nat × List Nat × List (Nat × Nat) × List Nat) := [(6, [33], [], [34, 35, 36, 12, 37, 38, 39, 40, 41, 42, 43, 44, 45, 46, 47, 14, 48, 49, 50, 51, 52, 53, 54, 16, 55, 56, 57, 58, 17, 18, 59, 60, 61, 62, 63, 64, 65, 66, 67, 68, 69, 70, 71, 72, 73, 74, 75, 76, 77, 78, 79, 80, 81, 82, 83, 84, 85, 86, 87, 88, 89, 90, 91, 92, 93, 10, 94, 95, 96, 19, 97, 98, 99, 100, 101, 102, 103, 104, 105, 106, 107, 108, 109, 110, 111]), (10, [44], [], [45, 46, 47, 14, 48, 49, 50, 51, 52, 53, 54, 16, 55, 56, 57, 58, 17, 18, 59, 60, 61, 62, 63, 64, 65, 66, 67, 68, 69, 70, 71, 72, 73, 74, 75, 76, 77, 78, 79, 80, 81, 82, 83, 84, 85, 86, 87, 88, 89, 90, 91, 92, 93, 10, 94, 95]), (13, [51], [], [52, 53, 54, 16, 55, 56, 57, 58, 17, 18, 59, 60, 61, 62, 63, 64, 65, 66, 67, 68, 69, 70, 71, 72, 73, 74, 75, 76, 77, 78, 79, 80, 81, 82, 83, 84, 85, 86, 87, 88, 89, 90, 91, 92, 93, 10, 94])]
theorem e11 : ev Try.prog ⟨allF, [31], l11⟩ (bodyOf Try.f11) 0 (initSt [(.agg [(.int .i64 (.var 0)), (.int .i64 (.var 1)), (.int .i64 (.var 2)), (.val 3)]), (.agg [(.int .u8 (.var 4)), (.int .u8 (.var 5)), (.int .u8 (.var 6)), (.val 7)]), (.int .u8 (.var 8)), (.int .u8 (.var 9)), (.val 10)] [] Try.f11.ntmps [.int .i64, .int .i64, .int .i64, .sl, .int .u8, .int .u8, .int .u8, .sl, .int .u8, .int .u8, .sl]) (finK Try.prog Try.f11.results []) = t11 := by kernel_rfl
theorem c11 {G : List Value} {h : H} {R : Value → List (List Value) → H → Prop} (hG : FitsL [.int .i64, .int .i64, .int .i64, .sl, .int .u8, .int .u8, .int .u8, .sl, .int .u8, .int .u8, .sl] G) (H : holds Try.prog R t11 G [] h) : CallsA Try.prog 11 (fun e => SV.denL G (fun k => e (k - 1000000)) [(.agg [(.int .i64 (.var 0)), (.int .i64 (.var 1)), (.int .i64 (.var 2)), (.val 3)]), (.agg [(.int .u8 (.var 4)), (.int .u8 (.var 5)), (.int .u8 (.var 6)), (.val 7)]), (.int .u8 (.var 8)), (.int .u8 (.var 9)), (.val 10)]) [] h R :=
  CallsA.of_ev (cf := ⟨allF, [31], l11⟩) (fn := Try.f11) (c := bodyOf Try.f11) (pcs := []) Try.func11 (by rfl) callOK (by rfl) hG (by rfl) (by rw [show ([] : List (List SV)).map List.length = [] from rfl, e11]; exact H)
/-- What is left of outworker/outworkerlaw05.MachSlots. -/
def t12 : Out :=
 (.call 32 [] [] [] [] [(false, [.bool])] 
 (.ite (.not (.var 9))
  (.done (.bool (.tt false)) [])
  (.call 33 [(.agg [(.int .u8 (.var 0)), (.int .u8 (.var 1)), (.int .u8 (.var 2)), (.val 3)]), (.int .u8 (.var 4)), (.int .u8 (.var 5)), (.cst (.slice none 0 0))] [] [] [] [(true, [.int .i64, .int .i64, .int .i64, .sl])] 
  (.need (.tt true) [(.tt true), (.cmp .lss (.lit 0) (.len 13))] 
  (.load (.tt true) (.fld (.idx (.var 13) (.lit 0) 5) 0) [.sl] 
  (.alloc 46 [(.int .u8 (.ite (.var 8) (.lit 8) (.lit 7))), (.int .u8 (.lit 0)), (.int .i64 (.ite (.var 8) (.var 6) (.var 7))), (.int .i64 (.ite (.var 8) (.var 7) (.var 6))), (.int .i64 (.lit 0)), (.int .i64 (.lit 0)), (.cst (.slice none 0 0))] (.lsl 1) 
  (.still (.tt true) (.fld (.idx (.var 13) (.lit 0) 5) 0) [(.val 14)] 
  (.app 46 7 64 (.val 15) (.sl (.val 14)) 
  (.need (.tt true) [(.tt true), (.cmp .lss (.lit 0) (.len 13))] 
  (.store (.fld (.idx (.var 13) (.lit 0) 5) 0) [(.val 16)] 
  (.call 34 [(.agg [(.int .i64 (.var 10)), (.int .i64 (.var 11)), (.int .i64 (.var 12)), (.val 13)])] [] [] [] [(true, [.int .i64, .int .i64, .int .i64])] 
  (.done (.bool (.and (.cmp .eql (.var 17) (.ite (.ite (.cmp .lss (.var 6) (.lit 0)) (.tt true) (.cmp .geq (.var 6) (.var 11))) (.lit 23) (.ite (.ite (.cmp .lss (.var 7) (.lit 0)) (.tt true) (.cmp .geq (.var 7) (.var 12))) (.lit 24) (.lit 0)))) (.and (.cmp .eql (.var 18) (.lit 0)) (.cmp .eql (.var 19) (.lit 0))))) []))))))))))))
def l12 : List (Nat × List Nat × List (Nat × Nat) × List Nat) := []
theorem e12 : ev Try.prog ⟨allF, [32], l12⟩ (bodyOf Try.f12) 0 (initSt [(.agg [(.int .u8 (.var 0)), (.int .u8 (.var 1)), (.int .u8 (.var 2)), (.val 3)]), (.int .u8 (.var 4)), (.int .u8 (.var 5)), (.int .i64 (.var 6)), (.int .i64 (.var 7)), (.bool (.var 8))] [] Try.f12.ntmps [.int .u8, .int .u8, .int .u8, .sl, .int .u8, .int .u8, .int .i64, .int .i64, .bool]) (finK Try.prog Try.f12.results []) = t12 := by kernel_rfl
theorem c12 {G : List Value} {h : H} {R : Value → List (List Value) → H → Prop} (hG : FitsL [.int .u8, .int .u8, .int .u8, .sl, .int .u8, .int .u8, .int .i64, .int .i64, .bool] G) (H : holds Try.prog R t12 G [] h) : CallsA Try.prog 12 (fun e => SV.denL G (fun k => e (k - 1000000)) [(.agg [(.int .u8 (.var 0)), (.int .u8 (.var 1)), (.int .u8 (.var 2)), (.val 3)]), (.int .u8 (.var 4)), (.int .u8 (.var 5)), (.int .i64 (.var 6)), (.int .i64 (.var 7)), (.bool (.var 8))]) [] h R :=
  CallsA.of_ev (cf := ⟨allF, [32], l12⟩) (fn := Try.f12) (c := bodyOf Try.f12) (pcs := []) Try.func12 (by rfl) callOK (by rfl) hG (by rfl) (by rw [show ([] : List (List SV)).map List.length = [] from rfl, e12]; exact H)
/-- What is left of outworker/outworkerlaw04.Awake. -/
def t13 : Out :=
 (.alloc 46 [(.int .u8 (.lit 3)), (.int .u8 (.lit 1)), (.int .i64 (.lit 1)), (.int .i64 (.lit 0)), (.int .i64 (.lit 0)), (.int .i64 (.lit 0)), (.cst (.slice none 0 0))] (.lsl 1) 
 (.alloc 41 [(.val 0), (.int .u8 (.lit 3)), (.int .i64 (.lit 1)), (.int .i64 (.lit 0)), (.int .i64 (.lit 0))] (.lsl 1) 
 (.call 16 [(.agg [(.int .i64 (.lit 0)), (.int .i64 (.lit 2)), (.val 1)])] [] [] [] [(true, [.int .i64, .int .i64, .int .i64])] 
 (.ite (.and (.cmp .eql (.var 2) (.lit 0)) (.and (.cmp .eql (.var 3) (.lit 0)) (.cmp .eql (.var 4) (.lit 0))))
  (.call 16 [(.agg [(.int .i64 (.lit 0)), (.int .i64 (.lit 1)), (.val 1)])] [] [] [] [(true, [.int .i64, .int .i64, .int .i64])] 
  (.need (.cmp .eql (.var 5) (.lit 21)) [(.tt true), (.cmp .lss (.lit 0) (.len 1))] 
  (.load (.cmp .eql (.var 5) (.lit 21)) (.fld (.idx (.var 1) (.lit 0) 5) 0) [.sl] 
  (.need (.cmp .eql (.var 5) (.lit 21)) [(.tt true), (.cmp .lss (.lit 0) (.len 8))] 
  (.load (.cmp .eql (.var 5) (.lit 21)) (.idx (.var 8) (.lit 0) 7) [.int .u8, .int .u8, .int .i64, .int .i64, .int .i64, .int .i64, .sl] 
  (.ite (.cmp .eql (.var 5) (.lit 21))
   (.call 19 [(.agg [(.int .u8 (.var 9)), (.int .u8 (.var 10)), (.int .i64 (.var 11)), (.int .i64 (.var 12)), (.int .i64 (.var 13)), (.int .i64 (.var 14)), (.val 15)])] [] [] [] [(false, [.sl])] 
   (.done (.bool (.cmp .eql (.len 16) (.lit 2))) []))
   (.done (.bool (.tt false)) [])))))))
  (.done (.bool (.tt false)) [])))))
def l13 : List (Nat × List Nat × List (Nat × Nat) × List Nat) := []
theorem e13 : ev Try.prog ⟨allF, [4, 7], l13⟩ (bodyOf Try.f13) 0 (initSt [] [] Try.f13.ntmps []) (finK Try.prog Try.f13.results []) = t13 := by kernel_rfl
theorem c13 {G : List Value} {h : H} {R : Value → List (List Value) → H → Prop} (hG : FitsL [] G) (H : holds Try.prog R t13 G [] h) : CallsA Try.prog 13 (fun e => SV.denL G (fun k => e (k - 1000000)) []) [] h R :=
  CallsA.of_ev (cf := ⟨allF, [4, 7], l13⟩) (fn := Try.f13) (c := bodyOf Try.f13) (pcs := []) Try.func13 (by rfl) callOK (by rfl) hG (by rfl) (by rw [show ([] : List (List SV)).map List.length = [] from rfl, e13]; exact H)
/-- What is left of outworker/outworkerlaw04.Long. -/
def t14 : Out :=
 (.loop 0 [(.int .i64 (.lit 0)), (.int .i64 (.lit 0))] [.int .i64, .int .i64] 
  (.ite (.cmp .lss (.var 2) (.len 0))
   (.need (.tt true) [(.cmp .geq (.var 2) (.lit 0)), (.cmp .lss (.var 2) (.len 0))] 
   (.load (.tt true) (.idx (.var 0) (.var 2) 5) [.sl, .int .u8, .int .i64, .int .i64, .int .i64] 
   (.loop 1 [(.int .i64 (.var 1)), (.int .i64 (.lit 0))] [.int .i64, .int .i64] 
    (.ite (.cmp .lss (.var 9) (.len 3))
     (.need (.tt true) [(.cmp .geq (.var 9) (.lit 0)), (.cmp .lss (.var 9) (.len 3))] 
     (.load (.tt true) (.idx (.var 3) (.var 9) 7) [.int .u8, .int .u8, .int .i64, .int .i64, .int .i64, .int .i64, .sl] 
     (.ite (.cmp .gtr (.op .add .i64 (.var 8) (.op .add .i64 (.lit 1) (.ite (.cmp .lss (.lit 10000) (.len 16)) (.lit 10000) (.len 16)))) (.lit 5000))
      (.done (.bool (.tt true)) [])
      (.again 1 [(.int .i64 (.op .add .i64 (.var 8) (.op .add .i64 (.lit 1) (.ite (.cmp .lss (.lit 10000) (.len 16)) (.lit 10000) (.len 16))))), (.int .i64 (.op .add .i64 (.var 9) (.lit 1)))]))))
     (.ite (.ite (.cmp .gtr (.var 2) (.lit 100)) (.tt true) (.cmp .gtr (.len 3) (.lit 2000)))
      (.done (.bool (.tt true)) [])
      (.again 0 [(.int .i64 (.var 8)), (.int .i64 (.op .add .i64 (.var 2) (.lit 1)))]))))))
   (.done (.bool (.tt false)) [])))
def l14 : List (Nat × List Nat × List (Nat × Nat) × List Nat) := [(3, [3, 10], [], [11, 12, 13, 14, 5, 4, 15, 16, 17, 18, 19, 20, 21, 7, 22, 23, 24, 25, 26, 27, 28, 29, 30, 2, 31, 32, 33, 34, 35, 36, 37, 38, 39, 40]), (6, [3, 18], [], [19, 20, 21, 7, 22, 23, 24, 25, 26, 27, 28, 29, 30, 2, 31])]
theorem e14 : ev Try.prog ⟨allF, [], l14⟩ (bodyOf Try.f14) 0 (initSt [(.val 0)] [] Try.f14.ntmps [.sl]) (finK Try.prog Try.f14.results []) = t14 := by kernel_rfl
theorem c14 {G : List Value} {h : H} {R : Value → List (List Value) → H → Prop} (hG : FitsL [.sl] G) (H : holds Try.prog R t14 G [] h) : CallsA Try.prog 14 (fun e => SV.denL G (fun k => e (k - 1000000)) [(.val 0)]) [] h R :=
  CallsA.of_ev (cf := ⟨allF, [], l14⟩) (fn := Try.f14) (c := bodyOf Try.f14) (pcs := []) Try.func14 (by rfl) callOK (by rfl) hG (by rfl) (by rw [show ([] : List (List SV)).map List.length = [] from rfl, e14]; exact H)
/-- What is left of outworker/outworkerlaw04.Made. -/
def t15 : Out :=
 (.loop 0 [(.int .i64 (.lit 0)), (.val 3), (.cst (.slice none 0 0))] [.int .i64, .sl, .sl] 
  (.ite (.cmp .lss (.var 4) (.op .add .i64 (.lit 1) (.conv .i64 (.op .rem .u8 (.var 2) (.lit 7)))))
   (.call 37 [(.loc 24 0), (.int .i64 (.lit 9))] [24] [[(.val 5)]] [[.sl]] [(false, [.int .i64])] 
   (.loop 1 [(.int .i64 (.lit 0)), (.cst (.slice none 0 0)), (.val 7)] [.int .i64, .sl, .sl] 
    (.ite (.cmp .lss (.var 9) (.var 8))
     (.call 38 [(.loc 24 0), (.int .i64 (.op .add .i64 (.ite (.cmp .gtr (.lit 1) (.conv .i64 (.op .rem .u8 (.var 0) (.lit 5)))) (.lit 1) (.conv .i64 (.op .rem .u8 (.var 0) (.lit 5)))) (.conv .i64 (.op .rem .u8 (.var 1) (.lit 28)))))] [24] [[(.val 11)]] [[.sl]] [(true, [.int .u8, .int .u8, .int .i64, .int .i64, .int .i64, .int .i64, .sl])] 
     (.app 46 7 64 (.val 10) (.cells [(.int .u8 (.var 13)), (.int .u8 (.var 14)), (.int .i64 (.var 15)), (.int .i64 (.var 16)), (.int .i64 (.var 17)), (.int .i64 (.var 18)), (.val 19)] 1) 
     (.again 1 [(.int .i64 (.op .add .i64 (.var 9) (.lit 1))), (.val 20), (.val 12)])))
     (.call 37 [(.loc 24 0), (.int .i64 (.lit 4))] [24] [[(.val 11)]] [[.sl]] [(false, [.int .i64])] 
     (.ite (.cmp .eql (.var 13) (.lit 1))
      (.call 37 [(.loc 24 0), (.int .i64 (.op .add .i64 (.lit 1) (.conv .i64 (.op .rem .u8 (.var 2) (.lit 7)))))] [24] [[(.val 12)]] [[.sl]] [(false, [.int .i64])] 
      (.app 41 5 56 (.val 6) (.cells [(.val 10), (.int .u8 (.lit 1)), (.int .i64 (.lit 0)), (.int .i64 (.var 15)), (.int .i64 (.lit 0))] 1) 
      (.again 0 [(.int .i64 (.op .add .i64 (.var 4) (.lit 1))), (.val 14), (.val 16)])))
      (.ite (.ite (.cmp .eql (.var 13) (.lit 2)) (.cmp .eql (.var 13) (.lit 2)) (.cmp .eql (.var 13) (.lit 3)))
       (.call 37 [(.loc 24 0), (.int .i64 (.op .add .i64 (.ite (.cmp .gtr (.lit 1) (.conv .i64 (.op .rem .u8 (.var 0) (.lit 5)))) (.lit 1) (.conv .i64 (.op .rem .u8 (.var 0) (.lit 5)))) (.conv .i64 (.op .rem .u8 (.var 1) (.lit 28)))))] [24] [[(.val 12)]] [[.sl]] [(false, [.int .i64])] 
       (.call 37 [(.loc 24 0), (.int .i64 (.op .add .i64 (.lit 1) (.conv .i64 (.op .rem .u8 (.var 2) (.lit 7)))))] [24] [[(.val 14)]] [[.sl]] [(false, [.int .i64])] 
       (.call 37 [(.loc 24 0), (.int .i64 (.op .add .i64 (.lit 1) (.conv .i64 (.op .rem .u8 (.var 2) (.lit 7)))))] [24] [[(.val 16)]] [[.sl]] [(false, [.int .i64])] 
       (.app 41 5 56 (.val 6) (.cells [(.val 10), (.int .u8 (.lit 2)), (.int .i64 (.var 15)), (.int .i64 (.var 17)), (.int .i64 (.var 19))] 1) 
       (.again 0 [(.int .i64 (.op .add .i64 (.var 4) (.lit 1))), (.val 18), (.val 20)])))))
       (.call 37 [(.loc 24 0), (.int .i64 (.op .add .i64 (.ite (.cmp .gtr (.lit 1) (.conv .i64 (.op .rem .u8 (.var 0) (.lit 5)))) (.lit 1) (.conv .i64 (.op .rem .u8 (.var 0) (.lit 5)))) (.conv .i64 (.op .rem .u8 (.var 1) (.lit 28)))))] [24] [[(.val 12)]] [[.sl]] [(false, [.int .i64])] 
       (.app 41 5 56 (.val 6) (.cells [(.val 10), (.int .u8 (.lit 3)), (.int .i64 (.var 15)), (.int .i64 (.lit 0)), (.int .i64 (.lit 0))] 1) 
       (.again 0 [(.int .i64 (.op .add .i64 (.var 4) (.lit 1))), (.val 14), (.val 16)])))))))))
   (.done (.agg [(.int .i64 (.conv .i64 (.op .rem .u8 (.var 0) (.lit 5)))), (.int .i64 (.op .add .i64 (.ite (.cmp .gtr (.lit 1) (.conv .i64 (.op .rem .u8 (.var 0) (.lit 5)))) (.lit 1) (.conv .i64 (.op .rem .u8 (.var 0) (.lit 5)))) (.conv .i64 (.op .rem .u8 (.var 1) (.lit 28))))), (.val 6)]) [])))
def l15 : List (Nat × List Nat × List (Nat × Nat) × List Nat) := [(6, [31], [(24, 0), (3, 2)], [32, 6, 33, 34, 35, 36, 37, 38, 39, 40, 41, 42, 43, 44, 45, 46, 47, 48, 56, 55, 57, 58, 59, 60, 61, 63, 62, 64, 65, 66, 67, 68, 69, 70, 71, 72, 73, 74, 75, 76, 49, 50, 51, 52, 53, 54, 77, 78, 79, 80, 81, 82, 83]), (9, [35], [(6, 0), (24, 0)], [36, 37, 38, 39, 40, 41, 42, 43, 44, 45, 46])]
theorem e15 : ev Try.prog ⟨allF, [], l15⟩ (bodyOf Try.f15) 0 (initSt [(.agg [(.int .u8 (.var 0)), (.int .u8 (.var 1)), (.int .u8 (.var 2)), (.val 3)])] [] Try.f15.ntmps [.int .u8, .int .u8, .int .u8, .sl]) (finK Try.prog Try.f15.results []) = t15 := by kernel_rfl
theorem c15 {G : List Value} {h : H} {R : Value → List (List Value) → H → Prop} (hG : FitsL [.int .u8, .int .u8, .int .u8, .sl] G) (H : holds Try.prog R t15 G [] h) : CallsA Try.prog 15 (fun e => SV.denL G (fun k => e (k - 1000000)) [(.agg [(.int .u8 (.var 0)), (.int .u8 (.var 1)), (.int .u8 (.var 2)), (.val 3)])]) [] h R :=
  CallsA.of_ev (cf := ⟨allF, [], l15⟩) (fn := Try.f15) (c := bodyOf Try.f15) (pcs := []) Try.func15 (by rfl) callOK (by rfl) hG (by rfl) (by rw [show ([] : List (List SV)).map List.length = [] from rfl, e15]; exact H)
/-- What is left of outworker/ir.Check. -/
def t16 : Out :=
 (.ite (.ite (.ite (.ite (.ite (.ite (.cmp .lss (.var 0) (.lit 0)) (.tt true) (.cmp .gtr (.var 0) (.lit 4))) (.tt true) (.cmp .lss (.var 1) (.var 0))) (.tt true) (.cmp .gtr (.var 1) (.lit 32))) (.tt true) (.cmp .lss (.len 2) (.lit 1))) (.tt true) (.cmp .gtr (.len 2) (.lit 16)))
  (.done (.agg [(.int .i64 (.lit 2)), (.int .i64 (.lit (-1))), (.int .i64 (.lit (-1)))]) [])
  (.loop 0 [(.int .i64 (.lit 0))] [.int .i64] 
   (.ite (.cmp .lss (.var 3) (.len 2))
    (.need (.tt true) [(.cmp .geq (.var 3) (.lit 0)), (.cmp .lss (.var 3) (.len 2))] 
    (.load (.tt true) (.idx (.var 2) (.var 3) 5) [.sl, .int .u8, .int .i64, .int .i64, .int .i64] 
    (.ite (.cmp .gtr (.len 4) (.lit 32))
     (.done (.agg [(.int .i64 (.lit 9)), (.int .i64 (.var 3)), (.int .i64 (.lit (-1)))]) [])
     (.loop 1 [(.int .i64 (.lit 0))] [.int .i64] 
      (.ite (.cmp .lss (.var 9) (.len 4))
       (.need (.tt true) [(.cmp .geq (.var 9) (.lit 0)), (.cmp .lss (.var 9) (.len 4))] 
       (.load (.tt true) (.idx (.var 4) (.var 9) 7) [.int .u8, .int .u8, .int .i64, .int .i64, .int .i64, .int .i64, .sl] 
       (.call 39 [(.agg [(.int .u8 (.var 10)), (.int .u8 (.var 11)), (.int .i64 (.var 12)), (.int .i64 (.var 13)), (.int .i64 (.var 14)), (.int .i64 (.var 15)), (.val 16)]), (.int .i64 (.var 1))] [] [] [] [(false, [.int .i64])] 
       (.ite (.cmp .neq (.var 17) (.lit 0))
        (.done (.agg [(.int .i64 (.var 17)), (.int .i64 (.var 3)), (.int .i64 (.var 9))]) [])
        (.again 1 [(.int .i64 (.op .add .i64 (.var 9) (.lit 1)))])))))
       (.call 26 [(.agg [(.int .u8 (.var 5)), (.int .i64 (.var 6)), (.int .i64 (.var 7)), (.int .i64 (.var 8))]), (.int .i64 (.var 1)), (.int .i64 (.len 2))] [] [] [] [(false, [.int .i64])] 
       (.ite (.cmp .neq (.var 10) (.lit 0))
        (.done (.agg [(.int .i64 (.var 10)), (.int .i64 (.var 3)), (.int .i64 (.len 4))]) [])
        (.again 0 [(.int .i64 (.op .add .i64 (.var 3) (.lit 1)))]))))))))
    (.done (.agg [(.int .i64 (.lit 0)), (.int .i64 (.lit 0)), (.int .i64 (.lit 0))]) []))))
def l16 : List (Nat × List Nat × List (Nat × Nat) × List Nat) := [(4, [45], [], [46, 47, 48, 49, 4, 3, 50, 51, 52, 53, 54, 55, 56, 57, 58, 59, 60, 61, 62, 63, 6, 5, 64, 65, 66, 67, 7, 68, 69, 70, 71, 72, 73, 74, 75, 76, 77, 78, 79, 80, 81, 82, 8, 83, 84, 85, 86, 87, 88, 89, 90, 91]), (9, [59], [], [60, 61, 62, 63, 6, 5, 64, 65, 66, 67, 7, 68, 69, 70, 71, 72, 73, 74])]
theorem e16 : ev Try.prog ⟨allF, [], l16⟩ (bodyOf Try.f16) 0 (initSt [(.agg [(.int .i64 (.var 0)), (.int .i64 (.var 1)), (.val 2)])] [] Try.f16.ntmps [.int .i64, .int .i64, .sl]) (finK Try.prog Try.f16.results []) = t16 := by kernel_rfl
theorem c16 {G : List Value} {h : H} {R : Value → List (List Value) → H → Prop} (hG : FitsL [.int .i64, .int .i64, .sl] G) (H : holds Try.prog R t16 G [] h) : CallsA Try.prog 16 (fun e => SV.denL G (fun k => e (k - 1000000)) [(.agg [(.int .i64 (.var 0)), (.int .i64 (.var 1)), (.val 2)])]) [] h R :=
  CallsA.of_ev (cf := ⟨allF, [], l16⟩) (fn := Try.f16) (c := bodyOf Try.f16) (pcs := []) Try.func16 (by rfl) callOK (by rfl) hG (by rfl) (by rw [show ([] : List (List SV)).map List.length = [] from rfl, e16]; exact H)
/-- What is left of outworker/outworkerref04.Func. -/
def t17 : Out :=
 (.ite (.ite (.ite (.ite (.ite (.ite (.cmp .lss (.var 0) (.lit 0)) (.tt true) (.cmp .gtr (.var 0) (.lit 4))) (.tt true) (.cmp .lss (.var 1) (.var 0))) (.tt true) (.cmp .gtr (.var 1) (.lit 32))) (.tt true) (.cmp .eql (.len 2) (.lit 0))) (.tt true) (.cmp .gtr (.len 2) (.lit 16)))
  (.done (.agg [(.int .i64 (.lit 2)), (.int .i64 (.lit (-1))), (.int .i64 (.lit (-1)))]) [])
  (.call 40 [(.val 2), (.int .i64 (.var 1)), (.int .i64 (.lit (-1))), (.int .i64 (.lit 32))] [] [] [] [(true, [.int .i64, .int .i64, .int .i64])] 
  (.done (.agg [(.int .i64 (.var 3)), (.int .i64 (.var 4)), (.int .i64 (.var 5))]) [])))
def l17 : List (Nat × List Nat × List (Nat × Nat) × List Nat) := []
theorem e17 : ev Try.prog ⟨allF, [], l17⟩ (bodyOf Try.f17) 0 (initSt [(.agg [(.int .i64 (.var 0)), (.int .i64 (.var 1)), (.val 2)])] [] Try.f17.ntmps [.int .i64, .int .i64, .sl]) (finK Try.prog Try.f17.results []) = t17 := by kernel_rfl
theorem c17 {G : List Value} {h : H} {R : Value → List (List Value) → H → Prop} (hG : FitsL [.int .i64, .int .i64, .sl] G) (H : holds Try.prog R t17 G [] h) : CallsA Try.prog 17 (fun e => SV.denL G (fun k => e (k - 1000000)) [(.agg [(.int .i64 (.var 0)), (.int .i64 (.var 1)), (.val 2)])]) [] h R :=
  CallsA.of_ev (cf := ⟨allF, [], l17⟩) (fn := Try.f17) (c := bodyOf Try.f17) (pcs := []) Try.func17 (by rfl) callOK (by rfl) hG (by rfl) (by rw [show ([] : List (List SV)).map List.length = [] from rfl, e17]; exact H)
/-- What is left of outworker/outworkerlaw04.Turn. -/
def t18 : Out :=
 (.ite (.cmp .eql (.len 0) (.lit 0))
  (.done (.tup []) [])
  (.need (.tt true) [(.cmp .neq (.len 0) (.lit 0))] 
  (.need (.tt true) [(.cmp .geq (.op .rem .i64 (.conv .i64 (.var 1)) (.len 0)) (.lit 0)), (.cmp .lss (.op .rem .i64 (.conv .i64 (.var 1)) (.len 0)) (.len 0))] 
  (.load (.tt true) (.fld (.idx (.var 0) (.op .rem .i64 (.conv .i64 (.var 1)) (.len 0)) 5) 0) [.sl] 
  (.need (.tt true) [(.cmp .neq (.op .add .i64 (.len 5) (.lit 1)) (.lit 0))] 
  (.load (.tt true) (.fld (.idx (.var 0) (.op .rem .i64 (.conv .i64 (.var 1)) (.len 0)) 5) 0) [.sl] 
  (.ite (.cmp .eql (.op .rem .i64 (.conv .i64 (.var 2)) (.op .add .i64 (.len 5) (.lit 1))) (.len 6))
   (.ite (.cmp .eql (.op .rem .u8 (.var 3) (.lit 4)) (.lit 0))
    (.store (.fld (.fld (.idx (.var 0) (.op .rem .i64 (.conv .i64 (.var 1)) (.len 0)) 5) 1) 0) [(.int .u8 (.conv .u8 (.var 4)))] 
    (.done (.tup []) []))
    (.ite (.cmp .eql (.op .rem .u8 (.var 3) (.lit 4)) (.lit 1))
     (.store (.fld (.fld (.idx (.var 0) (.op .rem .i64 (.conv .i64 (.var 1)) (.len 0)) 5) 1) 1) [(.int .i64 (.var 4))] 
     (.done (.tup []) []))
     (.ite (.cmp .eql (.op .rem .u8 (.var 3) (.lit 4)) (.lit 2))
      (.store (.fld (.fld (.idx (.var 0) (.op .rem .i64 (.conv .i64 (.var 1)) (.len 0)) 5) 1) 2) [(.int .i64 (.var 4))] 
      (.done (.tup []) []))
      (.store (.fld (.fld (.idx (.var 0) (.op .rem .i64 (.conv .i64 (.var 1)) (.len 0)) 5) 1) 3) [(.int .i64 (.var 4))] 
      (.done (.tup []) [])))))
   (.load (.tt true) (.fld (.idx (.var 0) (.op .rem .i64 (.conv .i64 (.var 1)) (.len 0)) 5) 0) [.sl] 
   (.need (.tt true) [(.cmp .geq (.op .rem .i64 (.conv .i64 (.var 2)) (.op .add .i64 (.len 5) (.lit 1))) (.lit 0)), (.cmp .lss (.op .rem .i64 (.conv .i64 (.var 2)) (.op .add .i64 (.len 5) (.lit 1))) (.len 7))] 
   (.ite (.cmp .eql (.op .rem .u8 (.var 3) (.lit 8)) (.lit 0))
    (.store (.fld (.idx (.var 7) (.op .rem .i64 (.conv .i64 (.var 2)) (.op .add .i64 (.len 5) (.lit 1))) 7) 0) [(.int .u8 (.conv .u8 (.var 4)))] 
    (.done (.tup []) []))
    (.ite (.cmp .eql (.op .rem .u8 (.var 3) (.lit 8)) (.lit 1))
     (.store (.fld (.idx (.var 7) (.op .rem .i64 (.conv .i64 (.var 2)) (.op .add .i64 (.len 5) (.lit 1))) 7) 1) [(.int .u8 (.conv .u8 (.var 4)))] 
     (.done (.tup []) []))
     (.ite (.cmp .eql (.op .rem .u8 (.var 3) (.lit 8)) (.lit 2))
      (.store (.fld (.idx (.var 7) (.op .rem .i64 (.conv .i64 (.var 2)) (.op .add .i64 (.len 5) (.lit 1))) 7) 2) [(.int .i64 (.var 4))] 
      (.done (.tup []) []))
      (.ite (.cmp .eql (.op .rem .u8 (.var 3) (.lit 8)) (.lit 3))
       (.store (.fld (.idx (.var 7) (.op .rem .i64 (.conv .i64 (.var 2)) (.op .add .i64 (.len 5) (.lit 1))) 7) 3) [(.int .i64 (.var 4))] 
       (.done (.tup []) []))
       (.ite (.cmp .eql (.op .rem .u8 (.var 3) (.lit 8)) (.lit 4))
        (.store (.fld (.idx (.var 7) (.op .rem .i64 (.conv .i64 (.var 2)) (.op .add .i64 (.len 5) (.lit 1))) 7) 4) [(.int .i64 (.var 4))] 
        (.done (.tup []) []))
        (.ite (.cmp .eql (.op .rem .u8 (.var 3) (.lit 8)) (.lit 5))
         (.store (.fld (.idx (.var 7) (.op .rem .i64 (.conv .i64 (.var 2)) (.op .add .i64 (.len 5) (.lit 1))) 7) 5) [(.int .i64 (.var 4))] 
         (.done (.tup []) []))
         (.ite (.cmp .eql (.op .rem .u8 (.var 3) (.lit 8)) (.lit 6))
          (.load (.tt true) (.fld (.idx (.var 7) (.op .rem .i64 (.conv .i64 (.var 2)) (.op .add .i64 (.len 5) (.lit 1))) 7) 6) [.sl] 
          (.app 3 1 8 (.val 8) (.cells [(.int .i64 (.var 4))] 1) 
          (.store (.fld (.idx (.var 7) (.op .rem .i64 (.conv .i64 (.var 2)) (.op .add .i64 (.len 5) (.lit 1))) 7) 6) [(.val 9)] 
          (.done (.tup []) []))))
          (.load (.tt true) (.fld (.idx (.var 7) (.op .rem .i64 (.conv .i64 (.var 2)) (.op .add .i64 (.len 5) (.lit 1))) 7) 6) [.sl] 
          (.ite (.cmp .gtr (.len 8) (.lit 0))
           (.load (.tt true) (.fld (.idx (.var 7) (.op .rem .i64 (.conv .i64 (.var 2)) (.op .add .i64 (.len 5) (.lit 1))) 7) 6) [.sl] 
           (.need (.tt true) [(.tt true), (.cmp .lss (.lit 0) (.len 9))] 
           (.store (.idx (.var 9) (.lit 0) 1) [(.int .i64 (.var 4))] 
           (.done (.tup []) []))))
           (.done (.tup []) [])))))))))))))))))))
def l18 : List (Nat × List Nat × List (Nat × Nat) × List Nat) := []
theorem e18 : ev Try.prog ⟨allF, [], l18⟩ (bodyOf Try.f18) 0 (initSt [(.val 0), (.int .u8 (.var 1)), (.int .u8 (.var 2)), (.int .u8 (.var 3)), (.int .i64 (.var 4))] [] Try.f18.ntmps [.sl, .int .u8, .int .u8, .int .u8, .int .i64]) (finK Try.prog Try.f18.results []) = t18 := by kernel_rfl
theorem c18 {G : List Value} {h : H} {R : Value → List (List Value) → H → Prop} (hG : FitsL [.sl, .int .u8, .int .u8, .int .u8, .int .i64] G) (H : holds Try.prog R t18 G [] h) : CallsA Try.prog 18 (fun e => SV.denL G (fun k => e (k - 1000000)) [(.val 0), (.int .u8 (.var 1)), (.int .u8 (.var 2)), (.int .u8 (.var 3)), (.int .i64 (.var 4))]) [] h R :=
  CallsA.of_ev (cf := ⟨allF, [], l18⟩) (fn := Try.f18) (c := bodyOf Try.f18) (pcs := []) Try.func18 (by rfl) callOK (by rfl) hG (by rfl) (by rw [show ([] : List (List SV)).map List.length = [] from rfl, e18]; exact H)
/-- What is left of outworker/ir.Uses. -/
def t19 : Out :=
 (.ite (.ite (.cmp .eql (.var 0) (.lit 2)) (.cmp .eql (.var 0) (.lit 2)) (.ite (.cmp .eql (.var 0) (.lit 4)) (.cmp .eql (.var 0) (.lit 4)) (.cmp .eql (.var 0) (.lit 7))))
  (.alloc 3 [(.int .i64 (.var 3))] (.lsl 1) 
  (.done (.val 7) []))
  (.ite (.ite (.cmp .eql (.var 0) (.lit 3)) (.cmp .eql (.var 0) (.lit 3)) (.cmp .eql (.var 0) (.lit 5)))
   (.alloc 3 [(.int .i64 (.var 3)), (.int .i64 (.var 4))] (.lsl 2) 
   (.done (.val 7) []))
   (.ite (.cmp .eql (.var 0) (.lit 6))
    (.alloc 3 [] (.lsl 0) 
    (.app 3 1 8 (.val 7) (.sl (.val 6)) 
    (.done (.val 8) [])))
    (.done (.cst (.slice none 0 0)) []))))
def l19 : List (Nat × List Nat × List (Nat × Nat) × List Nat) := []
theorem e19 : ev Try.prog ⟨allF, [11, 19, 22], l19⟩ (bodyOf Try.f19) 0 (initSt [(.agg [(.int .u8 (.var 0)), (.int .u8 (.var 1)), (.int .i64 (.var 2)), (.int .i64 (.var 3)), (.int .i64 (.var 4)), (.int .i64 (.var 5)), (.val 6)])] [] Try.f19.ntmps [.int .u8, .int .u8, .int .i64, .int .i64, .int .i64, .int .i64, .sl]) (finK Try.prog Try.f19.results []) = t19 := by kernel_rfl
theorem c19 {G : List Value} {h : H} {R : Value → List (List Value) → H → Prop} (hG : FitsL [.int .u8, .int .u8, .int .i64, .int .i64, .int .i64, .int .i64, .sl] G) (H : holds Try.prog R t19 G [] h) : CallsA Try.prog 19 (fun e => SV.denL G (fun k => e (k - 1000000)) [(.agg [(.int .u8 (.var 0)), (.int .u8 (.var 1)), (.int .i64 (.var 2)), (.int .i64 (.var 3)), (.int .i64 (.var 4)), (.int .i64 (.var 5)), (.val 6)])]) [] h R :=
  CallsA.of_ev (cf := ⟨allF, [11, 19, 22], l19⟩) (fn := Try.f19) (c := bodyOf Try.f19) (pcs := []) Try.func19 (by rfl) callOK (by rfl) hG (by rfl) (by rw [show ([] : List (List SV)).map List.length = [] from rfl, e19]; exact H)
/-- What is left of outworker/outworkerref04.SameInts. -/
def t20 : Out :=
 (.ite (.cmp .neq (.len 0) (.len 1))
  (.done (.bool (.tt false)) [])
  (.loop 0 [(.int .i64 (.lit 0))] [.int .i64] 
   (.ite (.cmp .lss (.var 2) (.len 0))
    (.need (.tt true) [(.cmp .geq (.var 2) (.lit 0)), (.cmp .lss (.var 2) (.len 0))] 
    (.load (.tt true) (.idx (.var 0) (.var 2) 1) [.int .i64] 
    (.need (.tt true) [(.cmp .geq (.var 2) (.lit 0)), (.cmp .lss (.var 2) (.len 1))] 
    (.load (.tt true) (.idx (.var 1) (.var 2) 1) [.int .i64] 
    (.ite (.cmp .neq (.var 3) (.var 4))
     (.done (.bool (.tt false)) [])
     (.again 0 [(.int .i64 (.op .add .i64 (.var 2) (.lit 1)))]))))))
    (.done (.bool (.tt true)) []))))
def l20 : List (Nat × List Nat × List (Nat × Nat) × List Nat) := [(4, [5], [], [11, 12, 13, 14, 17, 18, 19, 20, 21, 22, 23, 24, 25, 4, 15, 16])]
theorem e20 : ev Try.prog ⟨allF, [], l20⟩ (bodyOf Try.f20) 0 (initSt [(.val 0), (.val 1)] [] Try.f20.ntmps [.sl, .sl]) (finK Try.prog Try.f20.results []) = t20 := by kernel_rfl
theorem c20 {G : List Value} {h : H} {R : Value → List (List Value) → H → Prop} (hG : FitsL [.sl, .sl] G) (H : holds Try.prog R t20 G [] h) : CallsA Try.prog 20 (fun e => SV.denL G (fun k => e (k - 1000000)) [(.val 0), (.val 1)]) [] h R :=
  CallsA.of_ev (cf := ⟨allF, [], l20⟩) (fn := Try.f20) (c := bodyOf Try.f20) (pcs := []) Try.func20 (by rfl) callOK (by rfl) hG (by rfl) (by rw [show ([] : List (List SV)).map List.length = [] from rfl, e20]; exact H)
/-- What is left of outworker/outworkerref04.Uses. -/
def t21 : Out :=
 (.ite (.ite (.cmp .eql (.var 0) (.lit 2)) (.cmp .eql (.var 0) (.lit 2)) (.ite (.cmp .eql (.var 0) (.lit 4)) (.cmp .eql (.var 0) (.lit 4)) (.cmp .eql (.var 0) (.lit 7))))
  (.alloc 3 [(.int .i64 (.var 3))] (.lsl 1) 
  (.done (.val 7) []))
  (.ite (.ite (.cmp .eql (.var 0) (.lit 3)) (.cmp .eql (.var 0) (.lit 3)) (.cmp .eql (.var 0) (.lit 5)))
   (.alloc 3 [(.int .i64 (.var 3)), (.int .i64 (.var 4))] (.lsl 2) 
   (.done (.val 7) []))
   (.ite (.cmp .eql (.var 0) (.lit 6))
    (.done (.val 6) [])
    (.done (.cst (.slice none 0 0)) []))))
def l21 : List (Nat × List Nat × List (Nat × Nat) × List Nat) := []
theorem e21 : ev Try.prog ⟨allF, [11, 19], l21⟩ (bodyOf Try.f21) 0 (initSt [(.agg [(.int .u8 (.var 0)), (.int .u8 (.var 1)), (.int .i64 (.var 2)), (.int .i64 (.var 3)), (.int .i64 (.var 4)), (.int .i64 (.var 5)), (.val 6)])] [] Try.f21.ntmps [.int .u8, .int .u8, .int .i64, .int .i64, .int .i64, .int .i64, .sl]) (finK Try.prog Try.f21.results []) = t21 := by kernel_rfl
theorem c21 {G : List Value} {h : H} {R : Value → List (List Value) → H → Prop} (hG : FitsL [.int .u8, .int .u8, .int .i64, .int .i64, .int .i64, .int .i64, .sl] G) (H : holds Try.prog R t21 G [] h) : CallsA Try.prog 21 (fun e => SV.denL G (fun k => e (k - 1000000)) [(.agg [(.int .u8 (.var 0)), (.int .u8 (.var 1)), (.int .i64 (.var 2)), (.int .i64 (.var 3)), (.int .i64 (.var 4)), (.int .i64 (.var 5)), (.val 6)])]) [] h R :=
  CallsA.of_ev (cf := ⟨allF, [11, 19], l21⟩) (fn := Try.f21) (c := bodyOf Try.f21) (pcs := []) Try.func21 (by rfl) callOK (by rfl) hG (by rfl) (by rw [show ([] : List (List SV)).map List.length = [] from rfl, e21]; exact H)
/-- What is left of outworker/ir.Gives. -/
def t22 : Out :=
 (.ite (.ite (.cmp .eql (.var 0) (.lit 1)) (.cmp .eql (.var 0) (.lit 1)) (.ite (.cmp .eql (.var 0) (.lit 2)) (.cmp .eql (.var 0) (.lit 2)) (.ite (.cmp .eql (.var 0) (.lit 3)) (.cmp .eql (.var 0) (.lit 3)) (.ite (.cmp .eql (.var 0) (.lit 4)) (.cmp .eql (.var 0) (.lit 4)) (.ite (.cmp .eql (.var 0) (.lit 6)) (.cmp .eql (.var 0) (.lit 6)) (.cmp .eql (.var 0) (.lit 8)))))))
  (.done (.tup [(.int .i64 (.var 2)), (.bool (.tt true))]) [])
  (.done (.tup [(.int .i64 (.lit 0)), (.bool (.tt false))]) []))
def l22 : List (Nat × List Nat × List (Nat × Nat) × List Nat) := []
theorem e22 : ev Try.prog ⟨allF, [], l22⟩ (bodyOf Try.f22) 0 (initSt [(.agg [(.int .u8 (.var 0)), (.int .u8 (.var 1)), (.int .i64 (.var 2)), (.int .i64 (.var 3)), (.int .i64 (.var 4)), (.int .i64 (.var 5)), (.val 6)])] [] Try.f22.ntmps [.int .u8, .int .u8, .int .i64, .int .i64, .int .i64, .int .i64, .sl]) (finK Try.prog Try.f22.results []) = t22 := by kernel_rfl
theorem c22 {G : List Value} {h : H} {R : Value → List (List Value) → H → Prop} (hG : FitsL [.int .u8, .int .u8, .int .i64, .int .i64, .int .i64, .int .i64, .sl] G) (H : holds Try.prog R t22 G [] h) : CallsA Try.prog 22 (fun e => SV.denL G (fun k => e (k - 1000000)) [(.agg [(.int .u8 (.var 0)), (.int .u8 (.var 1)), (.int .i64 (.var 2)), (.int .i64 (.var 3)), (.int .i64 (.var 4)), (.int .i64 (.var 5)), (.val 6)])]) [] h R :=
  CallsA.of_ev (cf := ⟨allF, [], l22⟩) (fn := Try.f22) (c := bodyOf Try.f22) (pcs := []) Try.func22 (by rfl) callOK (by rfl) hG (by rfl) (by rw [show ([] : List (List SV)).map List.length = [] from rfl, e22]; exact H)
/-- What is left of outworker/ir.Last. -/
def t23 : Out :=
 (.done (.tup [(.int .i64 (.var 1)), (.bool (.ite (.cmp .eql (.var 0) (.lit 2)) (.tt true) (.cmp .eql (.var 0) (.lit 3))))]) [])
def l23 : List (Nat × List Nat × List (Nat × Nat) × List Nat) := []
theorem e23 : ev Try.prog ⟨allF, [], l23⟩ (bodyOf Try.f23) 0 (initSt [(.agg [(.int .u8 (.var 0)), (.int .i64 (.var 1)), (.int .i64 (.var 2)), (.int .i64 (.var 3))])] [] Try.f23.ntmps [.int .u8, .int .i64, .int .i64, .int .i64]) (finK Try.prog Try.f23.results []) = t23 := by kernel_rfl
theorem c23 {G : List Value} {h : H} {R : Value → List (List Value) → H → Prop} (hG : FitsL [.int .u8, .int .i64, .int .i64, .int .i64] G) (H : holds Try.prog R t23 G [] h) : CallsA Try.prog 23 (fun e => SV.denL G (fun k => e (k - 1000000)) [(.agg [(.int .u8 (.var 0)), (.int .i64 (.var 1)), (.int .i64 (.var 2)), (.int .i64 (.var 3))])]) [] h R :=
  CallsA.of_ev (cf := ⟨allF, [], l23⟩) (fn := Try.f23) (c := bodyOf Try.f23) (pcs := []) Try.func23 (by rfl) callOK (by rfl) hG (by rfl) (by rw [show ([] : List (List SV)).map List.length = [] from rfl, e23]; exact H)
/-- What is left of outworker/outworkerref04.Gives. -/
def t24 : Out :=
 (.done (.bool (.ite (.ite (.ite (.ite (.ite (.cmp .eql (.var 0) (.lit 1)) (.tt true) (.cmp .eql (.var 0) (.lit 2))) (.tt true) (.cmp .eql (.var 0) (.lit 3))) (.tt true) (.cmp .eql (.var 0) (.lit 4))) (.tt true) (.cmp .eql (.var 0) (.lit 6))) (.tt true) (.cmp .eql (.var 0) (.lit 8)))) [])
def l24 : List (Nat × List Nat × List (Nat × Nat) × List Nat) := []
theorem e24 : ev Try.prog ⟨allF, [], l24⟩ (bodyOf Try.f24) 0 (initSt [(.int .u8 (.var 0))] [] Try.f24.ntmps [.int .u8]) (finK Try.prog Try.f24.results []) = t24 := by kernel_rfl
theorem c24 {G : List Value} {h : H} {R : Value → List (List Value) → H → Prop} (hG : FitsL [.int .u8] G) (H : holds Try.prog R t24 G [] h) : CallsA Try.prog 24 (fun e => SV.denL G (fun k => e (k - 1000000)) [(.int .u8 (.var 0))]) [] h R :=
  CallsA.of_ev (cf := ⟨allF, [], l24⟩) (fn := Try.f24) (c := bodyOf Try.f24) (pcs := []) Try.func24 (by rfl) callOK (by rfl) hG (by rfl) (by rw [show ([] : List (List SV)).map List.length = [] from rfl, e24]; exact H)
/-- What is left of outworker/outworkerref04.Takes. -/
def t25 : Out :=
 (.done (.bool (.ite (.cmp .eql (.var 0) (.lit 2)) (.tt true) (.cmp .eql (.var 0) (.lit 3)))) [])
def l25 : List (Nat × List Nat × List (Nat × Nat) × List Nat) := []
theorem e25 : ev Try.prog ⟨allF, [], l25⟩ (bodyOf Try.f25) 0 (initSt [(.agg [(.int .u8 (.var 0)), (.int .i64 (.var 1)), (.int .i64 (.var 2)), (.int .i64 (.var 3))])] [] Try.f25.ntmps [.int .u8, .int .i64, .int .i64, .int .i64]) (finK Try.prog Try.f25.results []) = t25 := by kernel_rfl
theorem c25 {G : List Value} {h : H} {R : Value → List (List Value) → H → Prop} (hG : FitsL [.int .u8, .int .i64, .int .i64, .int .i64] G) (H : holds Try.prog R t25 G [] h) : CallsA Try.prog 25 (fun e => SV.denL G (fun k => e (k - 1000000)) [(.agg [(.int .u8 (.var 0)), (.int .i64 (.var 1)), (.int .i64 (.var 2)), (.int .i64 (.var 3))])]) [] h R :=
  CallsA.of_ev (cf := ⟨allF, [], l25⟩) (fn := Try.f25) (c := bodyOf Try.f25) (pcs := []) Try.func25 (by rfl) callOK (by rfl) hG (by rfl) (by rw [show ([] : List (List SV)).map List.length = [] from rfl, e25]; exact H)
/-- What is left of outworker/ir.Ends. -/
def t26 : Out :=
 (.call 23 [(.agg [(.int .u8 (.var 0)), (.int .i64 (.var 1)), (.int .i64 (.var 2)), (.int .i64 (.var 3))])] [] [] [] [(false, [.int .i64]), (false, [.bool])] 
 (.ite (.ite (.ite (.ite (.ite (.cmp .lss (.var 0) (.lit 1)) (.tt true) (.cmp .gtr (.var 0) (.lit 3))) (.tt true) (.ite (.not (.var 7)) (.cmp .neq (.var 1) (.lit 0)) (.tt false))) (.tt true) (.ite (.cmp .eql (.var 0) (.lit 3)) (.cmp .neq (.var 2) (.lit 0)) (.tt false))) (.tt true) (.ite (.cmp .neq (.var 0) (.lit 2)) (.cmp .neq (.var 3) (.lit 0)) (.tt false)))
  (.done (.int .i64 (.lit 20)) [])
  (.ite (.ite (.var 7) (.ite (.cmp .lss (.var 6) (.lit 0)) (.tt true) (.cmp .geq (.var 6) (.var 4))) (.tt false))
   (.done (.int .i64 (.lit 21)) [])
   (.ite (.ite (.ite (.cmp .neq (.var 0) (.lit 3)) (.ite (.cmp .lss (.var 2) (.lit 0)) (.tt true) (.cmp .geq (.var 2) (.var 5))) (.tt false)) (.ite (.cmp .neq (.var 0) (.lit 3)) (.ite (.cmp .lss (.var 2) (.lit 0)) (.tt true) (.cmp .geq (.var 2) (.var 5))) (.tt false)) (.ite (.cmp .eql (.var 0) (.lit 2)) (.ite (.cmp .lss (.var 3) (.lit 0)) (.tt true) (.cmp .geq (.var 3) (.var 5))) (.tt false)))
    (.done (.int .i64 (.lit 22)) [])
    (.done (.int .i64 (.lit 0)) [])))))
def l26 : List (Nat × List Nat × List (Nat × Nat) × List Nat) := []
theorem e26 : ev Try.prog ⟨allF, [], l26⟩ (bodyOf Try.f26) 0 (initSt [(.agg [(.int .u8 (.var 0)), (.int .i64 (.var 1)), (.int .i64 (.var 2)), (.int .i64 (.var 3))]), (.int .i64 (.var 4)), (.int .i64 (.var 5))] [] Try.f26.ntmps [.int .u8, .int .i64, .int .i64, .int .i64, .int .i64, .int .i64]) (finK Try.prog Try.f26.results []) = t26 := by kernel_rfl
theorem c26 {G : List Value} {h : H} {R : Value → List (List Value) → H → Prop} (hG : FitsL [.int .u8, .int .i64, .int .i64, .int .i64, .int .i64, .int .i64] G) (H : holds Try.prog R t26 G [] h) : CallsA Try.prog 26 (fun e => SV.denL G (fun k => e (k - 1000000)) [(.agg [(.int .u8 (.var 0)), (.int .i64 (.var 1)), (.int .i64 (.var 2)), (.int .i64 (.var 3))]), (.int .i64 (.var 4)), (.int .i64 (.var 5))]) [] h R :=
  CallsA.of_ev (cf := ⟨allF, [], l26⟩) (fn := Try.f26) (c := bodyOf Try.f26) (pcs := []) Try.func26 (by rfl) callOK (by rfl) hG (by rfl) (by rw [show ([] : List (List SV)).map List.length = [] from rfl, e26]; exact H)
/-- What is left of outworker/outworkerref04.End. -/
def t27 : Out :=
 (.ite (.ite (.cmp .lss (.var 0) (.lit 1)) (.tt true) (.cmp .gtr (.var 0) (.lit 3)))
  (.done (.int .i64 (.lit 20)) [])
  (.ite (.ite (.cmp .eql (.var 0) (.lit 1)) (.ite (.cmp .neq (.var 1) (.lit 0)) (.tt true) (.cmp .neq (.var 3) (.lit 0))) (.tt false))
   (.done (.int .i64 (.lit 20)) [])
   (.ite (.ite (.cmp .eql (.var 0) (.lit 3)) (.ite (.cmp .neq (.var 2) (.lit 0)) (.tt true) (.cmp .neq (.var 3) (.lit 0))) (.tt false))
    (.done (.int .i64 (.lit 20)) [])
    (.call 25 [(.agg [(.int .u8 (.var 0)), (.int .i64 (.var 1)), (.int .i64 (.var 2)), (.int .i64 (.var 3))])] [] [] [] [(false, [.bool])] 
    (.ite (.ite (.var 7) (.ite (.cmp .lss (.var 1) (.lit 0)) (.tt true) (.cmp .geq (.var 1) (.var 4))) (.tt false))
     (.done (.int .i64 (.var 6)) [])
     (.ite (.ite (.cmp .neq (.var 0) (.lit 3)) (.ite (.cmp .lss (.var 2) (.lit 0)) (.tt true) (.cmp .geq (.var 2) (.var 5))) (.tt false))
      (.done (.int .i64 (.lit 22)) [])
      (.ite (.ite (.cmp .eql (.var 0) (.lit 2)) (.ite (.cmp .lss (.var 3) (.lit 0)) (.tt true) (.cmp .geq (.var 3) (.var 5))) (.tt false))
       (.done (.int .i64 (.lit 22)) [])
       (.done (.int .i64 (.lit 0)) []))))))))
def l27 : List (Nat × List Nat × List (Nat × Nat) × List Nat) := []
theorem e27 : ev Try.prog ⟨allF, [], l27⟩ (bodyOf Try.f27) 0 (initSt [(.agg [(.int .u8 (.var 0)), (.int .i64 (.var 1)), (.int .i64 (.var 2)), (.int .i64 (.var 3))]), (.int .i64 (.var 4)), (.int .i64 (.var 5)), (.int .i64 (.var 6))] [] Try.f27.ntmps [.int .u8, .int .i64, .int .i64, .int .i64, .int .i64, .int .i64, .int .i64]) (finK Try.prog Try.f27.results []) = t27 := by kernel_rfl
theorem c27 {G : List Value} {h : H} {R : Value → List (List Value) → H → Prop} (hG : FitsL [.int .u8, .int .i64, .int .i64, .int .i64, .int .i64, .int .i64, .int .i64] G) (H : holds Try.prog R t27 G [] h) : CallsA Try.prog 27 (fun e => SV.denL G (fun k => e (k - 1000000)) [(.agg [(.int .u8 (.var 0)), (.int .i64 (.var 1)), (.int .i64 (.var 2)), (.int .i64 (.var 3))]), (.int .i64 (.var 4)), (.int .i64 (.var 5)), (.int .i64 (.var 6))]) [] h R :=
  CallsA.of_ev (cf := ⟨allF, [], l27⟩) (fn := Try.f27) (c := bodyOf Try.f27) (pcs := []) Try.func27 (by rfl) callOK (by rfl) hG (by rfl) (by rw [show ([] : List (List SV)).map List.length = [] from rfl, e27]; exact H)
/-- What is left of outworker/ir.Copied. -/
def t29 : Out :=
 (.loop 0 [(.int .i64 (.lit 0)), (.cst (.slice none 0 0))] [.int .i64, .sl] 
  (.ite (.cmp .lss (.var 5) (.len 0))
   (.need (.tt true) [(.cmp .geq (.var 5) (.lit 0)), (.cmp .lss (.var 5) (.len 0))] 
   (.load (.tt true) (.idx (.var 0) (.var 5) 7) [.int .u8, .int .u8, .int .i64, .int .i64, .int .i64, .int .i64, .sl] 
   (.app 3 1 8 (.cst (.slice none 0 0)) (.sl (.val 13)) 
   (.app 46 7 64 (.val 6) (.cells [(.int .u8 (.var 7)), (.int .u8 (.var 8)), (.int .i64 (.var 9)), (.int .i64 (.var 10)), (.int .i64 (.var 11)), (.int .i64 (.var 12)), (.val 14)] 1) 
   (.again 0 [(.int .i64 (.op .add .i64 (.var 5) (.lit 1))), (.val 15)])))))
   (.done (.agg [(.val 6), (.int .u8 (.var 1)), (.int .i64 (.var 2)), (.int .i64 (.var 3)), (.int .i64 (.var 4))]) [])))
def l29 : List (Nat × List Nat × List (Nat × Nat) × List Nat) := [(3, [12], [(3, 0)], [13, 14, 15, 5, 16, 17, 18, 19, 20, 21, 22, 23, 24, 25, 26])]
theorem e29 : ev Try.prog ⟨allF, [], l29⟩ (bodyOf Try.f29) 0 (initSt [(.agg [(.val 0), (.int .u8 (.var 1)), (.int .i64 (.var 2)), (.int .i64 (.var 3)), (.int .i64 (.var 4))])] [] Try.f29.ntmps [.sl, .int .u8, .int .i64, .int .i64, .int .i64]) (finK Try.prog Try.f29.results []) = t29 := by kernel_rfl
theorem c29 {G : List Value} {h : H} {R : Value → List (List Value) → H → Prop} (hG : FitsL [.sl, .int .u8, .int .i64, .int .i64, .int .i64] G) (H : holds Try.prog R t29 G [] h) : CallsA Try.prog 29 (fun e => SV.denL G (fun k => e (k - 1000000)) [(.agg [(.val 0), (.int .u8 (.var 1)), (.int .i64 (.var 2)), (.int .i64 (.var 3)), (.int .i64 (.var 4))])]) [] h R :=
  CallsA.of_ev (cf := ⟨allF, [], l29⟩) (fn := Try.f29) (c := bodyOf Try.f29) (pcs := []) Try.func29 (by rfl) callOK (by rfl) hG (by rfl) (by rw [show ([] : List (List SV)).map List.length = [] from rfl, e29]; exact H)
/-- What is left of outworker/outworkerref04.SameBlocks. -/
def t30 : Out :=
 (.ite (.cmp .neq (.len 0) (.len 1))
  (.done (.bool (.tt false)) [])
  (.loop 0 [(.int .i64 (.lit 0))] [.int .i64] 
   (.ite (.cmp .lss (.var 2) (.len 0))
    (.need (.tt true) [(.cmp .geq (.var 2) (.lit 0)), (.cmp .lss (.var 2) (.len 0))] 
    (.load (.tt true) (.fld (.idx (.var 0) (.var 2) 5) 1) [.int .u8, .int .i64, .int .i64, .int .i64] 
    (.need (.tt true) [(.cmp .geq (.var 2) (.lit 0)), (.cmp .lss (.var 2) (.len 1))] 
    (.load (.tt true) (.fld (.idx (.var 1) (.var 2) 5) 1) [.int .u8, .int .i64, .int .i64, .int .i64] 
    (.need (.and (.cmp .eql (.var 3) (.var 7)) (.and (.cmp .eql (.var 4) (.var 8)) (.and (.cmp .eql (.var 5) (.var 9)) (.cmp .eql (.var 6) (.var 10))))) [(.cmp .geq (.var 2) (.lit 0)), (.cmp .lss (.var 2) (.len 0))] 
    (.load (.and (.cmp .eql (.var 3) (.var 7)) (.and (.cmp .eql (.var 4) (.var 8)) (.and (.cmp .eql (.var 5) (.var 9)) (.cmp .eql (.var 6) (.var 10))))) (.fld (.idx (.var 0) (.var 2) 5) 0) [.sl] 
    (.need (.and (.cmp .eql (.var 3) (.var 7)) (.and (.cmp .eql (.var 4) (.var 8)) (.and (.cmp .eql (.var 5) (.var 9)) (.cmp .eql (.var 6) (.var 10))))) [(.cmp .geq (.var 2) (.lit 0)), (.cmp .lss (.var 2) (.len 1))] 
    (.load (.and (.cmp .eql (.var 3) (.var 7)) (.and (.cmp .eql (.var 4) (.var 8)) (.and (.cmp .eql (.var 5) (.var 9)) (.cmp .eql (.var 6) (.var 10))))) (.fld (.idx (.var 1) (.var 2) 5) 0) [.sl] 
    (.ite (.ite (.not (.and (.cmp .eql (.var 3) (.var 7)) (.and (.cmp .eql (.var 4) (.var 8)) (.and (.cmp .eql (.var 5) (.var 9)) (.cmp .eql (.var 6) (.var 10)))))) (.tt true) (.cmp .neq (.len 11) (.len 12)))
     (.done (.bool (.tt false)) [])
     (.loop 1 [(.int .i64 (.lit 0))] [.int .i64] 
      (.need (.tt true) [(.cmp .geq (.var 2) (.lit 0)), (.cmp .lss (.var 2) (.len 0))] 
      (.load (.tt true) (.fld (.idx (.var 0) (.var 2) 5) 0) [.sl] 
      (.ite (.cmp .lss (.var 13) (.len 14))
       (.need (.tt true) [(.cmp .geq (.var 2) (.lit 0)), (.cmp .lss (.var 2) (.len 0))] 
       (.load (.tt true) (.fld (.idx (.var 0) (.var 2) 5) 0) [.sl] 
       (.need (.tt true) [(.cmp .geq (.var 13) (.lit 0)), (.cmp .lss (.var 13) (.len 15))] 
       (.load (.tt true) (.idx (.var 15) (.var 13) 7) [.int .u8, .int .u8, .int .i64, .int .i64, .int .i64, .int .i64, .sl] 
       (.need (.tt true) [(.cmp .geq (.var 2) (.lit 0)), (.cmp .lss (.var 2) (.len 1))] 
       (.load (.tt true) (.fld (.idx (.var 1) (.var 2) 5) 0) [.sl] 
       (.need (.tt true) [(.cmp .geq (.var 13) (.lit 0)), (.cmp .lss (.var 13) (.len 23))] 
       (.load (.tt true) (.idx (.var 23) (.var 13) 7) [.int .u8, .int .u8, .int .i64, .int .i64, .int .i64, .int .i64, .sl] 
       (.both 
        (.still (.tt true) (.idx (.var 23) (.var 13) 7) [(.int .u8 (.var 24)), (.int .u8 (.var 25)), (.int .i64 (.var 26)), (.int .i64 (.var 27)), (.int .i64 (.var 28)), (.int .i64 (.var 29)), (.val 30)] 
        (.still (.tt true) (.fld (.idx (.var 1) (.var 2) 5) 0) [(.val 23)] 
        (.still (.tt true) (.idx (.var 15) (.var 13) 7) [(.int .u8 (.var 16)), (.int .u8 (.var 17)), (.int .i64 (.var 18)), (.int .i64 (.var 19)), (.int .i64 (.var 20)), (.int .i64 (.var 21)), (.val 22)] 
        (.still (.tt true) (.fld (.idx (.var 0) (.var 2) 5) 0) [(.val 15)] 
        (.still (.tt true) (.idx (.var 23) (.var 13) 7) [(.int .u8 (.var 24)), (.int .u8 (.var 25)), (.int .i64 (.var 26)), (.int .i64 (.var 27)), (.int .i64 (.var 28)), (.int .i64 (.var 29)), (.val 30)] 
        (.still (.tt true) (.fld (.idx (.var 1) (.var 2) 5) 0) [(.val 23)] 
        (.still (.tt true) (.idx (.var 15) (.var 13) 7) [(.int .u8 (.var 16)), (.int .u8 (.var 17)), (.int .i64 (.var 18)), (.int .i64 (.var 19)), (.int .i64 (.var 20)), (.int .i64 (.var 21)), (.val 22)] 
        (.still (.tt true) (.fld (.idx (.var 0) (.var 2) 5) 0) [(.val 15)] 
        (.still (.tt true) (.idx (.var 23) (.var 13) 7) [(.int .u8 (.var 24)), (.int .u8 (.var 25)), (.int .i64 (.var 26)), (.int .i64 (.var 27)), (.int .i64 (.var 28)), (.int .i64 (.var 29)), (.val 30)] 
        (.still (.tt true) (.fld (.idx (.var 1) (.var 2) 5) 0) [(.val 23)] 
        (.ite (.not (.ite (.ite (.ite (.ite (.ite (.cmp .neq (.var 16) (.var 24)) (.tt true) (.cmp .neq (.var 17) (.var 25))) (.tt true) (.cmp .neq (.var 18) (.var 26))) (.tt true) (.cmp .neq (.var 19) (.var 27))) (.tt true) (.cmp .neq (.var 20) (.var 28))) (.tt true) (.cmp .neq (.var 21) (.var 29))))
         (.call 20 [(.val 22), (.val 30)] [] [] [] [(false, [.bool])] 
         (.ite (.not (.var 31))
          (.done (.bool (.tt false)) [])
          (.again 1 [(.int .i64 (.op .add .i64 (.var 13) (.lit 1)))])))
         (.done (.bool (.tt false)) [])))))))))))) 
        (.still (.tt true) (.idx (.var 23) (.var 13) 7) [(.int .u8 (.var 24)), (.int .u8 (.var 25)), (.int .i64 (.var 26)), (.int .i64 (.var 27)), (.int .i64 (.var 28)), (.int .i64 (.var 29)), (.val 30)] 
        (.still (.tt true) (.fld (.idx (.var 1) (.var 2) 5) 0) [(.val 23)] 
        (.still (.tt true) (.idx (.var 15) (.var 13) 7) [(.int .u8 (.var 16)), (.int .u8 (.var 17)), (.int .i64 (.var 18)), (.int .i64 (.var 19)), (.int .i64 (.var 20)), (.int .i64 (.var 21)), (.val 22)] 
        (.still (.tt true) (.fld (.idx (.var 0) (.var 2) 5) 0) [(.val 15)] 
        (.still (.tt true) (.idx (.var 23) (.var 13) 7) [(.int .u8 (.var 24)), (.int .u8 (.var 25)), (.int .i64 (.var 26)), (.int .i64 (.var 27)), (.int .i64 (.var 28)), (.int .i64 (.var 29)), (.val 30)] 
        (.still (.tt true) (.fld (.idx (.var 1) (.var 2) 5) 0) [(.val 23)] 
        (.still (.tt true) (.idx (.var 15) (.var 13) 7) [(.int .u8 (.var 16)), (.int .u8 (.var 17)), (.int .i64 (.var 18)), (.int .i64 (.var 19)), (.int .i64 (.var 20)), (.int .i64 (.var 21)), (.val 22)] 
        (.still (.tt true) (.fld (.idx (.var 0) (.var 2) 5) 0) [(.val 15)] 
        (.still (.tt true) (.idx (.var 23) (.var 13) 7) [(.int .u8 (.var 24)), (.int .u8 (.var 25)), (.int .i64 (.var 26)), (.int .i64 (.var 27)), (.int .i64 (.var 28)), (.int .i64 (.var 29)), (.val 30)] 
        (.still (.tt true) (.fld (.idx (.var 1) (.var 2) 5) 0) [(.val 23)] 
        (.ite (.not (.ite (.ite (.ite (.ite (.ite (.cmp .neq (.var 16) (.var 24)) (.tt true) (.cmp .neq (.var 17) (.var 25))) (.tt true) (.cmp .neq (.var 18) (.var 26))) (.tt true) (.cmp .neq (.var 19) (.var 27))) (.tt true) (.cmp .neq (.var 20) (.var 28))) (.tt true) (.cmp .neq (.var 21) (.var 29))))
         (.call 20 [(.val 22), (.val 30)] [] [] [] [(false, [.bool])] 
         (.ite (.not (.var 31))
          (.done (.bool (.tt false)) [])
          (.again 1 [(.int .i64 (.op .add .i64 (.var 13) (.lit 1)))])))
         (.done (.bool (.tt false)) [])))))))))))))))))))))
       (.again 0 [(.int .i64 (.op .add .i64 (.var 2) (.lit 1)))]))))))))))))))
    (.done (.bool (.tt true)) []))))
def l30 : List (Nat × List Nat × List (Nat × Nat) × List Nat) := [(4, [5], [], [14, 15, 16, 17, 20, 21, 22, 23, 24, 25, 26, 27, 28, 29, 30, 31, 32, 33, 34, 35, 36, 37, 38, 39, 40, 41, 42, 43, 44, 45, 4, 6, 46, 47, 48, 49, 50, 51, 52, 53, 56, 57, 58, 59, 60, 61, 62, 63, 64, 65, 66, 67, 68, 69, 70, 71, 7, 8, 72, 73, 74, 75, 76, 77, 78, 79, 80, 81, 82, 83, 84, 85, 86, 87, 88, 89, 90, 91, 92, 93, 94, 95, 96, 97, 98, 99, 100, 101, 102, 103, 104, 105, 106, 107, 108, 109, 110, 111, 112, 113, 114, 115, 116, 117, 118, 119, 54, 55, 18, 19]), (9, [6], [], [46, 47, 48, 49, 50, 51, 52, 53, 56, 57, 58, 59, 60, 61, 62, 63, 64, 65, 66, 67, 68, 69, 70, 71, 7, 8, 72, 73, 74, 75, 76, 77, 78, 79, 80, 81, 82, 83, 84, 85, 86, 87, 88, 89, 90, 91, 92, 93, 94, 95, 96, 97, 98, 99, 100, 101, 102, 103, 104, 105, 106, 107, 108, 109, 110, 111, 112, 113, 114, 115, 116, 117, 118, 119, 4, 54, 55])]
theorem e30 : ev Try.prog ⟨allF, [], l30⟩ (bodyOf Try.f30) 0 (initSt [(.val 0), (.val 1)] [] Try.f30.ntmps [.sl, .sl]) (finK Try.prog Try.f30.results []) = t30 := by kernel_rfl
theorem c30 {G : List Value} {h : H} {R : Value → List (List Value) → H → Prop} (hG : FitsL [.sl, .sl] G) (H : holds Try.prog R t30 G [] h) : CallsA Try.prog 30 (fun e => SV.denL G (fun k => e (k - 1000000)) [(.val 0), (.val 1)]) [] h R :=
  CallsA.of_ev (cf := ⟨allF, [], l30⟩) (fn := Try.f30) (c := bodyOf Try.f30) (pcs := []) Try.func30 (by rfl) callOK (by rfl) hG (by rfl) (by rw [show ([] : List (List SV)).map List.length = [] from rfl, e30]; exact H)
/-- What is left of outworker/outworkerref04.SameFuncs. -/
def t31 : Out :=
 (.ite (.ite (.cmp .eql (.var 0) (.var 3)) (.cmp .eql (.var 1) (.var 4)) (.tt false))
  (.call 30 [(.val 2), (.val 5)] [] [] [] [(false, [.bool])] 
  (.done (.bool (.var 6)) []))
  (.done (.bool (.tt false)) []))
def l31 : List (Nat × List Nat × List (Nat × Nat) × List Nat) := []
theorem e31 : ev Try.prog ⟨allF, [], l31⟩ (bodyOf Try.f31) 0 (initSt [(.agg [(.int .i64 (.var 0)), (.int .i64 (.var 1)), (.val 2)]), (.agg [(.int .i64 (.var 3)), (.int .i64 (.var 4)), (.val 5)])] [] Try.f31.ntmps [.int .i64, .int .i64, .sl, .int .i64, .int .i64, .sl]) (finK Try.prog Try.f31.results []) = t31 := by kernel_rfl
theorem c31 {G : List Value} {h : H} {R : Value → List (List Value) → H → Prop} (hG : FitsL [.int .i64, .int .i64, .sl, .int .i64, .int .i64, .sl] G) (H : holds Try.prog R t31 G [] h) : CallsA Try.prog 31 (fun e => SV.denL G (fun k => e (k - 1000000)) [(.agg [(.int .i64 (.var 0)), (.int .i64 (.var 1)), (.val 2)]), (.agg [(.int .i64 (.var 3)), (.int .i64 (.var 4)), (.val 5)])]) [] h R :=
  CallsA.of_ev (cf := ⟨allF, [], l31⟩) (fn := Try.f31) (c := bodyOf Try.f31) (pcs := []) Try.func31 (by rfl) callOK (by rfl) hG (by rfl) (by rw [show ([] : List (List SV)).map List.length = [] from rfl, e31]; exact H)
/-- What is left of outworker/outworkerlaw05.Awake. -/
def t32 : Out :=
 (.alloc 46 [(.int .u8 (.lit 8)), (.int .u8 (.lit 0)), (.int .i64 (.lit 0)), (.int .i64 (.lit 0)), (.int .i64 (.lit 0)), (.int .i64 (.lit 0)), (.cst (.slice none 0 0))] (.lsl 1) 
 (.alloc 41 [(.val 0), (.int .u8 (.lit 3)), (.int .i64 (.lit 0)), (.int .i64 (.lit 0)), (.int .i64 (.lit 0))] (.lsl 1) 
 (.call 34 [(.agg [(.int .i64 (.lit 0)), (.int .i64 (.lit 3)), (.int .i64 (.lit 0)), (.val 1)])] [] [] [] [(true, [.int .i64, .int .i64, .int .i64])] 
 (.ite (.cmp .eql (.var 2) (.lit 24))
  (.call 34 [(.agg [(.int .i64 (.lit 0)), (.int .i64 (.lit 3)), (.int .i64 (.lit 1)), (.val 1)])] [] [] [] [(true, [.int .i64, .int .i64, .int .i64])] 
  (.need (.and (.cmp .eql (.var 5) (.lit 0)) (.and (.cmp .eql (.var 6) (.lit 0)) (.cmp .eql (.var 7) (.lit 0)))) [(.tt true), (.cmp .lss (.lit 0) (.len 1))] 
  (.load (.and (.cmp .eql (.var 5) (.lit 0)) (.and (.cmp .eql (.var 6) (.lit 0)) (.cmp .eql (.var 7) (.lit 0)))) (.fld (.idx (.var 1) (.lit 0) 5) 0) [.sl] 
  (.need (.and (.cmp .eql (.var 5) (.lit 0)) (.and (.cmp .eql (.var 6) (.lit 0)) (.cmp .eql (.var 7) (.lit 0)))) [(.tt true), (.cmp .lss (.lit 0) (.len 8))] 
  (.load (.and (.cmp .eql (.var 5) (.lit 0)) (.and (.cmp .eql (.var 6) (.lit 0)) (.cmp .eql (.var 7) (.lit 0)))) (.idx (.var 8) (.lit 0) 7) [.int .u8, .int .u8, .int .i64, .int .i64, .int .i64, .int .i64, .sl] 
  (.ite (.and (.cmp .eql (.var 5) (.lit 0)) (.and (.cmp .eql (.var 6) (.lit 0)) (.cmp .eql (.var 7) (.lit 0))))
   (.call 36 [(.agg [(.int .u8 (.var 9)), (.int .u8 (.var 10)), (.int .i64 (.var 11)), (.int .i64 (.var 12)), (.int .i64 (.var 13)), (.int .i64 (.var 14)), (.val 15)])] [] [] [] [(false, [.bool])] 
   (.done (.bool (.var 16)) []))
   (.done (.bool (.tt false)) [])))))))
  (.done (.bool (.tt false)) [])))))
def l32 : List (Nat × List Nat × List (Nat × Nat) × List Nat) := []
theorem e32 : ev Try.prog ⟨allF, [4, 7], l32⟩ (bodyOf Try.f32) 0 (initSt [] [] Try.f32.ntmps []) (finK Try.prog Try.f32.results []) = t32 := by kernel_rfl
theorem c32 {G : List Value} {h : H} {R : Value → List (List Value) → H → Prop} (hG : FitsL [] G) (H : holds Try.prog R t32 G [] h) : CallsA Try.prog 32 (fun e => SV.denL G (fun k => e (k - 1000000)) []) [] h R :=
  CallsA.of_ev (cf := ⟨allF, [4, 7], l32⟩) (fn := Try.f32) (c := bodyOf Try.f32) (pcs := []) Try.func32 (by rfl) callOK (by rfl) hG (by rfl) (by rw [show ([] : List (List SV)).map List.length = [] from rfl, e32]; exact H)
/-- What is left of outworker/outworkerlaw05.Made. -/
def t33 : Out :=
 (.call 15 [(.agg [(.int .u8 (.var 0)), (.int .u8 (.lit 0)), (.int .u8 (.var 2)), (.val 3)])] [] [] [] [(true, [.int .i64, .int .i64, .sl])] 
 (.loop 0 [(.int .i64 (.lit 0)), (.int .i64 (.var 7)), (.int .i64 (.op .add .i64 (.lit 3) (.conv .i64 (.op .rem .u8 (.var 4) (.lit 6))))), (.int .i64 (.op .add .i64 (.ite (.cmp .gtr (.lit 1) (.var 7)) (.lit 1) (.var 7)) (.conv .i64 (.op .rem .u8 (.var 5) (.lit 8))))), (.val 9)] [.int .i64, .int .i64, .int .i64, .int .i64, .sl] 
  (.ite (.cmp .lss (.var 10) (.len 9))
   (.need (.tt true) [(.cmp .geq (.var 10) (.lit 0)), (.cmp .lss (.var 10) (.len 14))] 
   (.load (.tt true) (.fld (.idx (.var 14) (.var 10) 5) 0) [.sl] 
   (.loop 1 [(.int .i64 (.lit 0)), (.int .i64 (.var 11)), (.int .i64 (.var 12)), (.int .i64 (.var 13)), (.val 14)] [.int .i64, .int .i64, .int .i64, .int .i64, .sl] 
    (.ite (.cmp .lss (.var 16) (.len 15))
     (.load (.tt true) (.fld (.idx (.var 14) (.var 10) 5) 0) [.sl] 
     (.need (.tt true) [(.cmp .geq (.var 16) (.lit 0)), (.cmp .lss (.var 16) (.len 21))] 
     (.load (.tt true) (.fld (.idx (.var 21) (.var 16) 7) 2) [.int .i64] 
     (.load (.tt true) (.fld (.idx (.var 21) (.var 16) 7) 3) [.int .i64] 
     (.load (.tt true) (.fld (.idx (.var 21) (.var 16) 7) 4) [.int .i64] 
     (.call 41 [(.int .i64 (.var 22)), (.loc 9 0)] [9] [[(.int .i64 (.var 17)), (.int .i64 (.var 18)), (.int .i64 (.var 19)), (.val 20)]] [[.int .i64, .int .i64, .int .i64, .sl]] [(false, [.int .i64])] 
     (.still (.tt true) (.fld (.idx (.var 21) (.var 16) 7) 4) [(.int .i64 (.var 24))] 
     (.still (.tt true) (.fld (.idx (.var 21) (.var 16) 7) 3) [(.int .i64 (.var 23))] 
     (.call 41 [(.int .i64 (.var 23)), (.loc 9 0)] [9] [[(.int .i64 (.var 25)), (.int .i64 (.var 26)), (.int .i64 (.var 27)), (.val 28)]] [[.int .i64, .int .i64, .int .i64, .sl]] [(false, [.int .i64])] 
     (.still (.tt true) (.fld (.idx (.var 21) (.var 16) 7) 4) [(.int .i64 (.var 24))] 
     (.call 41 [(.int .i64 (.var 24)), (.loc 9 0)] [9] [[(.int .i64 (.var 30)), (.int .i64 (.var 31)), (.int .i64 (.var 32)), (.val 33)]] [[.int .i64, .int .i64, .int .i64, .sl]] [(false, [.int .i64])] 
     (.store (.fld (.idx (.var 21) (.var 16) 7) 2) [(.int .i64 (.var 29))] 
     (.store (.fld (.idx (.var 21) (.var 16) 7) 3) [(.int .i64 (.var 34))] 
     (.store (.fld (.idx (.var 21) (.var 16) 7) 4) [(.int .i64 (.var 39))] 
     (.load (.tt true) (.fld (.idx (.var 21) (.var 16) 7) 6) [.sl] 
     (.loop 2 [(.int .i64 (.lit 0)), (.int .i64 (.var 35)), (.int .i64 (.var 36)), (.int .i64 (.var 37)), (.val 38)] [.int .i64, .int .i64, .int .i64, .int .i64, .sl] 
      (.ite (.cmp .lss (.var 41) (.len 40))
       (.load (.tt true) (.fld (.idx (.var 21) (.var 16) 7) 6) [.sl] 
       (.load (.tt true) (.fld (.idx (.var 21) (.var 16) 7) 6) [.sl] 
       (.need (.tt true) [(.cmp .geq (.var 41) (.lit 0)), (.cmp .lss (.var 41) (.len 47))] 
       (.load (.tt true) (.idx (.var 47) (.var 41) 1) [.int .i64] 
       (.call 41 [(.int .i64 (.var 48)), (.loc 9 0)] [9] [[(.int .i64 (.var 42)), (.int .i64 (.var 43)), (.int .i64 (.var 44)), (.val 45)]] [[.int .i64, .int .i64, .int .i64, .sl]] [(false, [.int .i64])] 
       (.still (.tt true) (.fld (.idx (.var 21) (.var 16) 7) 6) [(.val 47)] 
       (.still (.tt true) (.fld (.idx (.var 21) (.var 16) 7) 6) [(.val 46)] 
       (.need (.tt true) [(.cmp .geq (.var 41) (.lit 0)), (.cmp .lss (.var 41) (.len 46))] 
       (.store (.idx (.var 46) (.var 41) 1) [(.int .i64 (.var 53))] 
       (.again 2 [(.int .i64 (.op .add .i64 (.var 41) (.lit 1))), (.int .i64 (.var 49)), (.int .i64 (.var 50)), (.int .i64 (.var 51)), (.val 52)]))))))))))
       (.again 1 [(.int .i64 (.op .add .i64 (.var 16) (.lit 1))), (.int .i64 (.var 42)), (.int .i64 (.var 43)), (.int .i64 (.var 44)), (.val 45)]))))))))))))))))))
     (.load (.tt true) (.fld (.fld (.idx (.var 14) (.var 10) 5) 1) 1) [.int .i64] 
     (.call 41 [(.int .i64 (.var 21)), (.loc 9 0)] [9] [[(.int .i64 (.var 17)), (.int .i64 (.var 18)), (.int .i64 (.var 19)), (.val 20)]] [[.int .i64, .int .i64, .int .i64, .sl]] [(false, [.int .i64])] 
     (.store (.fld (.fld (.idx (.var 14) (.var 10) 5) 1) 1) [(.int .i64 (.var 26))] 
     (.again 0 [(.int .i64 (.op .add .i64 (.var 10) (.lit 1))), (.int .i64 (.var 22)), (.int .i64 (.var 23)), (.int .i64 (.var 24)), (.val 25)]))))))))
   (.loop 0 [(.int .i64 (.lit 0))] [.int .i64] 
    (.ite (.ite (.cmp .lss (.op .add .i64 (.var 15) (.lit 2)) (.len 6)) (.cmp .lss (.var 15) (.lit 60)) (.tt false))
     (.need (.tt true) [(.cmp .geq (.var 15) (.lit 0)), (.cmp .lss (.var 15) (.len 6))] 
     (.load (.tt true) (.idx (.var 6) (.var 15) 1) [.int .u8] 
     (.need (.tt true) [(.cmp .neq (.len 14) (.lit 0))] 
     (.need (.tt true) [(.cmp .geq (.op .rem .i64 (.conv .i64 (.var 16)) (.len 14)) (.lit 0)), (.cmp .lss (.op .rem .i64 (.conv .i64 (.var 16)) (.len 14)) (.len 14))] 
     (.need (.tt true) [(.cmp .geq (.op .add .i64 (.var 15) (.lit 1)) (.lit 0)), (.cmp .lss (.op .add .i64 (.var 15) (.lit 1)) (.len 6))] 
     (.load (.tt true) (.idx (.var 6) (.op .add .i64 (.var 15) (.lit 1)) 1) [.int .u8] 
     (.need (.tt true) [(.cmp .neq (.var 13) (.lit 0))] 
     (.need (.tt true) [(.cmp .geq (.op .add .i64 (.var 15) (.lit 2)) (.lit 0)), (.cmp .lss (.op .add .i64 (.var 15) (.lit 2)) (.len 6))] 
     (.load (.tt true) (.idx (.var 6) (.op .add .i64 (.var 15) (.lit 2)) 1) [.int .u8] 
     (.need (.tt true) [(.cmp .neq (.var 12) (.lit 0))] 
     (.still (.tt true) (.idx (.var 6) (.op .add .i64 (.var 15) (.lit 2)) 1) [(.int .u8 (.var 18))] 
     (.still (.tt true) (.idx (.var 6) (.op .add .i64 (.var 15) (.lit 1)) 1) [(.int .u8 (.var 17))] 
     (.need (.tt true) [(.cmp .geq (.var 15) (.lit 0)), (.cmp .lss (.var 15) (.len 6))] 
     (.load (.tt true) (.idx (.var 6) (.var 15) 1) [.int .u8] 
     (.ite (.cmp .eql (.op .rem .u8 (.var 19) (.lit 2)) (.lit 1))
      (.need (.tt true) [(.cmp .geq (.op .add .i64 (.var 15) (.lit 1)) (.lit 0)), (.cmp .lss (.op .add .i64 (.var 15) (.lit 1)) (.len 6))] 
      (.load (.tt true) (.idx (.var 6) (.op .add .i64 (.var 15) (.lit 1)) 1) [.int .u8] 
      (.need (.tt true) [(.cmp .neq (.var 12) (.lit 0))] 
      (.need (.tt true) [(.cmp .geq (.op .add .i64 (.var 15) (.lit 2)) (.lit 0)), (.cmp .lss (.op .add .i64 (.var 15) (.lit 2)) (.len 6))] 
      (.load (.tt true) (.idx (.var 6) (.op .add .i64 (.var 15) (.lit 2)) 1) [.int .u8] 
      (.need (.tt true) [(.cmp .neq (.var 13) (.lit 0))] 
      (.need (.tt true) [(.cmp .geq (.var 15) (.lit 0)), (.cmp .lss (.var 15) (.len 6))] 
      (.load (.tt true) (.idx (.var 6) (.var 15) 1) [.int .u8] 
      (.load (.tt true) (.fld (.idx (.var 14) (.op .rem .i64 (.conv .i64 (.var 16)) (.len 14)) 5) 0) [.sl] 
      (.need (.tt true) [(.cmp .neq (.op .add .i64 (.len 23) (.lit 1)) (.lit 0))] 
      (.load (.tt true) (.fld (.idx (.var 14) (.op .rem .i64 (.conv .i64 (.var 16)) (.len 14)) 5) 0) [.sl] 
      (.need (.tt true) [(.cmp .geq (.op .rem .i64 (.conv .i64 (.op .quo .u8 (.var 22) (.lit 8))) (.op .add .i64 (.len 23) (.lit 1))) (.lit 0)), (.cmp .leq (.op .rem .i64 (.conv .i64 (.op .quo .u8 (.var 22) (.lit 8))) (.op .add .i64 (.len 23) (.lit 1))) (.cap 24))] 
      (.bnd (.slice (.val 24) none (some (.op .rem .i64 (.conv .i64 (.op .quo .u8 (.var 22) (.lit 8))) (.op .add .i64 (.len 23) (.lit 1)))) 7) 
      (.load (.tt true) (.fld (.idx (.var 14) (.op .rem .i64 (.conv .i64 (.var 16)) (.len 14)) 5) 0) [.sl] 
      (.need (.tt true) [(.cmp .geq (.op .rem .i64 (.conv .i64 (.op .quo .u8 (.var 22) (.lit 8))) (.op .add .i64 (.len 23) (.lit 1))) (.lit 0)), (.cmp .leq (.op .rem .i64 (.conv .i64 (.op .quo .u8 (.var 22) (.lit 8))) (.op .add .i64 (.len 23) (.lit 1))) (.len 26))] 
      (.bnd (.slice (.val 26) (some (.op .rem .i64 (.conv .i64 (.op .quo .u8 (.var 22) (.lit 8))) (.op .add .i64 (.len 23) (.lit 1)))) none 7) 
      (.both 
       (.alloc 46 [] (.lsl 0) 
       (.still (.tt true) (.fld (.idx (.var 14) (.op .rem .i64 (.conv .i64 (.var 16)) (.len 14)) 5) 0) [(.val 26)] 
       (.still (.tt true) (.fld (.idx (.var 14) (.op .rem .i64 (.conv .i64 (.var 16)) (.len 14)) 5) 0) [(.val 24)] 
       (.both 
        (.app 46 7 64 (.val 28) (.sl (.val 25)) 
        (.still (.tt true) (.fld (.idx (.var 14) (.op .rem .i64 (.conv .i64 (.var 16)) (.len 14)) 5) 0) [(.val 26)] 
        (.still (.tt true) (.fld (.idx (.var 14) (.op .rem .i64 (.conv .i64 (.var 16)) (.len 14)) 5) 0) [(.val 24)] 
        (.still (.tt true) (.fld (.idx (.var 14) (.op .rem .i64 (.conv .i64 (.var 16)) (.len 14)) 5) 0) [(.val 26)] 
        (.still (.tt true) (.fld (.idx (.var 14) (.op .rem .i64 (.conv .i64 (.var 16)) (.len 14)) 5) 0) [(.val 24)] 
        (.app 46 7 64 (.val 29) (.cells [(.int .u8 (.lit 8)), (.int .u8 (.lit 0)), (.int .i64 (.op .rem .i64 (.conv .i64 (.var 20)) (.var 12))), (.int .i64 (.op .rem .i64 (.conv .i64 (.var 21)) (.var 13))), (.int .i64 (.lit 0)), (.int .i64 (.lit 0)), (.cst (.slice none 0 0))] 1) 
        (.still (.tt true) (.fld (.idx (.var 14) (.op .rem .i64 (.conv .i64 (.var 16)) (.len 14)) 5) 0) [(.val 26)] 
        (.still (.tt true) (.fld (.idx (.var 14) (.op .rem .i64 (.conv .i64 (.var 16)) (.len 14)) 5) 0) [(.val 24)] 
        (.app 46 7 64 (.val 30) (.sl (.val 27)) 
        (.still (.tt true) (.fld (.idx (.var 14) (.op .rem .i64 (.conv .i64 (.var 16)) (.len 14)) 5) 0) [(.val 26)] 
        (.still (.tt true) (.fld (.idx (.var 14) (.op .rem .i64 (.conv .i64 (.var 16)) (.len 14)) 5) 0) [(.val 24)] 
        (.store (.fld (.idx (.var 14) (.op .rem .i64 (.conv .i64 (.var 16)) (.len 14)) 5) 0) [(.val 31)] 
        (.again 0 [(.int .i64 (.op .add .i64 (.var 15) (.lit 3)))]))))))))))))) 
        (.still (.tt true) (.fld (.idx (.var 14) (.op .rem .i64 (.conv .i64 (.var 16)) (.len 14)) 5) 0) [(.val 26)] 
        (.still (.tt true) (.fld (.idx (.var 14) (.op .rem .i64 (.conv .i64 (.var 16)) (.len 14)) 5) 0) [(.val 24)] 
        (.app 46 7 64 (.val 28) (.sl (.val 25)) 
        (.still (.tt true) (.fld (.idx (.var 14) (.op .rem .i64 (.conv .i64 (.var 16)) (.len 14)) 5) 0) [(.val 26)] 
        (.still (.tt true) (.fld (.idx (.var 14) (.op .rem .i64 (.conv .i64 (.var 16)) (.len 14)) 5) 0) [(.val 24)] 
        (.app 46 7 64 (.val 29) (.cells [(.int .u8 (.lit 8)), (.int .u8 (.lit 0)), (.int .i64 (.op .rem .i64 (.conv .i64 (.var 20)) (.var 12))), (.int .i64 (.op .rem .i64 (.conv .i64 (.var 21)) (.var 13))), (.int .i64 (.lit 0)), (.int .i64 (.lit 0)), (.cst (.slice none 0 0))] 1) 
        (.still (.tt true) (.fld (.idx (.var 14) (.op .rem .i64 (.conv .i64 (.var 16)) (.len 14)) 5) 0) [(.val 26)] 
        (.still (.tt true) (.fld (.idx (.var 14) (.op .rem .i64 (.conv .i64 (.var 16)) (.len 14)) 5) 0) [(.val 24)] 
        (.app 46 7 64 (.val 30) (.sl (.val 27)) 
        (.still (.tt true) (.fld (.idx (.var 14) (.op .rem .i64 (.conv .i64 (.var 16)) (.len 14)) 5) 0) [(.val 26)] 
        (.still (.tt true) (.fld (.idx (.var 14) (.op .rem .i64 (.conv .i64 (.var 16)) (.len 14)) 5) 0) [(.val 24)] 
        (.store (.fld (.idx (.var 14) (.op .rem .i64 (.conv .i64 (.var 16)) (.len 14)) 5) 0) [(.val 31)] 
        (.again 0 [(.int .i64 (.op .add .i64 (.var 15) (.lit 3)))]))))))))))))))))) 
       (.still (.tt true) (.fld (.idx (.var 14) (.op .rem .i64 (.conv .i64 (.var 16)) (.len 14)) 5) 0) [(.val 26)] 
       (.still (.tt true) (.fld (.idx (.var 14) (.op .rem .i64 (.conv .i64 (.var 16)) (.len 14)) 5) 0) [(.val 24)] 
       (.alloc 46 [] (.lsl 0) 
       (.still (.tt true) (.fld (.idx (.var 14) (.op .rem .i64 (.conv .i64 (.var 16)) (.len 14)) 5) 0) [(.val 26)] 
       (.still (.tt true) (.fld (.idx (.var 14) (.op .rem .i64 (.conv .i64 (.var 16)) (.len 14)) 5) 0) [(.val 24)] 
       (.app 46 7 64 (.val 28) (.sl (.val 25)) 
       (.still (.tt true) (.fld (.idx (.var 14) (.op .rem .i64 (.conv .i64 (.var 16)) (.len 14)) 5) 0) [(.val 26)] 
       (.still (.tt true) (.fld (.idx (.var 14) (.op .rem .i64 (.conv .i64 (.var 16)) (.len 14)) 5) 0) [(.val 24)] 
       (.app 46 7 64 (.val 29) (.cells [(.int .u8 (.lit 8)), (.int .u8 (.lit 0)), (.int .i64 (.op .rem .i64 (.conv .i64 (.var 20)) (.var 12))), (.int .i64 (.op .rem .i64 (.conv .i64 (.var 21)) (.var 13))), (.int .i64 (.lit 0)), (.int .i64 (.lit 0)), (.cst (.slice none 0 0))] 1) 
       (.still (.tt true) (.fld (.idx (.var 14) (.op .rem .i64 (.conv .i64 (.var 16)) (.len 14)) 5) 0) [(.val 26)] 
       (.still (.tt true) (.fld (.idx (.var 14) (.op .rem .i64 (.conv .i64 (.var 16)) (.len 14)) 5) 0) [(.val 24)] 
       (.app 46 7 64 (.val 30) (.sl (.val 27)) 
       (.still (.tt true) (.fld (.idx (.var 14) (.op .rem .i64 (.conv .i64 (.var 16)) (.len 14)) 5) 0) [(.val 26)] 
       (.still (.tt true) (.fld (.idx (.var 14) (.op .rem .i64 (.conv .i64 (.var 16)) (.len 14)) 5) 0) [(.val 24)] 
       (.store (.fld (.idx (.var 14) (.op .rem .i64 (.conv .i64 (.var 16)) (.len 14)) 5) 0) [(.val 31)] 
       (.again 0 [(.int .i64 (.op .add .i64 (.var 15) (.lit 3)))])))))))))))))))))))))))))))))))))
      (.need (.tt true) [(.cmp .geq (.var 15) (.lit 0)), (.cmp .lss (.var 15) (.len 6))] 
      (.load (.tt true) (.idx (.var 6) (.var 15) 1) [.int .u8] 
      (.load (.tt true) (.fld (.idx (.var 14) (.op .rem .i64 (.conv .i64 (.var 16)) (.len 14)) 5) 0) [.sl] 
      (.need (.tt true) [(.cmp .neq (.op .add .i64 (.len 21) (.lit 1)) (.lit 0))] 
      (.load (.tt true) (.fld (.idx (.var 14) (.op .rem .i64 (.conv .i64 (.var 16)) (.len 14)) 5) 0) [.sl] 
      (.need (.tt true) [(.cmp .geq (.op .rem .i64 (.conv .i64 (.op .quo .u8 (.var 20) (.lit 8))) (.op .add .i64 (.len 21) (.lit 1))) (.lit 0)), (.cmp .leq (.op .rem .i64 (.conv .i64 (.op .quo .u8 (.var 20) (.lit 8))) (.op .add .i64 (.len 21) (.lit 1))) (.cap 22))] 
      (.bnd (.slice (.val 22) none (some (.op .rem .i64 (.conv .i64 (.op .quo .u8 (.var 20) (.lit 8))) (.op .add .i64 (.len 21) (.lit 1)))) 7) 
      (.load (.tt true) (.fld (.idx (.var 14) (.op .rem .i64 (.conv .i64 (.var 16)) (.len 14)) 5) 0) [.sl] 
      (.need (.tt true) [(.cmp .geq (.op .rem .i64 (.conv .i64 (.op .quo .u8 (.var 20) (.lit 8))) (.op .add .i64 (.len 21) (.lit 1))) (.lit 0)), (.cmp .leq (.op .rem .i64 (.conv .i64 (.op .quo .u8 (.var 20) (.lit 8))) (.op .add .i64 (.len 21) (.lit 1))) (.len 24))] 
      (.bnd (.slice (.val 24) (some (.op .rem .i64 (.conv .i64 (.op .quo .u8 (.var 20) (.lit 8))) (.op .add .i64 (.len 21) (.lit 1)))) none 7) 
      (.both 
       (.alloc 46 [] (.lsl 0) 
       (.still (.tt true) (.fld (.idx (.var 14) (.op .rem .i64 (.conv .i64 (.var 16)) (.len 14)) 5) 0) [(.val 24)] 
       (.still (.tt true) (.fld (.idx (.var 14) (.op .rem .i64 (.conv .i64 (.var 16)) (.len 14)) 5) 0) [(.val 22)] 
       (.both 
        (.app 46 7 64 (.val 26) (.sl (.val 23)) 
        (.still (.tt true) (.fld (.idx (.var 14) (.op .rem .i64 (.conv .i64 (.var 16)) (.len 14)) 5) 0) [(.val 24)] 
        (.still (.tt true) (.fld (.idx (.var 14) (.op .rem .i64 (.conv .i64 (.var 16)) (.len 14)) 5) 0) [(.val 22)] 
        (.still (.tt true) (.fld (.idx (.var 14) (.op .rem .i64 (.conv .i64 (.var 16)) (.len 14)) 5) 0) [(.val 24)] 
        (.still (.tt true) (.fld (.idx (.var 14) (.op .rem .i64 (.conv .i64 (.var 16)) (.len 14)) 5) 0) [(.val 22)] 
        (.app 46 7 64 (.val 27) (.cells [(.int .u8 (.lit 7)), (.int .u8 (.lit 0)), (.int .i64 (.op .rem .i64 (.conv .i64 (.var 17)) (.var 13))), (.int .i64 (.op .rem .i64 (.conv .i64 (.var 18)) (.var 12))), (.int .i64 (.lit 0)), (.int .i64 (.lit 0)), (.cst (.slice none 0 0))] 1) 
        (.still (.tt true) (.fld (.idx (.var 14) (.op .rem .i64 (.conv .i64 (.var 16)) (.len 14)) 5) 0) [(.val 24)] 
        (.still (.tt true) (.fld (.idx (.var 14) (.op .rem .i64 (.conv .i64 (.var 16)) (.len 14)) 5) 0) [(.val 22)] 
        (.app 46 7 64 (.val 28) (.sl (.val 25)) 
        (.still (.tt true) (.fld (.idx (.var 14) (.op .rem .i64 (.conv .i64 (.var 16)) (.len 14)) 5) 0) [(.val 24)] 
        (.still (.tt true) (.fld (.idx (.var 14) (.op .rem .i64 (.conv .i64 (.var 16)) (.len 14)) 5) 0) [(.val 22)] 
        (.store (.fld (.idx (.var 14) (.op .rem .i64 (.conv .i64 (.var 16)) (.len 14)) 5) 0) [(.val 29)] 
        (.again 0 [(.int .i64 (.op .add .i64 (.var 15) (.lit 3)))]))))))))))))) 
        (.still (.tt true) (.fld (.idx (.var 14) (.op .rem .i64 (.conv .i64 (.var 16)) (.len 14)) 5) 0) [(.val 24)] 
        (.still (.tt true) (.fld (.idx (.var 14) (.op .rem .i64 (.conv .i64 (.var 16)) (.len 14)) 5) 0) [(.val 22)] 
        (.app 46 7 64 (.val 26) (.sl (.val 23)) 
        (.still (.tt true) (.fld (.idx (.var 14) (.op .rem .i64 (.conv .i64 (.var 16)) (.len 14)) 5) 0) [(.val 24)] 
        (.still (.tt true) (.fld (.idx (.var 14) (.op .rem .i64 (.conv .i64 (.var 16)) (.len 14)) 5) 0) [(.val 22)] 
        (.app 46 7 64 (.val 27) (.cells [(.int .u8 (.lit 7)), (.int .u8 (.lit 0)), (.int .i64 (.op .rem .i64 (.conv .i64 (.var 17)) (.var 13))), (.int .i64 (.op .rem .i64 (.conv .i64 (.var 18)) (.var 12))), (.int .i64 (.lit 0)), (.int .i64 (.lit 0)), (.cst (.slice none 0 0))] 1) 
        (.still (.tt true) (.fld (.idx (.var 14) (.op .rem .i64 (.conv .i64 (.var 16)) (.len 14)) 5) 0) [(.val 24)] 
        (.still (.tt true) (.fld (.idx (.var 14) (.op .rem .i64 (.conv .i64 (.var 16)) (.len 14)) 5) 0) [(.val 22)] 
        (.app 46 7 64 (.val 28) (.sl (.val 25)) 
        (.still (.tt true) (.fld (.idx (.var 14) (.op .rem .i64 (.conv .i64 (.var 16)) (.len 14)) 5) 0) [(.val 24)] 
        (.still (.tt true) (.fld (.idx (.var 14) (.op .rem .i64 (.conv .i64 (.var 16)) (.len 14)) 5) 0) [(.val 22)] 
        (.store (.fld (.idx (.var 14) (.op .rem .i64 (.conv .i64 (.var 16)) (.len 14)) 5) 0) [(.val 29)] 
        (.again 0 [(.int .i64 (.op .add .i64 (.var 15) (.lit 3)))]))))))))))))))))) 
       (.still (.tt true) (.fld (.idx (.var 14) (.op .rem .i64 (.conv .i64 (.var 16)) (.len 14)) 5) 0) [(.val 24)] 
       (.still (.tt true) (.fld (.idx (.var 14) (.op .rem .i64 (.conv .i64 (.var 16)) (.len 14)) 5) 0) [(.val 22)] 
       (.alloc 46 [] (.lsl 0) 
       (.still (.tt true) (.fld (.idx (.var 14) (.op .rem .i64 (.conv .i64 (.var 16)) (.len 14)) 5) 0) [(.val 24)] 
       (.still (.tt true) (.fld (.idx (.var 14) (.op .rem .i64 (.conv .i64 (.var 16)) (.len 14)) 5) 0) [(.val 22)] 
       (.app 46 7 64 (.val 26) (.sl (.val 23)) 
       (.still (.tt true) (.fld (.idx (.var 14) (.op .rem .i64 (.conv .i64 (.var 16)) (.len 14)) 5) 0) [(.val 24)] 
       (.still (.tt true) (.fld (.idx (.var 14) (.op .rem .i64 (.conv .i64 (.var 16)) (.len 14)) 5) 0) [(.val 22)] 
       (.app 46 7 64 (.val 27) (.cells [(.int .u8 (.lit 7)), (.int .u8 (.lit 0)), (.int .i64 (.op .rem .i64 (.conv .i64 (.var 17)) (.var 13))), (.int .i64 (.op .rem .i64 (.conv .i64 (.var 18)) (.var 12))), (.int .i64 (.lit 0)), (.int .i64 (.lit 0)), (.cst (.slice none 0 0))] 1) 
       (.still (.tt true) (.fld (.idx (.var 14) (.op .rem .i64 (.conv .i64 (.var 16)) (.len 14)) 5) 0) [(.val 24)] 
       (.still (.tt true) (.fld (.idx (.var 14) (.op .rem .i64 (.conv .i64 (.var 16)) (.len 14)) 5) 0) [(.val 22)] 
       (.app 46 7 64 (.val 28) (.sl (.val 25)) 
       (.still (.tt true) (.fld (.idx (.var 14) (.op .rem .i64 (.conv .i64 (.var 16)) (.len 14)) 5) 0) [(.val 24)] 
       (.still (.tt true) (.fld (.idx (.var 14) (.op .rem .i64 (.conv .i64 (.var 16)) (.len 14)) 5) 0) [(.val 22)] 
       (.store (.fld (.idx (.var 14) (.op .rem .i64 (.conv .i64 (.var 16)) (.len 14)) 5) 0) [(.val 29)] 
       (.again 0 [(.int .i64 (.op .add .i64 (.var 15) (.lit 3)))]))))))))))))))))))))))))))))))))))))))))))
     (.done (.agg [(.int .i64 (.var 11)), (.int .i64 (.var 12)), (.int .i64 (.var 13)), (.val 14)]) []))))))
def l33 : List (Nat × List Nat × List (Nat × Nat) × List Nat) := [(8, [47], [(9, 0), (9, 1), (9, 2), (9, 3)], [48, 49, 12, 50, 51, 52, 53, 13, 54, 55, 56, 57, 58, 59, 60, 61, 14, 62, 63, 64, 65, 66, 67, 15, 68, 69, 70, 71, 72, 73, 74, 75, 76, 77, 78, 79, 80, 81, 82, 83, 84, 85, 86, 87, 88, 89, 90, 91, 92, 93, 94, 95, 96, 97, 98, 99, 100, 101, 102, 16, 103, 104, 105, 106, 107, 108, 109, 110, 111, 112, 113, 114, 115, 116, 117, 118, 119, 120, 121, 122, 123, 124, 125, 126, 127, 128, 129, 130, 131]), (12, [59], [(9, 0), (9, 1), (9, 2), (9, 3)], [60, 61, 14, 62, 63, 64, 65, 66, 67, 15, 68, 69, 70, 71, 72, 73, 74, 75, 76, 77, 78, 79, 80, 81, 82, 83, 84, 85, 86, 87, 88, 89, 90, 91, 92, 93, 94, 95, 96, 97, 98, 99, 100, 101, 102, 16, 103, 104, 105, 106, 107, 108, 109, 110, 111, 112, 113, 114, 115, 116, 117, 118, 119]), (17, [100], [(9, 0), (9, 1), (9, 2), (9, 3)], [101, 102, 16, 103, 104, 105, 106, 107, 108, 109, 110, 111, 112, 113, 114, 115, 116, 117, 118]), (25, [17], [], [132, 133, 134, 135, 136, 137, 138, 139, 140, 143, 144, 145, 146, 147, 148, 149, 150, 151, 152, 153, 154, 18, 155, 156, 157, 158, 159, 160, 161, 162, 163, 164, 165, 166, 167, 168, 169, 170, 171, 172, 173, 19, 174, 175, 176, 177, 178, 179, 180, 181, 182, 183, 184, 185, 186, 187, 188, 189, 190, 191, 192, 193, 194, 195, 196, 197, 198, 199, 200, 201, 202, 203, 204, 205, 206, 207, 208, 209, 210, 211, 20, 212, 213, 214, 215, 216, 217, 218, 219, 220, 221, 222, 223, 224, 225, 226, 227, 228, 229, 230, 231, 232, 141, 142])]
theorem e33 : ev Try.prog ⟨allF, [213], l33⟩ (bodyOf Try.f33) 0 (initSt [(.agg [(.int .u8 (.var 0)), (.int .u8 (.var 1)), (.int .u8 (.var 2)), (.val 3)]), (.int .u8 (.var 4)), (.int .u8 (.var 5)), (.val 6)] [] Try.f33.ntmps [.int .u8, .int .u8, .int .u8, .sl, .int .u8, .int .u8, .sl]) (finK Try.prog Try.f33.results []) = t33 := by kernel_rfl
theorem c33 {G : List Value} {h : H} {R : Value → List (List Value) → H → Prop} (hG : FitsL [.int .u8, .int .u8, .int .u8, .sl, .int .u8, .int .u8, .sl] G) (H : holds Try.prog R t33 G [] h) : CallsA Try.prog 33 (fun e => SV.denL G (fun k => e (k - 1000000)) [(.agg [(.int .u8 (.var 0)), (.int .u8 (.var 1)), (.int .u8 (.var 2)), (.val 3)]), (.int .u8 (.var 4)), (.int .u8 (.var 5)), (.val 6)]) [] h R :=
  CallsA.of_ev (cf := ⟨allF, [213], l33⟩) (fn := Try.f33) (c := bodyOf Try.f33) (pcs := []) Try.func33 (by rfl) callOK (by rfl) hG (by rfl) (by rw [show ([] : List (List SV)).map List.length = [] from rfl, e33]; exact H)
/-- What is left of outworker/mach.Check. -/
def t34 : Out :=
 (.ite (.ite (.ite (.ite (.ite (.ite (.ite (.ite (.cmp .lss (.var 0) (.lit 0)) (.tt true) (.cmp .gtr (.var 0) (.lit 4))) (.tt true) (.cmp .lss (.var 1) (.lit 3))) (.tt true) (.cmp .gtr (.var 1) (.lit 8))) (.tt true) (.cmp .lss (.var 2) (.var 0))) (.tt true) (.cmp .gtr (.var 2) (.lit 64))) (.tt true) (.cmp .lss (.len 3) (.lit 1))) (.tt true) (.cmp .gtr (.len 3) (.lit 16)))
  (.done (.agg [(.int .i64 (.lit 2)), (.int .i64 (.lit (-1))), (.int .i64 (.lit (-1)))]) [])
  (.loop 0 [(.int .i64 (.lit 0))] [.int .i64] 
   (.ite (.cmp .lss (.var 4) (.len 3))
    (.need (.tt true) [(.cmp .geq (.var 4) (.lit 0)), (.cmp .lss (.var 4) (.len 3))] 
    (.load (.tt true) (.idx (.var 3) (.var 4) 5) [.sl, .int .u8, .int .i64, .int .i64, .int .i64] 
    (.ite (.cmp .gtr (.len 5) (.lit 400))
     (.done (.agg [(.int .i64 (.lit 9)), (.int .i64 (.var 4)), (.int .i64 (.lit (-1)))]) [])
     (.loop 1 [(.int .i64 (.lit 0))] [.int .i64] 
      (.ite (.cmp .lss (.var 10) (.len 5))
       (.need (.tt true) [(.cmp .geq (.var 10) (.lit 0)), (.cmp .lss (.var 10) (.len 5))] 
       (.load (.tt true) (.idx (.var 5) (.var 10) 7) [.int .u8, .int .u8, .int .i64, .int .i64, .int .i64, .int .i64, .sl] 
       (.call 42 [(.agg [(.int .u8 (.var 11)), (.int .u8 (.var 12)), (.int .i64 (.var 13)), (.int .i64 (.var 14)), (.int .i64 (.var 15)), (.int .i64 (.var 16)), (.val 17)]), (.agg [(.int .i64 (.var 0)), (.int .i64 (.var 1)), (.int .i64 (.var 2)), (.val 3)])] [] [] [] [(false, [.int .i64])] 
       (.ite (.cmp .neq (.var 18) (.lit 0))
        (.done (.agg [(.int .i64 (.var 18)), (.int .i64 (.var 4)), (.int .i64 (.var 10))]) [])
        (.again 1 [(.int .i64 (.op .add .i64 (.var 10) (.lit 1)))])))))
       (.call 26 [(.agg [(.int .u8 (.var 6)), (.int .i64 (.var 7)), (.int .i64 (.var 8)), (.int .i64 (.var 9))]), (.int .i64 (.var 1)), (.int .i64 (.len 3))] [] [] [] [(false, [.int .i64])] 
       (.call 43 [(.int .i64 (.var 11))] [] [] [] [(false, [.int .i64])] 
       (.ite (.cmp .neq (.var 12) (.lit 0))
        (.done (.agg [(.int .i64 (.var 12)), (.int .i64 (.var 4)), (.int .i64 (.len 5))]) [])
        (.again 0 [(.int .i64 (.op .add .i64 (.var 4) (.lit 1)))])))))))))
    (.done (.agg [(.int .i64 (.lit 0)), (.int .i64 (.lit 0)), (.int .i64 (.lit 0))]) []))))
def l34 : List (Nat × List Nat × List (Nat × Nat) × List Nat) := [(4, [55], [], [56, 57, 58, 59, 4, 3, 60, 61, 62, 63, 64, 65, 66, 67, 68, 69, 70, 71, 72, 73, 6, 5, 74, 75, 76, 7, 77, 78, 79, 80, 81, 82, 83, 84, 85, 86, 87, 88, 89, 90, 91, 92, 8, 93, 94, 95, 96, 97, 98, 99, 100, 101]), (9, [69], [], [70, 71, 72, 73, 6, 5, 74, 75, 76, 7, 77, 78, 79, 80, 81, 82, 83])]
theorem e34 : ev Try.prog ⟨allF, [], l34⟩ (bodyOf Try.f34) 0 (initSt [(.agg [(.int .i64 (.var 0)), (.int .i64 (.var 1)), (.int .i64 (.var 2)), (.val 3)])] [] Try.f34.ntmps [.int .i64, .int .i64, .int .i64, .sl]) (finK Try.prog Try.f34.results []) = t34 := by kernel_rfl
theorem c34 {G : List Value} {h : H} {R : Value → List (List Value) → H → Prop} (hG : FitsL [.int .i64, .int .i64, .int .i64, .sl] G) (H : holds Try.prog R t34 G [] h) : CallsA Try.prog 34 (fun e => SV.denL G (fun k => e (k - 1000000)) [(.agg [(.int .i64 (.var 0)), (.int .i64 (.var 1)), (.int .i64 (.var 2)), (.val 3)])]) [] h R :=
  CallsA.of_ev (cf := ⟨allF, [], l34⟩) (fn := Try.f34) (c := bodyOf Try.f34) (pcs := []) Try.func34 (by rfl) callOK (by rfl) hG (by rfl) (by rw [show ([] : List (List SV)).map List.length = [] from rfl, e34]; exact H)
/-- What is left of outworker/outworkerref04.Code. -/
def t35 : Out :=
 (.ite (.ite (.ite (.ite (.ite (.ite (.ite (.ite (.cmp .lss (.var 0) (.lit 0)) (.tt true) (.cmp .gtr (.var 0) (.lit 4))) (.tt true) (.cmp .lss (.var 1) (.lit 3))) (.tt true) (.cmp .gtr (.var 1) (.lit 8))) (.tt true) (.cmp .lss (.var 2) (.var 0))) (.tt true) (.cmp .gtr (.var 2) (.lit 64))) (.tt true) (.cmp .eql (.len 3) (.lit 0))) (.tt true) (.cmp .gtr (.len 3) (.lit 16)))
  (.done (.agg [(.int .i64 (.lit 2)), (.int .i64 (.lit (-1))), (.int .i64 (.lit (-1)))]) [])
  (.call 40 [(.val 3), (.int .i64 (.var 1)), (.int .i64 (.var 2)), (.int .i64 (.lit 400))] [] [] [] [(true, [.int .i64, .int .i64, .int .i64])] 
  (.done (.agg [(.int .i64 (.var 4)), (.int .i64 (.var 5)), (.int .i64 (.var 6))]) [])))
def l35 : List (Nat × List Nat × List (Nat × Nat) × List Nat) := []
theorem e35 : ev Try.prog ⟨allF, [], l35⟩ (bodyOf Try.f35) 0 (initSt [(.agg [(.int .i64 (.var 0)), (.int .i64 (.var 1)), (.int .i64 (.var 2)), (.val 3)])] [] Try.f35.ntmps [.int .i64, .int .i64, .int .i64, .sl]) (finK Try.prog Try.f35.results []) = t35 := by kernel_rfl
theorem c35 {G : List Value} {h : H} {R : Value → List (List Value) → H → Prop} (hG : FitsL [.int .i64, .int .i64, .int .i64, .sl] G) (H : holds Try.prog R t35 G [] h) : CallsA Try.prog 35 (fun e => SV.denL G (fun k => e (k - 1000000)) [(.agg [(.int .i64 (.var 0)), (.int .i64 (.var 1)), (.int .i64 (.var 2)), (.val 3)])]) [] h R :=
  CallsA.of_ev (cf := ⟨allF, [], l35⟩) (fn := Try.f35) (c := bodyOf Try.f35) (pcs := []) Try.func35 (by rfl) callOK (by rfl) hG (by rfl) (by rw [show ([] : List (List SV)).map List.length = [] from rfl, e35]; exact H)
/-- What is left of outworker/mach.Free. -/
def t36 : Out :=
 (.done (.bool (.ite (.ite (.cmp .eql (.var 0) (.lit 2)) (.tt true) (.cmp .eql (.var 0) (.lit 7))) (.tt true) (.cmp .eql (.var 0) (.lit 8)))) [])
def l36 : List (Nat × List Nat × List (Nat × Nat) × List Nat) := []
theorem e36 : ev Try.prog ⟨allF, [], l36⟩ (bodyOf Try.f36) 0 (initSt [(.agg [(.int .u8 (.var 0)), (.int .u8 (.var 1)), (.int .i64 (.var 2)), (.int .i64 (.var 3)), (.int .i64 (.var 4)), (.int .i64 (.var 5)), (.val 6)])] [] Try.f36.ntmps [.int .u8, .int .u8, .int .i64, .int .i64, .int .i64, .int .i64, .sl]) (finK Try.prog Try.f36.results []) = t36 := by kernel_rfl
theorem c36 {G : List Value} {h : H} {R : Value → List (List Value) → H → Prop} (hG : FitsL [.int .u8, .int .u8, .int .i64, .int .i64, .int .i64, .int .i64, .sl] G) (H : holds Try.prog R t36 G [] h) : CallsA Try.prog 36 (fun e => SV.denL G (fun k => e (k - 1000000)) [(.agg [(.int .u8 (.var 0)), (.int .u8 (.var 1)), (.int .i64 (.var 2)), (.int .i64 (.var 3)), (.int .i64 (.var 4)), (.int .i64 (.var 5)), (.val 6)])]) [] h R :=
  CallsA.of_ev (cf := ⟨allF, [], l36⟩) (fn := Try.f36) (c := bodyOf Try.f36) (pcs := []) Try.func36 (by rfl) callOK (by rfl) hG (by rfl) (by rw [show ([] : List (List SV)).map List.length = [] from rfl, e36]; exact H)
/-- What is left of (*outworker/outworkerlaw04.maker).next. -/
def t37 : Out :=
 (.need (.tt true) [(.not (.nilp 0))] 
 (.load (.tt true) (.fld (.var 0) 0) [.sl] 
 (.ite (.cmp .eql (.len 2) (.lit 0))
  (.done (.int .i64 (.lit 0)) [])
  (.need (.tt true) [(.not (.nilp 0))] 
  (.load (.tt true) (.fld (.var 0) 0) [.sl] 
  (.need (.tt true) [(.tt true), (.cmp .lss (.lit 0) (.len 3))] 
  (.load (.tt true) (.idx (.var 3) (.lit 0) 1) [.int .u8] 
  (.need (.tt true) [(.cmp .neq (.var 1) (.lit 0))] 
  (.need (.tt true) [(.not (.nilp 0))] 
  (.load (.tt true) (.fld (.var 0) 0) [.sl] 
  (.need (.tt true) [(.tt true), (.cmp .leq (.lit 1) (.len 5))] 
  (.bnd (.slice (.val 5) (some (.lit 1)) none 1) 
  (.need (.tt true) [(.not (.nilp 0))] 
  (.store (.fld (.var 0) 0) [(.val 6)] 
  (.done (.int .i64 (.op .rem .i64 (.conv .i64 (.var 4)) (.var 1))) [])))))))))))))))
def l37 : List (Nat × List Nat × List (Nat × Nat) × List Nat) := []
theorem e37 : ev Try.prog ⟨allF, [], l37⟩ (bodyOf Try.f37) 0 (initSt [(.val 0), (.int .i64 (.var 1))] [] Try.f37.ntmps [.ptr, .int .i64]) (finK Try.prog Try.f37.results []) = t37 := by kernel_rfl
theorem c37 {G : List Value} {h : H} {R : Value → List (List Value) → H → Prop} (hG : FitsL [.ptr, .int .i64] G) (H : holds Try.prog R t37 G [] h) : CallsA Try.prog 37 (fun e => SV.denL G (fun k => e (k - 1000000)) [(.val 0), (.int .i64 (.var 1))]) [] h R :=
  CallsA.of_ev (cf := ⟨allF, [], l37⟩) (fn := Try.f37) (c := bodyOf Try.f37) (pcs := []) Try.func37 (by rfl) callOK (by rfl) hG (by rfl) (by rw [show ([] : List (List SV)).map List.length = [] from rfl, e37]; exact H)
/-- What is left of (*outworker/outworkerlaw04.maker).ins. -/
def t38 : Out :=
 (.call 37 [(.val 0), (.int .i64 (.lit 9))] [] [] [] [(false, [.int .i64])] 
 (.ite (.cmp .eql (.conv .u8 (.op .add .i64 (.lit 1) (.var 2))) (.lit 1))
  (.call 37 [(.val 0), (.int .i64 (.var 1))] [] [] [] [(false, [.int .i64])] 
  (.call 37 [(.val 0), (.int .i64 (.lit 256))] [] [] [] [(false, [.int .i64])] 
  (.done (.agg [(.int .u8 (.conv .u8 (.op .add .i64 (.lit 1) (.var 2)))), (.int .u8 (.lit 0)), (.int .i64 (.var 3)), (.int .i64 (.lit 0)), (.int .i64 (.lit 0)), (.int .i64 (.op .sub .i64 (.var 4) (.lit 3))), (.cst (.slice none 0 0))]) [])))
  (.ite (.cmp .eql (.conv .u8 (.op .add .i64 (.lit 1) (.var 2))) (.lit 4))
   (.call 37 [(.val 0), (.int .i64 (.var 1))] [] [] [] [(false, [.int .i64])] 
   (.call 37 [(.val 0), (.int .i64 (.var 1))] [] [] [] [(false, [.int .i64])] 
   (.done (.agg [(.int .u8 (.conv .u8 (.op .add .i64 (.lit 1) (.var 2)))), (.int .u8 (.lit 0)), (.int .i64 (.var 3)), (.int .i64 (.var 4)), (.int .i64 (.lit 0)), (.int .i64 (.lit 0)), (.cst (.slice none 0 0))]) [])))
   (.ite (.cmp .eql (.conv .u8 (.op .add .i64 (.lit 1) (.var 2))) (.lit 5))
    (.call 37 [(.val 0), (.int .i64 (.var 1))] [] [] [] [(false, [.int .i64])] 
    (.call 37 [(.val 0), (.int .i64 (.var 1))] [] [] [] [(false, [.int .i64])] 
    (.done (.agg [(.int .u8 (.conv .u8 (.op .add .i64 (.lit 1) (.var 2)))), (.int .u8 (.lit 0)), (.int .i64 (.lit 0)), (.int .i64 (.var 3)), (.int .i64 (.var 4)), (.int .i64 (.lit 0)), (.cst (.slice none 0 0))]) [])))
    (.ite (.cmp .eql (.conv .u8 (.op .add .i64 (.lit 1) (.var 2))) (.lit 6))
     (.call 37 [(.val 0), (.int .i64 (.var 1))] [] [] [] [(false, [.int .i64])] 
     (.call 37 [(.val 0), (.int .i64 (.lit 5))] [] [] [] [(false, [.int .i64])] 
     (.call 37 [(.val 0), (.int .i64 (.lit 4))] [] [] [] [(false, [.int .i64])] 
     (.loop 0 [(.int .i64 (.lit 0)), (.cst (.slice none 0 0))] [.int .i64, .sl] 
      (.ite (.cmp .lss (.var 6) (.var 5))
       (.call 37 [(.val 0), (.int .i64 (.var 1))] [] [] [] [(false, [.int .i64])] 
       (.app 3 1 8 (.val 7) (.cells [(.int .i64 (.var 8))] 1) 
       (.again 0 [(.int .i64 (.op .add .i64 (.var 6) (.lit 1))), (.val 9)])))
       (.done (.agg [(.int .u8 (.conv .u8 (.op .add .i64 (.lit 1) (.var 2)))), (.int .u8 (.lit 0)), (.int .i64 (.var 3)), (.int .i64 (.lit 0)), (.int .i64 (.lit 0)), (.int .i64 (.var 4)), (.val 7)]) []))))))
     (.ite (.ite (.cmp .eql (.conv .u8 (.op .add .i64 (.lit 1) (.var 2))) (.lit 2)) (.cmp .eql (.conv .u8 (.op .add .i64 (.lit 1) (.var 2))) (.lit 2)) (.cmp .eql (.conv .u8 (.op .add .i64 (.lit 1) (.var 2))) (.lit 7)))
      (.call 37 [(.val 0), (.int .i64 (.var 1))] [] [] [] [(false, [.int .i64])] 
      (.call 37 [(.val 0), (.int .i64 (.var 1))] [] [] [] [(false, [.int .i64])] 
      (.done (.agg [(.int .u8 (.lit 2)), (.int .u8 (.lit 0)), (.int .i64 (.var 3)), (.int .i64 (.var 4)), (.int .i64 (.lit 0)), (.int .i64 (.lit 0)), (.cst (.slice none 0 0))]) [])))
      (.call 37 [(.val 0), (.int .i64 (.lit 7))] [] [] [] [(false, [.int .i64])] 
      (.call 37 [(.val 0), (.int .i64 (.var 1))] [] [] [] [(false, [.int .i64])] 
      (.call 37 [(.val 0), (.int .i64 (.var 1))] [] [] [] [(false, [.int .i64])] 
      (.call 37 [(.val 0), (.int .i64 (.var 1))] [] [] [] [(false, [.int .i64])] 
      (.done (.agg [(.int .u8 (.lit 3)), (.int .u8 (.conv .u8 (.op .add .i64 (.lit 1) (.var 3)))), (.int .i64 (.var 4)), (.int .i64 (.var 5)), (.int .i64 (.var 6)), (.int .i64 (.lit 0)), (.cst (.slice none 0 0))]) [])))))))))))
def l38 : List (Nat × List Nat × List (Nat × Nat) × List Nat) := [(12, [53], [(6, 6)], [54, 55, 56, 57, 58, 59, 60, 61, 62, 63])]
theorem e38 : ev Try.prog ⟨allF, [], l38⟩ (bodyOf Try.f38) 0 (initSt [(.val 0), (.int .i64 (.var 1))] [] Try.f38.ntmps [.ptr, .int .i64]) (finK Try.prog Try.f38.results []) = t38 := by kernel_rfl
theorem c38 {G : List Value} {h : H} {R : Value → List (List Value) → H → Prop} (hG : FitsL [.ptr, .int .i64] G) (H : holds Try.prog R t38 G [] h) : CallsA Try.prog 38 (fun e => SV.denL G (fun k => e (k - 1000000)) [(.val 0), (.int .i64 (.var 1))]) [] h R :=
  CallsA.of_ev (cf := ⟨allF, [], l38⟩) (fn := Try.f38) (c := bodyOf Try.f38) (pcs := []) Try.func38 (by rfl) callOK (by rfl) hG (by rfl) (by rw [show ([] : List (List SV)).map List.length = [] from rfl, e38]; exact H)
/-- What is left of outworker/ir.of. -/
def t39 : Out :=
 (.ite (.not (.ite (.ite (.cmp .lss (.var 0) (.lit 1)) (.tt true) (.cmp .gtr (.var 0) (.lit 6))) (.tt true) (.ite (.cmp .eql (.var 0) (.lit 3)) (.ite (.cmp .lss (.var 1) (.lit 1)) (.tt true) (.cmp .gtr (.var 1) (.lit 7))) (.tt false))))
  (.call 44 [(.agg [(.int .u8 (.var 0)), (.int .u8 (.var 1)), (.int .i64 (.var 2)), (.int .i64 (.var 3)), (.int .i64 (.var 4)), (.int .i64 (.var 5)), (.val 6)])] [] [] [] [(false, [.bool])] 
  (.ite (.not (.var 8))
   (.done (.int .i64 (.lit 20)) [])
   (.ite (.cmp .gtr (.len 6) (.lit 3))
    (.done (.int .i64 (.lit 25)) [])
    (.call 19 [(.agg [(.int .u8 (.var 0)), (.int .u8 (.var 1)), (.int .i64 (.var 2)), (.int .i64 (.var 3)), (.int .i64 (.var 4)), (.int .i64 (.var 5)), (.val 6)])] [] [] [] [(false, [.sl])] 
    (.call 22 [(.agg [(.int .u8 (.var 0)), (.int .u8 (.var 1)), (.int .i64 (.var 2)), (.int .i64 (.var 3)), (.int .i64 (.var 4)), (.int .i64 (.var 5)), (.val 6)])] [] [] [] [(false, [.int .i64]), (false, [.bool])] 
    (.ite (.var 11)
     (.app 3 1 8 (.val 9) (.cells [(.int .i64 (.var 10))] 1) 
     (.loop 0 [(.int .i64 (.lit 0))] [.int .i64] 
      (.ite (.cmp .lss (.var 13) (.len 12))
       (.need (.tt true) [(.cmp .geq (.var 13) (.lit 0)), (.cmp .lss (.var 13) (.len 12))] 
       (.load (.tt true) (.idx (.var 12) (.var 13) 1) [.int .i64] 
       (.ite (.ite (.cmp .lss (.var 14) (.lit 0)) (.tt true) (.cmp .geq (.var 14) (.var 7)))
        (.done (.int .i64 (.lit 21)) [])
        (.again 0 [(.int .i64 (.op .add .i64 (.var 13) (.lit 1)))]))))
       (.done (.int .i64 (.lit 0)) []))))
     (.loop 0 [(.int .i64 (.lit 0))] [.int .i64] 
      (.ite (.cmp .lss (.var 12) (.len 9))
       (.need (.tt true) [(.cmp .geq (.var 12) (.lit 0)), (.cmp .lss (.var 12) (.len 9))] 
       (.load (.tt true) (.idx (.var 9) (.var 12) 1) [.int .i64] 
       (.ite (.ite (.cmp .lss (.var 13) (.lit 0)) (.tt true) (.cmp .geq (.var 13) (.var 7)))
        (.done (.int .i64 (.lit 21)) [])
        (.again 0 [(.int .i64 (.op .add .i64 (.var 12) (.lit 1)))]))))
       (.done (.int .i64 (.lit 0)) [])))))))))
  (.done (.int .i64 (.lit 20)) []))
def l39 : List (Nat × List Nat × List (Nat × Nat) × List Nat) := [(10, [58], [], [59, 60, 61, 9, 62, 63, 64, 65, 66, 67, 68, 4, 69])]
theorem e39 : ev Try.prog ⟨allF, [], l39⟩ (bodyOf Try.f39) 0 (initSt [(.agg [(.int .u8 (.var 0)), (.int .u8 (.var 1)), (.int .i64 (.var 2)), (.int .i64 (.var 3)), (.int .i64 (.var 4)), (.int .i64 (.var 5)), (.val 6)]), (.int .i64 (.var 7))] [] Try.f39.ntmps [.int .u8, .int .u8, .int .i64, .int .i64, .int .i64, .int .i64, .sl, .int .i64]) (finK Try.prog Try.f39.results []) = t39 := by kernel_rfl
theorem c39 {G : List Value} {h : H} {R : Value → List (List Value) → H → Prop} (hG : FitsL [.int .u8, .int .u8, .int .i64, .int .i64, .int .i64, .int .i64, .sl, .int .i64] G) (H : holds Try.prog R t39 G [] h) : CallsA Try.prog 39 (fun e => SV.denL G (fun k => e (k - 1000000)) [(.agg [(.int .u8 (.var 0)), (.int .u8 (.var 1)), (.int .i64 (.var 2)), (.int .i64 (.var 3)), (.int .i64 (.var 4)), (.int .i64 (.var 5)), (.val 6)]), (.int .i64 (.var 7))]) [] h R :=
  CallsA.of_ev (cf := ⟨allF, [], l39⟩) (fn := Try.f39) (c := bodyOf Try.f39) (pcs := []) Try.func39 (by rfl) callOK (by rfl) hG (by rfl) (by rw [show ([] : List (List SV)).map List.length = [] from rfl, e39]; exact H)
/-- What is left of outworker/outworkerref04.blocks. -/
def t40 : Out :=
 (.loop 0 [(.int .i64 (.lit 0))] [.int .i64] 
  (.ite (.cmp .lss (.var 4) (.len 0))
   (.need (.tt true) [(.cmp .geq (.var 4) (.lit 0)), (.cmp .lss (.var 4) (.len 0))] 
   (.load (.tt true) (.fld (.idx (.var 0) (.var 4) 5) 0) [.sl] 
   (.ite (.cmp .gtr (.len 5) (.var 3))
    (.done (.agg [(.int .i64 (.lit 9)), (.int .i64 (.var 4)), (.int .i64 (.lit (-1)))]) [])
    (.loop 1 [(.int .i64 (.lit 0))] [.int .i64] 
     (.need (.tt true) [(.cmp .geq (.var 4) (.lit 0)), (.cmp .lss (.var 4) (.len 0))] 
     (.load (.tt true) (.fld (.idx (.var 0) (.var 4) 5) 0) [.sl] 
     (.ite (.cmp .lss (.var 6) (.len 7))
      (.need (.tt true) [(.cmp .geq (.var 4) (.lit 0)), (.cmp .lss (.var 4) (.len 0))] 
      (.load (.tt true) (.fld (.idx (.var 0) (.var 4) 5) 0) [.sl] 
      (.need (.tt true) [(.cmp .geq (.var 6) (.lit 0)), (.cmp .lss (.var 6) (.len 8))] 
      (.load (.tt true) (.idx (.var 8) (.var 6) 7) [.int .u8, .int .u8, .int .i64, .int .i64, .int .i64, .int .i64, .sl] 
      (.call 45 [(.agg [(.int .u8 (.var 9)), (.int .u8 (.var 10)), (.int .i64 (.var 11)), (.int .i64 (.var 12)), (.int .i64 (.var 13)), (.int .i64 (.var 14)), (.val 15)]), (.int .i64 (.var 1)), (.int .i64 (.var 2))] [] [] [] [(false, [.int .i64])] 
      (.ite (.cmp .neq (.var 16) (.lit 0))
       (.done (.agg [(.int .i64 (.var 16)), (.int .i64 (.var 4)), (.int .i64 (.var 6))]) [])
       (.again 1 [(.int .i64 (.op .add .i64 (.var 6) (.lit 1)))])))))))
      (.need (.tt true) [(.cmp .geq (.var 4) (.lit 0)), (.cmp .lss (.var 4) (.len 0))] 
      (.load (.tt true) (.fld (.idx (.var 0) (.var 4) 5) 1) [.int .u8, .int .i64, .int .i64, .int .i64] 
      (.call 27 [(.agg [(.int .u8 (.var 8)), (.int .i64 (.var 9)), (.int .i64 (.var 10)), (.int .i64 (.var 11))]), (.int .i64 (.var 1)), (.int .i64 (.len 0)), (.int .i64 (.ite (.cmp .geq (.var 2) (.lit 0)) (.lit 23) (.lit 21)))] [] [] [] [(false, [.int .i64])] 
      (.ite (.cmp .neq (.var 12) (.lit 0))
       (.need (.tt true) [(.cmp .geq (.var 4) (.lit 0)), (.cmp .lss (.var 4) (.len 0))] 
       (.load (.tt true) (.fld (.idx (.var 0) (.var 4) 5) 0) [.sl] 
       (.done (.agg [(.int .i64 (.var 12)), (.int .i64 (.var 4)), (.int .i64 (.len 13))]) [])))
       (.again 0 [(.int .i64 (.op .add .i64 (.var 4) (.lit 1)))]))))))))))))
   (.done (.agg [(.int .i64 (.lit 0)), (.int .i64 (.lit 0)), (.int .i64 (.lit 0))]) [])))
def l40 : List (Nat × List Nat × List (Nat × Nat) × List Nat) := [(5, [10], [], [16, 17, 18, 19, 22, 23, 24, 25, 26, 27, 28, 29, 30, 31, 11, 32, 33, 34, 35, 36, 37, 38, 39, 42, 43, 44, 45, 46, 47, 48, 49, 50, 51, 52, 12, 53, 54, 55, 56, 57, 58, 40, 41, 59, 60, 61, 62, 63, 64, 65, 66, 67, 68, 13, 69, 70, 71, 72, 73, 74, 75, 76, 77, 78, 79, 20, 21]), (10, [11], [], [32, 33, 34, 35, 36, 37, 38, 39, 42, 43, 44, 45, 46, 47, 48, 49, 50, 51, 52, 12, 53, 54, 55, 56, 57, 58, 40, 41])]
theorem e40 : ev Try.prog ⟨allF, [], l40⟩ (bodyOf Try.f40) 0 (initSt [(.val 0), (.int .i64 (.var 1)), (.int .i64 (.var 2)), (.int .i64 (.var 3))] [] Try.f40.ntmps [.sl, .int .i64, .int .i64, .int .i64]) (finK Try.prog Try.f40.results []) = t40 := by kernel_rfl
theorem c40 {G : List Value} {h : H} {R : Value → List (List Value) → H → Prop} (hG : FitsL [.sl, .int .i64, .int .i64, .int .i64] G) (H : holds Try.prog R t40 G [] h) : CallsA Try.prog 40 (fun e => SV.denL G (fun k => e (k - 1000000)) [(.val 0), (.int .i64 (.var 1)), (.int .i64 (.var 2)), (.int .i64 (.var 3))]) [] h R :=
  CallsA.of_ev (cf := ⟨allF, [], l40⟩) (fn := Try.f40) (c := bodyOf Try.f40) (pcs := []) Try.func40 (by rfl) callOK (by rfl) hG (by rfl) (by rw [show ([] : List (List SV)).map List.length = [] from rfl, e40]; exact H)
/-- What is left of outworker/mach.of. -/
def t42 : Out :=
 (.ite (.ite (.cmp .eql (.var 0) (.lit 7)) (.tt true) (.cmp .eql (.var 0) (.lit 8)))
  (.ite (.cmp .eql (.var 0) (.lit 8))
   (.ite (.ite (.ite (.ite (.cmp .neq (.var 1) (.lit 0)) (.tt true) (.cmp .neq (.var 4) (.lit 0))) (.tt true) (.cmp .neq (.var 5) (.lit 0))) (.tt true) (.cmp .gtr (.len 6) (.lit 0)))
    (.done (.int .i64 (.lit 20)) [])
    (.ite (.ite (.cmp .lss (.var 2) (.lit 0)) (.tt true) (.cmp .geq (.var 2) (.var 8)))
     (.done (.int .i64 (.lit 23)) [])
     (.ite (.ite (.cmp .lss (.var 3) (.lit 0)) (.tt true) (.cmp .geq (.var 3) (.var 9)))
      (.done (.int .i64 (.lit 24)) [])
      (.done (.int .i64 (.lit 0)) []))))
   (.ite (.ite (.ite (.ite (.cmp .neq (.var 1) (.lit 0)) (.tt true) (.cmp .neq (.var 4) (.lit 0))) (.tt true) (.cmp .neq (.var 5) (.lit 0))) (.tt true) (.cmp .gtr (.len 6) (.lit 0)))
    (.done (.int .i64 (.lit 20)) [])
    (.ite (.ite (.cmp .lss (.var 3) (.lit 0)) (.tt true) (.cmp .geq (.var 3) (.var 8)))
     (.done (.int .i64 (.lit 23)) [])
     (.ite (.ite (.cmp .lss (.var 2) (.lit 0)) (.tt true) (.cmp .geq (.var 2) (.var 9)))
      (.done (.int .i64 (.lit 24)) [])
      (.done (.int .i64 (.lit 0)) [])))))
  (.alloc 46 [(.int .u8 (.var 0)), (.int .u8 (.var 1)), (.int .i64 (.var 2)), (.int .i64 (.var 3)), (.int .i64 (.var 4)), (.int .i64 (.var 5)), (.val 6)] (.lsl 1) 
  (.alloc 41 [(.val 11), (.int .u8 (.lit 1)), (.int .i64 (.lit 0)), (.int .i64 (.lit 0)), (.int .i64 (.lit 0))] (.lsl 1) 
  (.call 16 [(.agg [(.int .i64 (.lit 0)), (.int .i64 (.var 8)), (.val 12)])] [] [] [] [(true, [.int .i64, .int .i64, .int .i64])] 
  (.call 43 [(.int .i64 (.var 13))] [] [] [] [(false, [.int .i64])] 
  (.done (.int .i64 (.var 16)) []))))))
def l42 : List (Nat × List Nat × List (Nat × Nat) × List Nat) := []
theorem e42 : ev Try.prog ⟨allF, [68, 71], l42⟩ (bodyOf Try.f42) 0 (initSt [(.agg [(.int .u8 (.var 0)), (.int .u8 (.var 1)), (.int .i64 (.var 2)), (.int .i64 (.var 3)), (.int .i64 (.var 4)), (.int .i64 (.var 5)), (.val 6)]), (.agg [(.int .i64 (.var 7)), (.int .i64 (.var 8)), (.int .i64 (.var 9)), (.val 10)])] [] Try.f42.ntmps [.int .u8, .int .u8, .int .i64, .int .i64, .int .i64, .int .i64, .sl, .int .i64, .int .i64, .int .i64, .sl]) (finK Try.prog Try.f42.results []) = t42 := by kernel_rfl
theorem c42 {G : List Value} {h : H} {R : Value → List (List Value) → H → Prop} (hG : FitsL [.int .u8, .int .u8, .int .i64, .int .i64, .int .i64, .int .i64, .sl, .int .i64, .int .i64, .int .i64, .sl] G) (H : holds Try.prog R t42 G [] h) : CallsA Try.prog 42 (fun e => SV.denL G (fun k => e (k - 1000000)) [(.agg [(.int .u8 (.var 0)), (.int .u8 (.var 1)), (.int .i64 (.var 2)), (.int .i64 (.var 3)), (.int .i64 (.var 4)), (.int .i64 (.var 5)), (.val 6)]), (.agg [(.int .i64 (.var 7)), (.int .i64 (.var 8)), (.int .i64 (.var 9)), (.val 10)])]) [] h R :=
  CallsA.of_ev (cf := ⟨allF, [68, 71], l42⟩) (fn := Try.f42) (c := bodyOf Try.f42) (pcs := []) Try.func42 (by rfl) callOK (by rfl) hG (by rfl) (by rw [show ([] : List (List SV)).map List.length = [] from rfl, e42]; exact H)
/-- What is left of outworker/mach.vregs. -/
def t43 : Out :=
 (.ite (.cmp .eql (.var 0) (.lit 21))
  (.done (.int .i64 (.lit 23)) [])
  (.done (.int .i64 (.var 0)) []))
def l43 : List (Nat × List Nat × List (Nat × Nat) × List Nat) := []
theorem e43 : ev Try.prog ⟨allF, [], l43⟩ (bodyOf Try.f43) 0 (initSt [(.int .i64 (.var 0))] [] Try.f43.ntmps [.int .i64]) (finK Try.prog Try.f43.results []) = t43 := by kernel_rfl
theorem c43 {G : List Value} {h : H} {R : Value → List (List Value) → H → Prop} (hG : FitsL [.int .i64] G) (H : holds Try.prog R t43 G [] h) : CallsA Try.prog 43 (fun e => SV.denL G (fun k => e (k - 1000000)) [(.int .i64 (.var 0))]) [] h R :=
  CallsA.of_ev (cf := ⟨allF, [], l43⟩) (fn := Try.f43) (c := bodyOf Try.f43) (pcs := []) Try.func43 (by rfl) callOK (by rfl) hG (by rfl) (by rw [show ([] : List (List SV)).map List.length = [] from rfl, e43]; exact H)
/-- What is left of outworker/ir.plain. -/
def t44 : Out :=
 (.ite (.cmp .eql (.var 0) (.lit 1))
  (.done (.bool (.ite (.ite (.ite (.ite (.ite (.cmp .eql (.var 1) (.lit 0)) (.cmp .eql (.var 2) (.var 2)) (.tt false)) (.cmp .eql (.var 3) (.lit 0)) (.tt false)) (.cmp .eql (.var 4) (.lit 0)) (.tt false)) (.cmp .eql (.var 5) (.var 5)) (.tt false)) (.ite (.cmp .eql (.len 6) (.lit 0)) (.tt true) (.cmp .eql (.var 0) (.lit 6))) (.tt false))) [])
  (.ite (.ite (.cmp .eql (.var 0) (.lit 2)) (.cmp .eql (.var 0) (.lit 2)) (.cmp .eql (.var 0) (.lit 4)))
   (.done (.bool (.ite (.ite (.ite (.ite (.ite (.cmp .eql (.var 1) (.lit 0)) (.cmp .eql (.var 2) (.var 2)) (.tt false)) (.cmp .eql (.var 3) (.var 3)) (.tt false)) (.cmp .eql (.var 4) (.lit 0)) (.tt false)) (.cmp .eql (.var 5) (.lit 0)) (.tt false)) (.ite (.cmp .eql (.len 6) (.lit 0)) (.tt true) (.cmp .eql (.var 0) (.lit 6))) (.tt false))) [])
   (.ite (.cmp .eql (.var 0) (.lit 3))
    (.done (.bool (.ite (.ite (.ite (.ite (.ite (.cmp .eql (.var 1) (.var 1)) (.cmp .eql (.var 2) (.var 2)) (.tt false)) (.cmp .eql (.var 3) (.var 3)) (.tt false)) (.cmp .eql (.var 4) (.var 4)) (.tt false)) (.cmp .eql (.var 5) (.lit 0)) (.tt false)) (.ite (.cmp .eql (.len 6) (.lit 0)) (.tt true) (.cmp .eql (.var 0) (.lit 6))) (.tt false))) [])
    (.ite (.cmp .eql (.var 0) (.lit 5))
     (.done (.bool (.ite (.ite (.ite (.ite (.ite (.cmp .eql (.var 1) (.lit 0)) (.cmp .eql (.var 2) (.lit 0)) (.tt false)) (.cmp .eql (.var 3) (.var 3)) (.tt false)) (.cmp .eql (.var 4) (.var 4)) (.tt false)) (.cmp .eql (.var 5) (.lit 0)) (.tt false)) (.ite (.cmp .eql (.len 6) (.lit 0)) (.tt true) (.cmp .eql (.var 0) (.lit 6))) (.tt false))) [])
     (.ite (.cmp .eql (.var 0) (.lit 6))
      (.done (.bool (.ite (.ite (.ite (.ite (.ite (.cmp .eql (.var 1) (.lit 0)) (.cmp .eql (.var 2) (.var 2)) (.tt false)) (.cmp .eql (.var 3) (.lit 0)) (.tt false)) (.cmp .eql (.var 4) (.lit 0)) (.tt false)) (.cmp .eql (.var 5) (.var 5)) (.tt false)) (.ite (.cmp .eql (.len 6) (.lit 0)) (.tt true) (.cmp .eql (.var 0) (.lit 6))) (.tt false))) [])
      (.done (.bool (.ite (.ite (.ite (.ite (.ite (.cmp .eql (.var 1) (.lit 0)) (.cmp .eql (.var 2) (.lit 0)) (.tt false)) (.cmp .eql (.var 3) (.lit 0)) (.tt false)) (.cmp .eql (.var 4) (.lit 0)) (.tt false)) (.cmp .eql (.var 5) (.lit 0)) (.tt false)) (.ite (.cmp .eql (.len 6) (.lit 0)) (.tt true) (.cmp .eql (.var 0) (.lit 6))) (.tt false))) []))))))
def l44 : List (Nat × List Nat × List (Nat × Nat) × List Nat) := []
theorem e44 : ev Try.prog ⟨allF, [], l44⟩ (bodyOf Try.f44) 0 (initSt [(.agg [(.int .u8 (.var 0)), (.int .u8 (.var 1)), (.int .i64 (.var 2)), (.int .i64 (.var 3)), (.int .i64 (.var 4)), (.int .i64 (.var 5)), (.val 6)])] [] Try.f44.ntmps [.int .u8, .int .u8, .int .i64, .int .i64, .int .i64, .int .i64, .sl]) (finK Try.prog Try.f44.results []) = t44 := by kernel_rfl
theorem c44 {G : List Value} {h : H} {R : Value → List (List Value) → H → Prop} (hG : FitsL [.int .u8, .int .u8, .int .i64, .int .i64, .int .i64, .int .i64, .sl] G) (H : holds Try.prog R t44 G [] h) : CallsA Try.prog 44 (fun e => SV.denL G (fun k => e (k - 1000000)) [(.agg [(.int .u8 (.var 0)), (.int .u8 (.var 1)), (.int .i64 (.var 2)), (.int .i64 (.var 3)), (.int .i64 (.var 4)), (.int .i64 (.var 5)), (.val 6)])]) [] h R :=
  CallsA.of_ev (cf := ⟨allF, [], l44⟩) (fn := Try.f44) (c := bodyOf Try.f44) (pcs := []) Try.func44 (by rfl) callOK (by rfl) hG (by rfl) (by rw [show ([] : List (List SV)).map List.length = [] from rfl, e44]; exact H)
/-- What is left of outworker/outworkerref04.zero. -/
def t46 : Out :=
 (.loop 0 [(.int .i64 (.lit 0))] [.int .i64] 
  (.ite (.cmp .lss (.var 8) (.lit 6))
   (.need (.tt true) [(.cmp .geq (.var 8) (.lit 0)), (.cmp .lss (.var 8) (.slen (.str ⟨#[79, 68, 65, 66, 78, 82]⟩)))] 
   (.loop 1 [(.bool (.tt false)), (.int .i64 (.lit 0))] [.bool, .int .i64] 
    (.ite (.cmp .lss (.var 10) (.slen (.var 7)))
     (.need (.not (.var 9)) [(.cmp .geq (.var 10) (.lit 0)), (.cmp .lss (.var 10) (.slen (.var 7)))] 
     (.again 1 [(.bool (.ite (.var 9) (.tt true) (.cmp .eql (.byte (.var 7) (.var 10)) (.byte (.str ⟨#[79, 68, 65, 66, 78, 82]⟩) (.var 8))))), (.int .i64 (.op .add .i64 (.var 10) (.lit 1)))]))
     (.alloc 4 [(.bool (.cmp .neq (.var 1) (.lit 0))), (.bool (.cmp .neq (.var 2) (.lit 0))), (.bool (.cmp .neq (.var 3) (.lit 0))), (.bool (.cmp .neq (.var 4) (.lit 0))), (.bool (.cmp .neq (.var 5) (.lit 0))), (.bool (.cmp .gtr (.len 6) (.lit 0)))] (.lsl 6) 
     (.need (.tt true) [(.cmp .geq (.var 8) (.lit 0)), (.cmp .lss (.var 8) (.len 11))] 
     (.load (.tt true) (.idx (.var 11) (.var 8) 1) [.bool] 
     (.ite (.ite (.var 12) (.not (.var 9)) (.tt false))
      (.done (.bool (.tt false)) [])
      (.again 0 [(.int .i64 (.op .add .i64 (.var 8) (.lit 1)))]))))))))
   (.done (.bool (.tt true)) [])))
def l46 : List (Nat × List Nat × List (Nat × Nat) × List Nat) := [(2, [5], [], [10, 11, 14, 15, 6, 7, 8, 16, 17, 18, 19, 22, 23, 24, 25, 26, 27, 28, 29, 20, 21, 30, 31, 32, 33, 34, 35, 36, 37, 38, 39, 40, 41, 42, 43, 44, 45, 46, 47, 48, 49, 50, 51, 52, 9, 53, 54, 55, 56, 57, 4, 12, 13]), (7, [7, 8], [], [16, 17, 18, 19, 22, 23, 24, 25, 26, 27, 28, 29, 20, 21])]
theorem e46 : ev Try.prog ⟨allF, [49], l46⟩ (bodyOf Try.f46) 0 (initSt [(.agg [(.int .u8 (.var 0)), (.int .u8 (.var 1)), (.int .i64 (.var 2)), (.int .i64 (.var 3)), (.int .i64 (.var 4)), (.int .i64 (.var 5)), (.val 6)]), (.str (.var 7))] [] Try.f46.ntmps [.int .u8, .int .u8, .int .i64, .int .i64, .int .i64, .int .i64, .sl, .str]) (finK Try.prog Try.f46.results []) = t46 := by kernel_rfl
theorem c46 {G : List Value} {h : H} {R : Value → List (List Value) → H → Prop} (hG : FitsL [.int .u8, .int .u8, .int .i64, .int .i64, .int .i64, .int .i64, .sl, .str] G) (H : holds Try.prog R t46 G [] h) : CallsA Try.prog 46 (fun e => SV.denL G (fun k => e (k - 1000000)) [(.agg [(.int .u8 (.var 0)), (.int .u8 (.var 1)), (.int .i64 (.var 2)), (.int .i64 (.var 3)), (.int .i64 (.var 4)), (.int .i64 (.var 5)), (.val 6)]), (.str (.var 7))]) [] h R :=
  CallsA.of_ev (cf := ⟨allF, [49], l46⟩) (fn := Try.f46) (c := bodyOf Try.f46) (pcs := []) Try.func46 (by rfl) callOK (by rfl) hG (by rfl) (by rw [show ([] : List (List SV)).map List.length = [] from rfl, e46]; exact H)
/-- What is left of outworker/outworkerref04.names. -/
def t47 : Out :=
 (.alloc 9 [(.str (.str ⟨#[]⟩)), (.str (.str ⟨#[68, 78]⟩)), (.str (.str ⟨#[68, 65]⟩)), (.str (.str ⟨#[79, 68, 65, 66]⟩)), (.str (.str ⟨#[68, 65]⟩)), (.str (.str ⟨#[65, 66]⟩)), (.str (.str ⟨#[68, 78, 82]⟩)), (.str (.str ⟨#[68, 65]⟩)), (.str (.str ⟨#[68, 65]⟩))] (.lsl 9) 
 (.need (.tt true) [(.cmp .geq (.var 0) (.lit 0)), (.cmp .lss (.var 0) (.len 1))] 
 (.load (.tt true) (.idx (.var 1) (.var 0) 1) [.str] 
 (.done (.str (.var 2)) []))))
def l47 : List (Nat × List Nat × List (Nat × Nat) × List Nat) := []
theorem e47 : ev Try.prog ⟨allF, [3], l47⟩ (bodyOf Try.f47) 0 (initSt [(.int .u8 (.var 0))] [] Try.f47.ntmps [.int .u8]) (finK Try.prog Try.f47.results []) = t47 := by kernel_rfl
theorem c47 {G : List Value} {h : H} {R : Value → List (List Value) → H → Prop} (hG : FitsL [.int .u8] G) (H : holds Try.prog R t47 G [] h) : CallsA Try.prog 47 (fun e => SV.denL G (fun k => e (k - 1000000)) [(.int .u8 (.var 0))]) [] h R :=
  CallsA.of_ev (cf := ⟨allF, [3], l47⟩) (fn := Try.f47) (c := bodyOf Try.f47) (pcs := []) Try.func47 (by rfl) callOK (by rfl) hG (by rfl) (by rw [show ([] : List (List SV)).map List.length = [] from rfl, e47]; exact H)
end Go.Proofs.Ytibdneedfopcoaa
