/-
  What the evaluator leaves of the functions of this seat (trees, printed by a program of ours), and their contracts from it. Conditions: none.
-/
import Derived.Test.YtibdneedfopcoaaR1Tr
set_option linter.unusedVariables false
set_option linter.unusedSimpArgs false
namespace Go.Proofs.Ytibdneedfopcoaa
open Go

/-- What is left of outworker/outworkerref04.Ins. -/
def t45 : Out :=
 (.ite (.not (.ite (.cmp .lss (.var 0) (.lit 1)) (.tt true) (.cmp .gtr (.var 0) (.ite (.cmp .geq (.var 8) (.lit 0)) (.lit 8) (.lit 6)))))
  (.call 47 [(.int .u8 (.var 0))] [] [] [] [(false, [.str])] 
  (.call 46 [(.agg [(.int .u8 (.var 0)), (.int .u8 (.var 1)), (.int .i64 (.var 2)), (.int .i64 (.var 3)), (.int .i64 (.var 4)), (.int .i64 (.var 5)), (.val 6)]), (.str (.var 9))] [] [] [] [(false, [.bool])] 
  (.ite (.ite (.not (.var 10)) (.tt true) (.ite (.cmp .eql (.var 0) (.lit 3)) (.ite (.cmp .lss (.var 1) (.lit 1)) (.tt true) (.cmp .gtr (.var 1) (.lit 7))) (.tt false)))
   (.done (.int .i64 (.lit 20)) [])
   (.ite (.cmp .gtr (.len 6) (.lit 3))
    (.done (.int .i64 (.lit 25)) [])
    (.alloc 3 [] (.lsl 0) 
    (.call 21 [(.agg [(.int .u8 (.var 0)), (.int .u8 (.var 1)), (.int .i64 (.var 2)), (.int .i64 (.var 3)), (.int .i64 (.var 4)), (.int .i64 (.var 5)), (.val 6)])] [] [] [] [(false, [.sl])] 
    (.app 3 1 8 (.val 11) (.sl (.val 12)) 
    (.call 24 [(.int .u8 (.var 0))] [] [] [] [(false, [.bool])] 
    (.ite (.var 14)
     (.app 3 1 8 (.val 13) (.cells [(.int .i64 (.var 2))] 1) 
     (.loop 0 [(.int .i64 (.lit 0))] [.int .i64] 
      (.ite (.cmp .lss (.var 16) (.len 15))
       (.need (.tt true) [(.cmp .geq (.var 16) (.lit 0)), (.cmp .lss (.var 16) (.len 15))] 
       (.load (.tt true) (.idx (.var 15) (.var 16) 1) [.int .i64] 
       (.need (.not (.cmp .lss (.var 17) (.lit 0))) [(.cmp .geq (.var 16) (.lit 0)), (.cmp .lss (.var 16) (.len 15))] 
       (.load (.not (.cmp .lss (.var 17) (.lit 0))) (.idx (.var 15) (.var 16) 1) [.int .i64] 
       (.ite (.ite (.cmp .lss (.var 17) (.lit 0)) (.tt true) (.cmp .geq (.var 18) (.var 7)))
        (.ite (.cmp .geq (.var 8) (.lit 0))
         (.done (.int .i64 (.lit 23)) [])
         (.done (.int .i64 (.lit 21)) []))
        (.again 0 [(.int .i64 (.op .add .i64 (.var 16) (.lit 1)))]))))))
       (.ite (.ite (.ite (.cmp .eql (.var 0) (.lit 7)) (.ite (.cmp .lss (.var 2) (.lit 0)) (.tt true) (.cmp .geq (.var 2) (.var 8))) (.tt false)) (.tt true) (.ite (.cmp .eql (.var 0) (.lit 8)) (.ite (.cmp .lss (.var 3) (.lit 0)) (.tt true) (.cmp .geq (.var 3) (.var 8))) (.tt false)))
        (.done (.int .i64 (.lit 24)) [])
        (.done (.int .i64 (.lit 0)) [])))))
     (.loop 0 [(.int .i64 (.lit 0))] [.int .i64] 
      (.ite (.cmp .lss (.var 15) (.len 13))
       (.need (.tt true) [(.cmp .geq (.var 15) (.lit 0)), (.cmp .lss (.var 15) (.len 13))] 
       (.load (.tt true) (.idx (.var 13) (.var 15) 1) [.int .i64] 
       (.need (.not (.cmp .lss (.var 16) (.lit 0))) [(.cmp .geq (.var 15) (.lit 0)), (.cmp .lss (.var 15) (.len 13))] 
       (.load (.not (.cmp .lss (.var 16) (.lit 0))) (.idx (.var 13) (.var 15) 1) [.int .i64] 
       (.ite (.ite (.cmp .lss (.var 16) (.lit 0)) (.tt true) (.cmp .geq (.var 17) (.var 7)))
        (.ite (.cmp .geq (.var 8) (.lit 0))
         (.done (.int .i64 (.lit 23)) [])
         (.done (.int .i64 (.lit 21)) []))
        (.again 0 [(.int .i64 (.op .add .i64 (.var 15) (.lit 1)))]))))))
       (.ite (.ite (.ite (.cmp .eql (.var 0) (.lit 7)) (.ite (.cmp .lss (.var 2) (.lit 0)) (.tt true) (.cmp .geq (.var 2) (.var 8))) (.tt false)) (.tt true) (.ite (.cmp .eql (.var 0) (.lit 8)) (.ite (.cmp .lss (.var 3) (.lit 0)) (.tt true) (.cmp .geq (.var 3) (.var 8))) (.tt false)))
        (.done (.int .i64 (.lit 24)) [])
        (.done (.int .i64 (.lit 0)) [])))))))))))))
  (.done (.int .i64 (.lit 20)) []))
def l45 : List (Nat × List Nat × List (Nat × Nat) × List Nat) := [(12, [9], [], [60, 61, 62, 63, 66, 67, 68, 69, 70, 71, 72, 73, 74, 75, 76, 77, 78, 79, 80, 6, 64, 65])]
theorem e45 : ev Try.prog ⟨allF, [48], l45⟩ (bodyOf Try.f45) 0 (initSt [(.agg [(.int .u8 (.var 0)), (.int .u8 (.var 1)), (.int .i64 (.var 2)), (.int .i64 (.var 3)), (.int .i64 (.var 4)), (.int .i64 (.var 5)), (.val 6)]), (.int .i64 (.var 7)), (.int .i64 (.var 8))] [] Try.f45.ntmps [.int .u8, .int .u8, .int .i64, .int .i64, .int .i64, .int .i64, .sl, .int .i64, .int .i64]) (finK Try.prog Try.f45.results []) = t45 := by kernel_rfl
theorem c45 {G : List Value} {h : H} {R : Value → List (List Value) → H → Prop} (hG : FitsL [.int .u8, .int .u8, .int .i64, .int .i64, .int .i64, .int .i64, .sl, .int .i64, .int .i64] G) (H : holds Try.prog R t45 G [] h) : CallsA Try.prog 45 (fun e => SV.denL G (fun k => e (k - 1000000)) [(.agg [(.int .u8 (.var 0)), (.int .u8 (.var 1)), (.int .i64 (.var 2)), (.int .i64 (.var 3)), (.int .i64 (.var 4)), (.int .i64 (.var 5)), (.val 6)]), (.int .i64 (.var 7)), (.int .i64 (.var 8))]) ([].map (SV.denL G dE)) h R :=
  CallsA.of_ev (cf := ⟨allF, [48], l45⟩) (fn := Try.f45) (c := bodyOf Try.f45) (pcs := []) Try.func45 (by rfl) callOK (by rfl) hG (by rfl) (by rw [show ([] : List (List SV)).map List.length = [] from rfl, e45]; exact H)
end Go.Proofs.Ytibdneedfopcoaa
