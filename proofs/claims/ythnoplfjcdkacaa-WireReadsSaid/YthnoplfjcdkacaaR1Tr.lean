/-
  What the evaluator leaves of the functions of this seat (trees, printed by a program of ours), and their contracts from it. Conditions: none.
-/
import Derived.Test.YthnoplfjcdkacaaEc
import Derived.Test.YthnoplfjcdkacaaProg
set_option linter.unusedVariables false
set_option linter.unusedSimpArgs false
namespace Go.Proofs.Ythnoplfjcdkacaa
open Go

def bodyOf (fn : Func) : Code := match fn.body with | some c => c | none => .seq (.exit 0) (.exit 0)
def allF : List Nat := [2, 3, 4, 5, 6, 7, 8, 9, 10, 11, 12, 13, 14, 15, 16, 17, 18, 19, 20, 21, 22, 23, 24, 25, 26, 27, 28, 29, 30, 31, 32, 33, 34, 35, 36, 37, 38, 39, 40, 41, 42, 43, 44, 45, 46, 47, 48, 49, 50, 51, 52, 53, 54, 55, 56, 57, 58, 59, 60, 61, 62, 63, 64, 65, 66, 67, 68, 69, 70, 71, 72, 73, 74, 75, 76, 77, 78, 79, 80, 81, 82, 83]
theorem callOK : CallOK Try.prog allF := by
  intro f hf args w
  simp only [allF, List.mem_cons, List.not_mem_nil, or_false] at hf
  rcases hf with rfl | rfl | rfl | rfl | rfl | rfl | rfl | rfl | rfl | rfl | rfl | rfl | rfl | rfl | rfl | rfl | rfl | rfl | rfl | rfl | rfl | rfl | rfl | rfl | rfl | rfl | rfl | rfl | rfl | rfl | rfl | rfl | rfl | rfl | rfl | rfl | rfl | rfl | rfl | rfl | rfl | rfl | rfl | rfl | rfl | rfl | rfl | rfl | rfl | rfl | rfl | rfl | rfl | rfl | rfl | rfl | rfl | rfl | rfl | rfl | rfl | rfl | rfl | rfl | rfl | rfl | rfl | rfl | rfl | rfl | rfl | rfl | rfl | rfl | rfl | rfl | rfl | rfl | rfl | rfl | rfl | rfl
  · exact Try.call2 args w
  · exact Try.call3 args w
  · exact Try.call4 args w
  · exact Try.call5 args w
  · exact Try.call6 args w
  · exact Try.call7 args w
  · exact Try.call8 args w
  · exact Try.call9 args w
  · exact Try.call10 args w
  · exact Try.call11 args w
  · exact Try.call12 args w
  · exact Try.call13 args w
  · exact Try.call14 args w
  · exact Try.call15 args w
  · exact Try.call16 args w
  · exact Try.call17 args w
  · exact Try.call18 args w
  · exact Try.call19 args w
  · exact Try.call20 args w
  · exact Try.call21 args w
  · exact Try.call22 args w
  · exact Try.call23 args w
  · exact Try.call24 args w
  · exact Try.call25 args w
  · exact Try.call26 args w
  · exact Try.call27 args w
  · exact Try.call28 args w
  · exact Try.call29 args w
  · exact Try.call30 args w
  · exact Try.call31 args w
  · exact Try.call32 args w
  · exact Try.call33 args w
  · exact Try.call34 args w
  · exact Try.call35 args w
  · exact Try.call36 args w
  · exact Try.call37 args w
  · exact Try.call38 args w
  · exact Try.call39 args w
  · exact Try.call40 args w
  · exact Try.call41 args w
  · exact Try.call42 args w
  · exact Try.call43 args w
  · exact Try.call44 args w
  · exact Try.call45 args w
  · exact Try.call46 args w
  · exact Try.call47 args w
  · exact Try.call48 args w
  · exact Try.call49 args w
  · exact Try.call50 args w
  · exact Try.call51 args w
  · exact Try.call52 args w
  · exact Try.call53 args w
  · exact Try.call54 args w
  · exact Try.call55 args w
  · exact Try.call56 args w
  · exact Try.call57 args w
  · exact Try.call58 args w
  · exact Try.call59 args w
  · exact Try.call60 args w
  · exact Try.call61 args w
  · exact Try.call62 args w
  · exact Try.call63 args w
  · exact Try.call64 args w
  · exact Try.call65 args w
  · exact Try.call66 args w
  · exact Try.call67 args w
  · exact Try.call68 args w
  · exact Try.call69 args w
  · exact Try.call70 args w
  · exact Try.call71 args w
  · exact Try.call72 args w
  · exact Try.call73 args w
  · exact Try.call74 args w
  · exact Try.call75 args w
  · exact Try.call76 args w
  · exact Try.call77 args w
  · exact Try.call78 args w
  · exact Try.call79 args w
  · exact Try.call80 args w
  · exact Try.call81 args w
  · exact Try.call82 args w
  · exact Try.call83 args w
/-- What is left of outworker/outworkerlaw08.WireFuncs. -/
def t3 : Out :=
 (.call 10 [] [] [] [] [(false, [.bool])] 
 (.ite (.not (.var 11))
  (.done (.bool (.tt false)) [])
  (.call 11 [(.val 2)] [] [] [] [(false, [.bool])] 
  (.ite (.var 12)
   (.done (.bool (.tt true)) [])
   (.call 12 [(.agg [(.int .u8 (.var 3)), (.int .u8 (.var 4)), (.int .u8 (.var 5)), (.val 6)])] [] [] [] [(true, [.int .i64, .int .i64, .sl])] 
   (.call 13 [(.val 15), (.int .u8 (.var 7)), (.int .u8 (.var 8)), (.int .u8 (.var 9)), (.int .i64 (.var 10))] [] [] [] [] 
   (.call 12 [(.agg [(.int .u8 (.var 3)), (.int .u8 (.var 4)), (.int .u8 (.var 5)), (.val 6)])] [] [] [] [(true, [.int .i64, .int .i64, .sl])] 
   (.alloc 24 [(.int .i64 (.var 0)), (.int .i64 (.var 1)), (.val 2), (.int .i64 (.var 13)), (.int .i64 (.var 14)), (.val 15), (.int .i64 (.var 16)), (.int .i64 (.var 17)), (.val 18)] (.lsl 3) 
   (.loop 0 [(.int .i64 (.lit 0))] [.int .i64] 
    (.ite (.cmp .lss (.var 20) (.len 19))
     (.need (.tt true) [(.cmp .geq (.var 20) (.lit 0)), (.cmp .lss (.var 20) (.len 19))] 
     (.load (.tt true) (.idx (.var 19) (.var 20) 3) [.int .i64, .int .i64, .sl] 
     (.call 14 [(.agg [(.int .i64 (.var 21)), (.int .i64 (.var 22)), (.val 23)])] [] [] [] [(false, [.sl]), (false, [.int .i64])] 
     (.call 15 [(.agg [(.int .i64 (.var 21)), (.int .i64 (.var 22)), (.val 23)])] [] [] [] [(true, [.int .i64, .int .i64, .int .i64])] 
     (.ite (.cmp .neq (.var 26) (.lit 0))
      (.ite (.ite (.cmp .neq (.var 25) (.lit 30)) (.tt true) (.cmp .gtr (.len 24) (.lit 0)))
       (.done (.bool (.tt false)) [])
       (.again 0 [(.int .i64 (.op .add .i64 (.var 20) (.lit 1)))]))
      (.both 
       (.ite (.not (.cmp .neq (.var 25) (.lit 0)))
        (.bstr (.val 24) 
        (.call 16 [(.agg [(.int .i64 (.var 21)), (.int .i64 (.var 22)), (.val 23)])] [] [] [] [(false, [.sl])] 
        (.bstr (.val 30) 
        (.ite (.not (.seq (.var 29) (.var 31)))
         (.done (.bool (.tt false)) [])
         (.again 0 [(.int .i64 (.op .add .i64 (.var 20) (.lit 1)))])))))
        (.done (.bool (.tt false)) [])) 
       (.ite (.not (.cmp .neq (.var 25) (.lit 0)))
        (.call 16 [(.agg [(.int .i64 (.var 21)), (.int .i64 (.var 22)), (.val 23)])] [] [] [] [(false, [.sl])] 
        (.both 
         (.bstr (.val 24) 
         (.bstr (.val 29) 
         (.ite (.not (.seq (.var 30) (.var 31)))
          (.done (.bool (.tt false)) [])
          (.again 0 [(.int .i64 (.op .add .i64 (.var 20) (.lit 1)))])))) 
         (.bstr (.val 29) 
         (.bstr (.val 24) 
         (.ite (.not (.seq (.var 31) (.var 30)))
          (.done (.bool (.tt false)) [])
          (.again 0 [(.int .i64 (.op .add .i64 (.var 20) (.lit 1)))]))))))
        (.done (.bool (.tt false)) []))))))))
     (.done (.bool (.tt true)) [])))))))))))
def l3 : List (Nat × List Nat × List (Nat × Nat) × List Nat) := [(8, [38], [], [39, 40, 41, 15, 43, 44, 42, 45, 46, 16, 17, 47, 48, 49, 50, 51, 52, 53, 54, 55, 56, 57, 12, 58, 59, 60, 61, 62, 63, 64, 65, 66, 67, 68])]
theorem e3 : ev Try.prog ⟨allF, [36], l3⟩ (bodyOf Try.f3) 0 (initSt [(.agg [(.int .i64 (.var 0)), (.int .i64 (.var 1)), (.val 2)]), (.agg [(.int .u8 (.var 3)), (.int .u8 (.var 4)), (.int .u8 (.var 5)), (.val 6)]), (.int .u8 (.var 7)), (.int .u8 (.var 8)), (.int .u8 (.var 9)), (.int .i64 (.var 10))] [] Try.f3.ntmps [.int .i64, .int .i64, .sl, .int .u8, .int .u8, .int .u8, .sl, .int .u8, .int .u8, .int .u8, .int .i64]) (finK Try.prog Try.f3.results []) = t3 := by kernel_rfl
theorem c3 {G : List Value} {h : H} {R : Value → List (List Value) → H → Prop} (hG : FitsL [.int .i64, .int .i64, .sl, .int .u8, .int .u8, .int .u8, .sl, .int .u8, .int .u8, .int .u8, .int .i64] G) (H : holds Try.prog R t3 G [] h) : CallsA Try.prog 3 (fun e => SV.denL G (fun k => e (k - 1000000)) [(.agg [(.int .i64 (.var 0)), (.int .i64 (.var 1)), (.val 2)]), (.agg [(.int .u8 (.var 3)), (.int .u8 (.var 4)), (.int .u8 (.var 5)), (.val 6)]), (.int .u8 (.var 7)), (.int .u8 (.var 8)), (.int .u8 (.var 9)), (.int .i64 (.var 10))]) ([].map (SV.denL G dE)) h R :=
  CallsA.of_ev (cf := ⟨allF, [36], l3⟩) (fn := Try.f3) (c := bodyOf Try.f3) (pcs := []) Try.func3 (by rfl) callOK (by rfl) hG (by rfl) (by rw [show ([] : List (List SV)).map List.length = [] from rfl, e3]; exact H)
/-- What is left of outworker/outworkerlaw08.WireCodes. -/
def t5 : Out :=
 (.call 10 [] [] [] [] [(false, [.bool])] 
 (.ite (.not (.var 13))
  (.done (.bool (.tt false)) [])
  (.call 11 [(.val 3)] [] [] [] [(false, [.bool])] 
  (.ite (.var 14)
   (.done (.bool (.tt true)) [])
   (.call 18 [(.agg [(.int .u8 (.var 4)), (.int .u8 (.var 5)), (.int .u8 (.var 6)), (.val 7)]), (.int .u8 (.var 9)), (.int .u8 (.var 10)), (.val 8)] [] [] [] [(true, [.int .i64, .int .i64, .int .i64, .sl])] 
   (.call 13 [(.val 18), (.int .u8 (.var 9)), (.int .u8 (.var 10)), (.int .u8 (.var 11)), (.int .i64 (.var 12))] [] [] [] [] 
   (.call 18 [(.agg [(.int .u8 (.var 4)), (.int .u8 (.var 5)), (.int .u8 (.var 6)), (.val 7)]), (.int .u8 (.var 9)), (.int .u8 (.var 10)), (.val 8)] [] [] [] [(true, [.int .i64, .int .i64, .int .i64, .sl])] 
   (.alloc 44 [(.int .i64 (.var 0)), (.int .i64 (.var 1)), (.int .i64 (.var 2)), (.val 3), (.int .i64 (.var 15)), (.int .i64 (.var 16)), (.int .i64 (.var 17)), (.val 18), (.int .i64 (.var 19)), (.int .i64 (.var 20)), (.int .i64 (.var 21)), (.val 22)] (.lsl 3) 
   (.loop 0 [(.int .i64 (.lit 0))] [.int .i64] 
    (.ite (.cmp .lss (.var 24) (.len 23))
     (.need (.tt true) [(.cmp .geq (.var 24) (.lit 0)), (.cmp .lss (.var 24) (.len 23))] 
     (.load (.tt true) (.idx (.var 23) (.var 24) 4) [.int .i64, .int .i64, .int .i64, .sl] 
     (.call 19 [(.agg [(.int .i64 (.var 25)), (.int .i64 (.var 26)), (.int .i64 (.var 27)), (.val 28)])] [] [] [] [(false, [.sl]), (false, [.int .i64])] 
     (.call 20 [(.agg [(.int .i64 (.var 25)), (.int .i64 (.var 26)), (.int .i64 (.var 27)), (.val 28)])] [] [] [] [(true, [.int .i64, .int .i64, .int .i64])] 
     (.ite (.cmp .neq (.var 31) (.lit 0))
      (.ite (.ite (.cmp .neq (.var 30) (.lit 30)) (.tt true) (.cmp .gtr (.len 29) (.lit 0)))
       (.done (.bool (.tt false)) [])
       (.again 0 [(.int .i64 (.op .add .i64 (.var 24) (.lit 1)))]))
      (.both 
       (.ite (.not (.cmp .neq (.var 30) (.lit 0)))
        (.bstr (.val 29) 
        (.call 21 [(.agg [(.int .i64 (.var 25)), (.int .i64 (.var 26)), (.int .i64 (.var 27)), (.val 28)])] [] [] [] [(false, [.sl])] 
        (.bstr (.val 35) 
        (.ite (.not (.seq (.var 34) (.var 36)))
         (.done (.bool (.tt false)) [])
         (.again 0 [(.int .i64 (.op .add .i64 (.var 24) (.lit 1)))])))))
        (.done (.bool (.tt false)) [])) 
       (.ite (.not (.cmp .neq (.var 30) (.lit 0)))
        (.call 21 [(.agg [(.int .i64 (.var 25)), (.int .i64 (.var 26)), (.int .i64 (.var 27)), (.val 28)])] [] [] [] [(false, [.sl])] 
        (.both 
         (.bstr (.val 29) 
         (.bstr (.val 34) 
         (.ite (.not (.seq (.var 35) (.var 36)))
          (.done (.bool (.tt false)) [])
          (.again 0 [(.int .i64 (.op .add .i64 (.var 24) (.lit 1)))])))) 
         (.bstr (.val 34) 
         (.bstr (.val 29) 
         (.ite (.not (.seq (.var 36) (.var 35)))
          (.done (.bool (.tt false)) [])
          (.again 0 [(.int .i64 (.op .add .i64 (.var 24) (.lit 1)))]))))))
        (.done (.bool (.tt false)) []))))))))
     (.done (.bool (.tt true)) [])))))))))))
def l5 : List (Nat × List Nat × List (Nat × Nat) × List Nat) := [(8, [46], [], [47, 48, 49, 17, 51, 52, 50, 53, 54, 18, 19, 55, 56, 57, 58, 59, 60, 61, 62, 63, 64, 65, 14, 66, 67, 68, 69, 70, 71, 72, 73, 74, 75, 76])]
theorem e5 : ev Try.prog ⟨allF, [44], l5⟩ (bodyOf Try.f5) 0 (initSt [(.agg [(.int .i64 (.var 0)), (.int .i64 (.var 1)), (.int .i64 (.var 2)), (.val 3)]), (.agg [(.int .u8 (.var 4)), (.int .u8 (.var 5)), (.int .u8 (.var 6)), (.val 7)]), (.val 8), (.int .u8 (.var 9)), (.int .u8 (.var 10)), (.int .u8 (.var 11)), (.int .i64 (.var 12))] [] Try.f5.ntmps [.int .i64, .int .i64, .int .i64, .sl, .int .u8, .int .u8, .int .u8, .sl, .sl, .int .u8, .int .u8, .int .u8, .int .i64]) (finK Try.prog Try.f5.results []) = t5 := by kernel_rfl
theorem c5 {G : List Value} {h : H} {R : Value → List (List Value) → H → Prop} (hG : FitsL [.int .i64, .int .i64, .int .i64, .sl, .int .u8, .int .u8, .int .u8, .sl, .sl, .int .u8, .int .u8, .int .u8, .int .i64] G) (H : holds Try.prog R t5 G [] h) : CallsA Try.prog 5 (fun e => SV.denL G (fun k => e (k - 1000000)) [(.agg [(.int .i64 (.var 0)), (.int .i64 (.var 1)), (.int .i64 (.var 2)), (.val 3)]), (.agg [(.int .u8 (.var 4)), (.int .u8 (.var 5)), (.int .u8 (.var 6)), (.val 7)]), (.val 8), (.int .u8 (.var 9)), (.int .u8 (.var 10)), (.int .u8 (.var 11)), (.int .i64 (.var 12))]) ([].map (SV.denL G dE)) h R :=
  CallsA.of_ev (cf := ⟨allF, [44], l5⟩) (fn := Try.f5) (c := bodyOf Try.f5) (pcs := []) Try.func5 (by rfl) callOK (by rfl) hG (by rfl) (by rw [show ([] : List (List SV)).map List.length = [] from rfl, e5]; exact H)
/-- What is left of outworker/outworkerlaw08.Awake. -/
def t10 : Out :=
 (.alloc 83 [(.cst (.slice none 0 0)), (.int .u8 (.lit 3)), (.int .i64 (.lit 0)), (.int .i64 (.lit 0)), (.int .i64 (.lit 0))] (.lsl 1) 
 (.call 14 [(.agg [(.int .i64 (.lit 0)), (.int .i64 (.lit 1)), (.val 0)])] [] [] [] [(false, [.sl]), (false, [.int .i64])] 
 (.ite (.cmp .eql (.var 2) (.lit 0))
  (.bstr (.val 1) 
  (.done (.bool (.seq (.var 3) (.str ⟨#[0, 1, 1, 0, 3, 0]⟩))) []))
  (.done (.bool (.tt false)) []))))
def l10 : List (Nat × List Nat × List (Nat × Nat) × List Nat) := []
theorem e10 : ev Try.prog ⟨allF, [6], l10⟩ (bodyOf Try.f10) 0 (initSt [] [] Try.f10.ntmps []) (finK Try.prog Try.f10.results []) = t10 := by kernel_rfl
theorem c10 {G : List Value} {h : H} {R : Value → List (List Value) → H → Prop} (hG : FitsL [] G) (H : holds Try.prog R t10 G [] h) : CallsA Try.prog 10 (fun e => SV.denL G (fun k => e (k - 1000000)) []) ([].map (SV.denL G dE)) h R :=
  CallsA.of_ev (cf := ⟨allF, [6], l10⟩) (fn := Try.f10) (c := bodyOf Try.f10) (pcs := []) Try.func10 (by rfl) callOK (by rfl) hG (by rfl) (by rw [show ([] : List (List SV)).map List.length = [] from rfl, e10]; exact H)
/-- What is left of outworker/outworkerlaw04.Long. -/
def t11 : Out :=
 (.loop 0 [(.int .i64 (.lit 0)), (.int .i64 (.lit 0))] [.int .i64, .int .i64] 
  (.ite (.cmp .lss (.var 2) (.len 0))
   (.need (.tt true) [(.cmp .geq (.var 2) (.lit 0)), (.cmp .lss (.var 2) (.len 0))] 
   (.load (.tt true) (.idx (.var 0) (.var 2) 5) [.sl, .int .u8, .int .i64, .int .i64, .int .i64] 
   (.loop 1 [(.int .i64 (.var 1)), (.int .i64 (.lit 0))] [.int .i64, .int .i64] 
    (.ite (.cmp .lss (.var 9) (.len 3))
     (.need (.tt true) [(.cmp .geq (.var 9) (.lit 0)), (.cmp .lss (.var 9) (.len 3))] 
     (.load (.tt true) (.idx (.var 3) (.var 9) 7) [.int .u8, .int .u8, .int .i64, .int .i64, .int .i64, .int .i64, .sl] 
     (.ite (.cmp .gtr (.op .add .i64 (.var 8) (.op .add .i64 (.lit 1) (.ite (.cmp .lss (.lit 10000) (.len 16)) (.lit 10000) (.len 16)))) (.lit 5000))
      (.done (.bool (.tt true)) [])
      (.again 1 [(.int .i64 (.op .add .i64 (.var 8) (.op .add .i64 (.lit 1) (.ite (.cmp .lss (.lit 10000) (.len 16)) (.lit 10000) (.len 16))))), (.int .i64 (.op .add .i64 (.var 9) (.lit 1)))]))))
     (.ite (.ite (.cmp .gtr (.var 2) (.lit 100)) (.tt true) (.cmp .gtr (.len 3) (.lit 2000)))
      (.done (.bool (.tt true)) [])
      (.again 0 [(.int .i64 (.var 8)), (.int .i64 (.op .add .i64 (.var 2) (.lit 1)))]))))))
   (.done (.bool (.tt false)) [])))
def l11 : List (Nat × List Nat × List (Nat × Nat) × List Nat) := [(3, [3, 10], [], [11, 12, 13, 14, 5, 4, 15, 16, 17, 18, 19, 20, 21, 7, 22, 23, 24, 25, 26, 27, 28, 29, 30, 2, 31, 32, 33, 34, 35, 36, 37, 38, 39, 40]), (6, [3, 18], [], [19, 20, 21, 7, 22, 23, 24, 25, 26, 27, 28, 29, 30, 2, 31])]
theorem e11 : ev Try.prog ⟨allF, [], l11⟩ (bodyOf Try.f11) 0 (initSt [(.val 0)] [] Try.f11.ntmps [.sl]) (finK Try.prog Try.f11.results []) = t11 := by kernel_rfl
theorem c11 {G : List Value} {h : H} {R : Value → List (List Value) → H → Prop} (hG : FitsL [.sl] G) (H : holds Try.prog R t11 G [] h) : CallsA Try.prog 11 (fun e => SV.denL G (fun k => e (k - 1000000)) [(.val 0)]) ([].map (SV.denL G dE)) h R :=
  CallsA.of_ev (cf := ⟨allF, [], l11⟩) (fn := Try.f11) (c := bodyOf Try.f11) (pcs := []) Try.func11 (by rfl) callOK (by rfl) hG (by rfl) (by rw [show ([] : List (List SV)).map List.length = [] from rfl, e11]; exact H)
/-- What is left of outworker/outworkerlaw04.Made. -/
def t12 : Out :=
 (.loop 0 [(.int .i64 (.lit 0)), (.val 3), (.cst (.slice none 0 0))] [.int .i64, .sl, .sl] 
  (.ite (.cmp .lss (.var 4) (.op .add .i64 (.lit 1) (.conv .i64 (.op .rem .u8 (.var 2) (.lit 7)))))
   (.call 33 [(.loc 24 0), (.int .i64 (.lit 9))] [24] [[(.val 5)]] [[.sl]] [(false, [.int .i64])] 
   (.loop 1 [(.int .i64 (.lit 0)), (.cst (.slice none 0 0)), (.val 7)] [.int .i64, .sl, .sl] 
    (.ite (.cmp .lss (.var 9) (.var 8))
     (.call 34 [(.loc 24 0), (.int .i64 (.op .add .i64 (.ite (.cmp .gtr (.lit 1) (.conv .i64 (.op .rem .u8 (.var 0) (.lit 5)))) (.lit 1) (.conv .i64 (.op .rem .u8 (.var 0) (.lit 5)))) (.conv .i64 (.op .rem .u8 (.var 1) (.lit 28)))))] [24] [[(.val 11)]] [[.sl]] [(true, [.int .u8, .int .u8, .int .i64, .int .i64, .int .i64, .int .i64, .sl])] 
     (.app 87 7 64 (.val 10) (.cells [(.int .u8 (.var 13)), (.int .u8 (.var 14)), (.int .i64 (.var 15)), (.int .i64 (.var 16)), (.int .i64 (.var 17)), (.int .i64 (.var 18)), (.val 19)] 1) 
     (.again 1 [(.int .i64 (.op .add .i64 (.var 9) (.lit 1))), (.val 20), (.val 12)])))
     (.call 33 [(.loc 24 0), (.int .i64 (.lit 4))] [24] [[(.val 11)]] [[.sl]] [(false, [.int .i64])] 
     (.ite (.cmp .eql (.var 13) (.lit 1))
      (.call 33 [(.loc 24 0), (.int .i64 (.op .add .i64 (.lit 1) (.conv .i64 (.op .rem .u8 (.var 2) (.lit 7)))))] [24] [[(.val 12)]] [[.sl]] [(false, [.int .i64])] 
      (.app 83 5 56 (.val 6) (.cells [(.val 10), (.int .u8 (.lit 1)), (.int .i64 (.lit 0)), (.int .i64 (.var 15)), (.int .i64 (.lit 0))] 1) 
      (.again 0 [(.int .i64 (.op .add .i64 (.var 4) (.lit 1))), (.val 14), (.val 16)])))
      (.ite (.ite (.cmp .eql (.var 13) (.lit 2)) (.cmp .eql (.var 13) (.lit 2)) (.cmp .eql (.var 13) (.lit 3)))
       (.call 33 [(.loc 24 0), (.int .i64 (.op .add .i64 (.ite (.cmp .gtr (.lit 1) (.conv .i64 (.op .rem .u8 (.var 0) (.lit 5)))) (.lit 1) (.conv .i64 (.op .rem .u8 (.var 0) (.lit 5)))) (.conv .i64 (.op .rem .u8 (.var 1) (.lit 28)))))] [24] [[(.val 12)]] [[.sl]] [(false, [.int .i64])] 
       (.call 33 [(.loc 24 0), (.int .i64 (.op .add .i64 (.lit 1) (.conv .i64 (.op .rem .u8 (.var 2) (.lit 7)))))] [24] [[(.val 14)]] [[.sl]] [(false, [.int .i64])] 
       (.call 33 [(.loc 24 0), (.int .i64 (.op .add .i64 (.lit 1) (.conv .i64 (.op .rem .u8 (.var 2) (.lit 7)))))] [24] [[(.val 16)]] [[.sl]] [(false, [.int .i64])] 
       (.app 83 5 56 (.val 6) (.cells [(.val 10), (.int .u8 (.lit 2)), (.int .i64 (.var 15)), (.int .i64 (.var 17)), (.int .i64 (.var 19))] 1) 
       (.again 0 [(.int .i64 (.op .add .i64 (.var 4) (.lit 1))), (.val 18), (.val 20)])))))
       (.call 33 [(.loc 24 0), (.int .i64 (.op .add .i64 (.ite (.cmp .gtr (.lit 1) (.conv .i64 (.op .rem .u8 (.var 0) (.lit 5)))) (.lit 1) (.conv .i64 (.op .rem .u8 (.var 0) (.lit 5)))) (.conv .i64 (.op .rem .u8 (.var 1) (.lit 28)))))] [24] [[(.val 12)]] [[.sl]] [(false, [.int .i64])] 
       (.app 83 5 56 (.val 6) (.cells [(.val 10), (.int .u8 (.lit 3)), (.int .i64 (.var 15)), (.int .i64 (.lit 0)), (.int .i64 (.lit 0))] 1) 
       (.again 0 [(.int .i64 (.op .add .i64 (.var 4) (.lit 1))), (.val 14), (.val 16)])))))))))
   (.done (.agg [(.int .i64 (.conv .i64 (.op .rem .u8 (.var 0) (.lit 5)))), (.int .i64 (.op .add .i64 (.ite (.cmp .gtr (.lit 1) (.conv .i64 (.op .rem .u8 (.var 0) (.lit 5)))) (.lit 1) (.conv .i64 (.op .rem .u8 (.var 0) (.lit 5)))) (.conv .i64 (.op .rem .u8 (.var 1) (.lit 28))))), (.val 6)]) [])))
def l12 : List (Nat × List Nat × List (Nat × Nat) × List Nat) := [(6, [31], [(24, 0), (3, 2)], [32, 6, 33, 34, 35, 36, 37, 38, 39, 40, 41, 42, 43, 44, 45, 46, 47, 48, 56, 55, 57, 58, 59, 60, 61, 63, 62, 64, 65, 66, 67, 68, 69, 70, 71, 72, 73, 74, 75, 76, 49, 50, 51, 52, 53, 54, 77, 78, 79, 80, 81, 82, 83]), (9, [35], [(6, 0), (24, 0)], [36, 37, 38, 39, 40, 41, 42, 43, 44, 45, 46])]
theorem e12 : ev Try.prog ⟨allF, [], l12⟩ (bodyOf Try.f12) 0 (initSt [(.agg [(.int .u8 (.var 0)), (.int .u8 (.var 1)), (.int .u8 (.var 2)), (.val 3)])] [] Try.f12.ntmps [.int .u8, .int .u8, .int .u8, .sl]) (finK Try.prog Try.f12.results []) = t12 := by kernel_rfl
theorem c12 {G : List Value} {h : H} {R : Value → List (List Value) → H → Prop} (hG : FitsL [.int .u8, .int .u8, .int .u8, .sl] G) (H : holds Try.prog R t12 G [] h) : CallsA Try.prog 12 (fun e => SV.denL G (fun k => e (k - 1000000)) [(.agg [(.int .u8 (.var 0)), (.int .u8 (.var 1)), (.int .u8 (.var 2)), (.val 3)])]) ([].map (SV.denL G dE)) h R :=
  CallsA.of_ev (cf := ⟨allF, [], l12⟩) (fn := Try.f12) (c := bodyOf Try.f12) (pcs := []) Try.func12 (by rfl) callOK (by rfl) hG (by rfl) (by rw [show ([] : List (List SV)).map List.length = [] from rfl, e12]; exact H)
/-- What is left of outworker/outworkerlaw04.Turn. -/
def t13 : Out :=
 (.ite (.cmp .eql (.len 0) (.lit 0))
  (.done (.tup []) [])
  (.need (.tt true) [(.cmp .neq (.len 0) (.lit 0))] 
  (.need (.tt true) [(.cmp .geq (.op .rem .i64 (.conv .i64 (.var 1)) (.len 0)) (.lit 0)), (.cmp .lss (.op .rem .i64 (.conv .i64 (.var 1)) (.len 0)) (.len 0))] 
  (.load (.tt true) (.fld (.idx (.var 0) (.op .rem .i64 (.conv .i64 (.var 1)) (.len 0)) 5) 0) [.sl] 
  (.need (.tt true) [(.cmp .neq (.op .add .i64 (.len 5) (.lit 1)) (.lit 0))] 
  (.load (.tt true) (.fld (.idx (.var 0) (.op .rem .i64 (.conv .i64 (.var 1)) (.len 0)) 5) 0) [.sl] 
  (.ite (.cmp .eql (.op .rem .i64 (.conv .i64 (.var 2)) (.op .add .i64 (.len 5) (.lit 1))) (.len 6))
   (.ite (.cmp .eql (.op .rem .u8 (.var 3) (.lit 4)) (.lit 0))
    (.store (.fld (.fld (.idx (.var 0) (.op .rem .i64 (.conv .i64 (.var 1)) (.len 0)) 5) 1) 0) [(.int .u8 (.conv .u8 (.var 4)))] 
    (.done (.tup []) []))
    (.ite (.cmp .eql (.op .rem .u8 (.var 3) (.lit 4)) (.lit 1))
     (.store (.fld (.fld (.idx (.var 0) (.op .rem .i64 (.conv .i64 (.var 1)) (.len 0)) 5) 1) 1) [(.int .i64 (.var 4))] 
     (.done (.tup []) []))
     (.ite (.cmp .eql (.op .rem .u8 (.var 3) (.lit 4)) (.lit 2))
      (.store (.fld (.fld (.idx (.var 0) (.op .rem .i64 (.conv .i64 (.var 1)) (.len 0)) 5) 1) 2) [(.int .i64 (.var 4))] 
      (.done (.tup []) []))
      (.store (.fld (.fld (.idx (.var 0) (.op .rem .i64 (.conv .i64 (.var 1)) (.len 0)) 5) 1) 3) [(.int .i64 (.var 4))] 
      (.done (.tup []) [])))))
   (.load (.tt true) (.fld (.idx (.var 0) (.op .rem .i64 (.conv .i64 (.var 1)) (.len 0)) 5) 0) [.sl] 
   (.need (.tt true) [(.cmp .geq (.op .rem .i64 (.conv .i64 (.var 2)) (.op .add .i64 (.len 5) (.lit 1))) (.lit 0)), (.cmp .lss (.op .rem .i64 (.conv .i64 (.var 2)) (.op .add .i64 (.len 5) (.lit 1))) (.len 7))] 
   (.ite (.cmp .eql (.op .rem .u8 (.var 3) (.lit 8)) (.lit 0))
    (.store (.fld (.idx (.var 7) (.op .rem .i64 (.conv .i64 (.var 2)) (.op .add .i64 (.len 5) (.lit 1))) 7) 0) [(.int .u8 (.conv .u8 (.var 4)))] 
    (.done (.tup []) []))
    (.ite (.cmp .eql (.op .rem .u8 (.var 3) (.lit 8)) (.lit 1))
     (.store (.fld (.idx (.var 7) (.op .rem .i64 (.conv .i64 (.var 2)) (.op .add .i64 (.len 5) (.lit 1))) 7) 1) [(.int .u8 (.conv .u8 (.var 4)))] 
     (.done (.tup []) []))
     (.ite (.cmp .eql (.op .rem .u8 (.var 3) (.lit 8)) (.lit 2))
      (.store (.fld (.idx (.var 7) (.op .rem .i64 (.conv .i64 (.var 2)) (.op .add .i64 (.len 5) (.lit 1))) 7) 2) [(.int .i64 (.var 4))] 
      (.done (.tup []) []))
      (.ite (.cmp .eql (.op .rem .u8 (.var 3) (.lit 8)) (.lit 3))
       (.store (.fld (.idx (.var 7) (.op .rem .i64 (.conv .i64 (.var 2)) (.op .add .i64 (.len 5) (.lit 1))) 7) 3) [(.int .i64 (.var 4))] 
       (.done (.tup []) []))
       (.ite (.cmp .eql (.op .rem .u8 (.var 3) (.lit 8)) (.lit 4))
        (.store (.fld (.idx (.var 7) (.op .rem .i64 (.conv .i64 (.var 2)) (.op .add .i64 (.len 5) (.lit 1))) 7) 4) [(.int .i64 (.var 4))] 
        (.done (.tup []) []))
        (.ite (.cmp .eql (.op .rem .u8 (.var 3) (.lit 8)) (.lit 5))
         (.store (.fld (.idx (.var 7) (.op .rem .i64 (.conv .i64 (.var 2)) (.op .add .i64 (.len 5) (.lit 1))) 7) 5) [(.int .i64 (.var 4))] 
         (.done (.tup []) []))
         (.ite (.cmp .eql (.op .rem .u8 (.var 3) (.lit 8)) (.lit 6))
          (.load (.tt true) (.fld (.idx (.var 7) (.op .rem .i64 (.conv .i64 (.var 2)) (.op .add .i64 (.len 5) (.lit 1))) 7) 6) [.sl] 
          (.app 3 1 8 (.val 8) (.cells [(.int .i64 (.var 4))] 1) 
          (.store (.fld (.idx (.var 7) (.op .rem .i64 (.conv .i64 (.var 2)) (.op .add .i64 (.len 5) (.lit 1))) 7) 6) [(.val 9)] 
          (.done (.tup []) []))))
          (.load (.tt true) (.fld (.idx (.var 7) (.op .rem .i64 (.conv .i64 (.var 2)) (.op .add .i64 (.len 5) (.lit 1))) 7) 6) [.sl] 
          (.ite (.cmp .gtr (.len 8) (.lit 0))
           (.load (.tt true) (.fld (.idx (.var 7) (.op .rem .i64 (.conv .i64 (.var 2)) (.op .add .i64 (.len 5) (.lit 1))) 7) 6) [.sl] 
           (.need (.tt true) [(.tt true), (.cmp .lss (.lit 0) (.len 9))] 
           (.store (.idx (.var 9) (.lit 0) 1) [(.int .i64 (.var 4))] 
           (.done (.tup []) []))))
           (.done (.tup []) [])))))))))))))))))))
def l13 : List (Nat × List Nat × List (Nat × Nat) × List Nat) := []
theorem e13 : ev Try.prog ⟨allF, [], l13⟩ (bodyOf Try.f13) 0 (initSt [(.val 0), (.int .u8 (.var 1)), (.int .u8 (.var 2)), (.int .u8 (.var 3)), (.int .i64 (.var 4))] [] Try.f13.ntmps [.sl, .int .u8, .int .u8, .int .u8, .int .i64]) (finK Try.prog Try.f13.results []) = t13 := by kernel_rfl
theorem c13 {G : List Value} {h : H} {R : Value → List (List Value) → H → Prop} (hG : FitsL [.sl, .int .u8, .int .u8, .int .u8, .int .i64] G) (H : holds Try.prog R t13 G [] h) : CallsA Try.prog 13 (fun e => SV.denL G (fun k => e (k - 1000000)) [(.val 0), (.int .u8 (.var 1)), (.int .u8 (.var 2)), (.int .u8 (.var 3)), (.int .i64 (.var 4))]) ([].map (SV.denL G dE)) h R :=
  CallsA.of_ev (cf := ⟨allF, [], l13⟩) (fn := Try.f13) (c := bodyOf Try.f13) (pcs := []) Try.func13 (by rfl) callOK (by rfl) hG (by rfl) (by rw [show ([] : List (List SV)).map List.length = [] from rfl, e13]; exact H)
/-- What is left of outworker/wire.Func. -/
def t14 : Out :=
 (.call 35 [(.agg [(.int .i64 (.var 0)), (.int .i64 (.var 1)), (.val 2)])] [] [] [] [(true, [.int .i64, .int .i64, .int .i64])] 
 (.ite (.cmp .neq (.var 3) (.lit 0))
  (.done (.tup [(.cst (.slice none 0 0)), (.int .i64 (.lit 30))]) [])
  (.alloc 3 [(.int .i64 (.var 0)), (.int .i64 (.var 1))] (.lsl 2) 
  (.call 36 [(.loc 10 0), (.val 6)] [10] [[(.cst (.slice none 0 0))]] [[.sl]] [] 
  (.call 37 [(.loc 10 0), (.val 2)] [10] [[(.val 7)]] [[.sl]] [] 
  (.done (.tup [(.val 8), (.int .i64 (.lit 0))]) []))))))
def l14 : List (Nat × List Nat × List (Nat × Nat) × List Nat) := []
theorem e14 : ev Try.prog ⟨allF, [16], l14⟩ (bodyOf Try.f14) 0 (initSt [(.agg [(.int .i64 (.var 0)), (.int .i64 (.var 1)), (.val 2)])] [] Try.f14.ntmps [.int .i64, .int .i64, .sl]) (finK Try.prog Try.f14.results []) = t14 := by kernel_rfl
theorem c14 {G : List Value} {h : H} {R : Value → List (List Value) → H → Prop} (hG : FitsL [.int .i64, .int .i64, .sl] G) (H : holds Try.prog R t14 G [] h) : CallsA Try.prog 14 (fun e => SV.denL G (fun k => e (k - 1000000)) [(.agg [(.int .i64 (.var 0)), (.int .i64 (.var 1)), (.val 2)])]) ([].map (SV.denL G dE)) h R :=
  CallsA.of_ev (cf := ⟨allF, [16], l14⟩) (fn := Try.f14) (c := bodyOf Try.f14) (pcs := []) Try.func14 (by rfl) callOK (by rfl) hG (by rfl) (by rw [show ([] : List (List SV)).map List.length = [] from rfl, e14]; exact H)
/-- What is left of outworker/outworkerref04.Func. -/
def t15 : Out :=
 (.ite (.ite (.ite (.ite (.ite (.ite (.cmp .lss (.var 0) (.lit 0)) (.tt true) (.cmp .gtr (.var 0) (.lit 4))) (.tt true) (.cmp .lss (.var 1) (.var 0))) (.tt true) (.cmp .gtr (.var 1) (.lit 32))) (.tt true) (.cmp .eql (.len 2) (.lit 0))) (.tt true) (.cmp .gtr (.len 2) (.lit 16)))
  (.done (.agg [(.int .i64 (.lit 2)), (.int .i64 (.lit (-1))), (.int .i64 (.lit (-1)))]) [])
  (.call 38 [(.val 2), (.int .i64 (.var 1)), (.int .i64 (.lit (-1))), (.int .i64 (.lit 32))] [] [] [] [(true, [.int .i64, .int .i64, .int .i64])] 
  (.done (.agg [(.int .i64 (.var 3)), (.int .i64 (.var 4)), (.int .i64 (.var 5))]) [])))
def l15 : List (Nat × List Nat × List (Nat × Nat) × List Nat) := []
theorem e15 : ev Try.prog ⟨allF, [], l15⟩ (bodyOf Try.f15) 0 (initSt [(.agg [(.int .i64 (.var 0)), (.int .i64 (.var 1)), (.val 2)])] [] Try.f15.ntmps [.int .i64, .int .i64, .sl]) (finK Try.prog Try.f15.results []) = t15 := by kernel_rfl
theorem c15 {G : List Value} {h : H} {R : Value → List (List Value) → H → Prop} (hG : FitsL [.int .i64, .int .i64, .sl] G) (H : holds Try.prog R t15 G [] h) : CallsA Try.prog 15 (fun e => SV.denL G (fun k => e (k - 1000000)) [(.agg [(.int .i64 (.var 0)), (.int .i64 (.var 1)), (.val 2)])]) ([].map (SV.denL G dE)) h R :=
  CallsA.of_ev (cf := ⟨allF, [], l15⟩) (fn := Try.f15) (c := bodyOf Try.f15) (pcs := []) Try.func15 (by rfl) callOK (by rfl) hG (by rfl) (by rw [show ([] : List (List SV)).map List.length = [] from rfl, e15]; exact H)
/-- What is left of outworker/outworkerref04.FuncBytes. -/
def t16 : Out :=
 (.call 40 [(.cst (.slice none 0 0)), (.int .u64 (.conv .u64 (.var 0)))] [] [] [] [(false, [.sl])] 
 (.call 40 [(.val 3), (.int .u64 (.conv .u64 (.var 1)))] [] [] [] [(false, [.sl])] 
 (.call 39 [(.val 4), (.val 2)] [] [] [] [(false, [.sl])] 
 (.done (.val 5) []))))
def l16 : List (Nat × List Nat × List (Nat × Nat) × List Nat) := []
theorem e16 : ev Try.prog ⟨allF, [], l16⟩ (bodyOf Try.f16) 0 (initSt [(.agg [(.int .i64 (.var 0)), (.int .i64 (.var 1)), (.val 2)])] [] Try.f16.ntmps [.int .i64, .int .i64, .sl]) (finK Try.prog Try.f16.results []) = t16 := by kernel_rfl
theorem c16 {G : List Value} {h : H} {R : Value → List (List Value) → H → Prop} (hG : FitsL [.int .i64, .int .i64, .sl] G) (H : holds Try.prog R t16 G [] h) : CallsA Try.prog 16 (fun e => SV.denL G (fun k => e (k - 1000000)) [(.agg [(.int .i64 (.var 0)), (.int .i64 (.var 1)), (.val 2)])]) ([].map (SV.denL G dE)) h R :=
  CallsA.of_ev (cf := ⟨allF, [], l16⟩) (fn := Try.f16) (c := bodyOf Try.f16) (pcs := []) Try.func16 (by rfl) callOK (by rfl) hG (by rfl) (by rw [show ([] : List (List SV)).map List.length = [] from rfl, e16]; exact H)
/-- What is left of outworker/outworkerref04.SameFuncs. -/
def t17 : Out :=
 (.ite (.ite (.cmp .eql (.var 0) (.var 3)) (.cmp .eql (.var 1) (.var 4)) (.tt false))
  (.call 41 [(.val 2), (.val 5)] [] [] [] [(false, [.bool])] 
  (.done (.bool (.var 6)) []))
  (.done (.bool (.tt false)) []))
def l17 : List (Nat × List Nat × List (Nat × Nat) × List Nat) := []
theorem e17 : ev Try.prog ⟨allF, [], l17⟩ (bodyOf Try.f17) 0 (initSt [(.agg [(.int .i64 (.var 0)), (.int .i64 (.var 1)), (.val 2)]), (.agg [(.int .i64 (.var 3)), (.int .i64 (.var 4)), (.val 5)])] [] Try.f17.ntmps [.int .i64, .int .i64, .sl, .int .i64, .int .i64, .sl]) (finK Try.prog Try.f17.results []) = t17 := by kernel_rfl
theorem c17 {G : List Value} {h : H} {R : Value → List (List Value) → H → Prop} (hG : FitsL [.int .i64, .int .i64, .sl, .int .i64, .int .i64, .sl] G) (H : holds Try.prog R t17 G [] h) : CallsA Try.prog 17 (fun e => SV.denL G (fun k => e (k - 1000000)) [(.agg [(.int .i64 (.var 0)), (.int .i64 (.var 1)), (.val 2)]), (.agg [(.int .i64 (.var 3)), (.int .i64 (.var 4)), (.val 5)])]) ([].map (SV.denL G dE)) h R :=
  CallsA.of_ev (cf := ⟨allF, [], l17⟩) (fn := Try.f17) (c := bodyOf Try.f17) (pcs := []) Try.func17 (by rfl) callOK (by rfl) hG (by rfl) (by rw [show ([] : List (List SV)).map List.length = [] from rfl, e17]; exact H)
/-- What is left of outworker/outworkerlaw05.Made. -/
def t18 : Out :=
 (.call 12 [(.agg [(.int .u8 (.var 0)), (.int .u8 (.lit 0)), (.int .u8 (.var 2)), (.val 3)])] [] [] [] [(true, [.int .i64, .int .i64, .sl])] 
 (.loop 0 [(.int .i64 (.lit 0)), (.int .i64 (.var 7)), (.int .i64 (.op .add .i64 (.lit 3) (.conv .i64 (.op .rem .u8 (.var 4) (.lit 6))))), (.int .i64 (.op .add .i64 (.ite (.cmp .gtr (.lit 1) (.var 7)) (.lit 1) (.var 7)) (.conv .i64 (.op .rem .u8 (.var 5) (.lit 8))))), (.val 9)] [.int .i64, .int .i64, .int .i64, .int .i64, .sl] 
  (.ite (.cmp .lss (.var 10) (.len 9))
   (.need (.tt true) [(.cmp .geq (.var 10) (.lit 0)), (.cmp .lss (.var 10) (.len 14))] 
   (.load (.tt true) (.fld (.idx (.var 14) (.var 10) 5) 0) [.sl] 
   (.loop 1 [(.int .i64 (.lit 0)), (.int .i64 (.var 11)), (.int .i64 (.var 12)), (.int .i64 (.var 13)), (.val 14)] [.int .i64, .int .i64, .int .i64, .int .i64, .sl] 
    (.ite (.cmp .lss (.var 16) (.len 15))
     (.load (.tt true) (.fld (.idx (.var 14) (.var 10) 5) 0) [.sl] 
     (.need (.tt true) [(.cmp .geq (.var 16) (.lit 0)), (.cmp .lss (.var 16) (.len 21))] 
     (.load (.tt true) (.fld (.idx (.var 21) (.var 16) 7) 2) [.int .i64] 
     (.load (.tt true) (.fld (.idx (.var 21) (.var 16) 7) 3) [.int .i64] 
     (.load (.tt true) (.fld (.idx (.var 21) (.var 16) 7) 4) [.int .i64] 
     (.call 42 [(.int .i64 (.var 22)), (.loc 9 0)] [9] [[(.int .i64 (.var 17)), (.int .i64 (.var 18)), (.int .i64 (.var 19)), (.val 20)]] [[.int .i64, .int .i64, .int .i64, .sl]] [(false, [.int .i64])] 
     (.still (.tt true) (.fld (.idx (.var 21) (.var 16) 7) 4) [(.int .i64 (.var 24))] 
     (.still (.tt true) (.fld (.idx (.var 21) (.var 16) 7) 3) [(.int .i64 (.var 23))] 
     (.call 42 [(.int .i64 (.var 23)), (.loc 9 0)] [9] [[(.int .i64 (.var 25)), (.int .i64 (.var 26)), (.int .i64 (.var 27)), (.val 28)]] [[.int .i64, .int .i64, .int .i64, .sl]] [(false, [.int .i64])] 
     (.still (.tt true) (.fld (.idx (.var 21) (.var 16) 7) 4) [(.int .i64 (.var 24))] 
     (.call 42 [(.int .i64 (.var 24)), (.loc 9 0)] [9] [[(.int .i64 (.var 30)), (.int .i64 (.var 31)), (.int .i64 (.var 32)), (.val 33)]] [[.int .i64, .int .i64, .int .i64, .sl]] [(false, [.int .i64])] 
     (.store (.fld (.idx (.var 21) (.var 16) 7) 2) [(.int .i64 (.var 29))] 
     (.store (.fld (.idx (.var 21) (.var 16) 7) 3) [(.int .i64 (.var 34))] 
     (.store (.fld (.idx (.var 21) (.var 16) 7) 4) [(.int .i64 (.var 39))] 
     (.load (.tt true) (.fld (.idx (.var 21) (.var 16) 7) 6) [.sl] 
     (.loop 2 [(.int .i64 (.lit 0)), (.int .i64 (.var 35)), (.int .i64 (.var 36)), (.int .i64 (.var 37)), (.val 38)] [.int .i64, .int .i64, .int .i64, .int .i64, .sl] 
      (.ite (.cmp .lss (.var 41) (.len 40))
       (.load (.tt true) (.fld (.idx (.var 21) (.var 16) 7) 6) [.sl] 
       (.load (.tt true) (.fld (.idx (.var 21) (.var 16) 7) 6) [.sl] 
       (.need (.tt true) [(.cmp .geq (.var 41) (.lit 0)), (.cmp .lss (.var 41) (.len 47))] 
       (.load (.tt true) (.idx (.var 47) (.var 41) 1) [.int .i64] 
       (.call 42 [(.int .i64 (.var 48)), (.loc 9 0)] [9] [[(.int .i64 (.var 42)), (.int .i64 (.var 43)), (.int .i64 (.var 44)), (.val 45)]] [[.int .i64, .int .i64, .int .i64, .sl]] [(false, [.int .i64])] 
       (.still (.tt true) (.fld (.idx (.var 21) (.var 16) 7) 6) [(.val 47)] 
       (.still (.tt true) (.fld (.idx (.var 21) (.var 16) 7) 6) [(.val 46)] 
       (.need (.tt true) [(.cmp .geq (.var 41) (.lit 0)), (.cmp .lss (.var 41) (.len 46))] 
       (.store (.idx (.var 46) (.var 41) 1) [(.int .i64 (.var 53))] 
       (.again 2 [(.int .i64 (.op .add .i64 (.var 41) (.lit 1))), (.int .i64 (.var 49)), (.int .i64 (.var 50)), (.int .i64 (.var 51)), (.val 52)]))))))))))
       (.again 1 [(.int .i64 (.op .add .i64 (.var 16) (.lit 1))), (.int .i64 (.var 42)), (.int .i64 (.var 43)), (.int .i64 (.var 44)), (.val 45)]))))))))))))))))))
     (.load (.tt true) (.fld (.fld (.idx (.var 14) (.var 10) 5) 1) 1) [.int .i64] 
     (.call 42 [(.int .i64 (.var 21)), (.loc 9 0)] [9] [[(.int .i64 (.var 17)), (.int .i64 (.var 18)), (.int .i64 (.var 19)), (.val 20)]] [[.int .i64, .int .i64, .int .i64, .sl]] [(false, [.int .i64])] 
     (.store (.fld (.fld (.idx (.var 14) (.var 10) 5) 1) 1) [(.int .i64 (.var 26))] 
     (.again 0 [(.int .i64 (.op .add .i64 (.var 10) (.lit 1))), (.int .i64 (.var 22)), (.int .i64 (.var 23)), (.int .i64 (.var 24)), (.val 25)]))))))))
   (.loop 0 [(.int .i64 (.lit 0))] [.int .i64] 
    (.ite (.ite (.cmp .lss (.op .add .i64 (.var 15) (.lit 2)) (.len 6)) (.cmp .lss (.var 15) (.lit 60)) (.tt false))
     (.need (.tt true) [(.cmp .geq (.var 15) (.lit 0)), (.cmp .lss (.var 15) (.len 6))] 
     (.load (.tt true) (.idx (.var 6) (.var 15) 1) [.int .u8] 
     (.need (.tt true) [(.cmp .neq (.len 14) (.lit 0))] 
     (.need (.tt true) [(.cmp .geq (.op .rem .i64 (.conv .i64 (.var 16)) (.len 14)) (.lit 0)), (.cmp .lss (.op .rem .i64 (.conv .i64 (.var 16)) (.len 14)) (.len 14))] 
     (.need (.tt true) [(.cmp .geq (.op .add .i64 (.var 15) (.lit 1)) (.lit 0)), (.cmp .lss (.op .add .i64 (.var 15) (.lit 1)) (.len 6))] 
     (.load (.tt true) (.idx (.var 6) (.op .add .i64 (.var 15) (.lit 1)) 1) [.int .u8] 
     (.need (.tt true) [(.cmp .neq (.var 13) (.lit 0))] 
     (.need (.tt true) [(.cmp .geq (.op .add .i64 (.var 15) (.lit 2)) (.lit 0)), (.cmp .lss (.op .add .i64 (.var 15) (.lit 2)) (.len 6))] 
     (.load (.tt true) (.idx (.var 6) (.op .add .i64 (.var 15) (.lit 2)) 1) [.int .u8] 
     (.need (.tt true) [(.cmp .neq (.var 12) (.lit 0))] 
     (.still (.tt true) (.idx (.var 6) (.op .add .i64 (.var 15) (.lit 2)) 1) [(.int .u8 (.var 18))] 
     (.still (.tt true) (.idx (.var 6) (.op .add .i64 (.var 15) (.lit 1)) 1) [(.int .u8 (.var 17))] 
     (.need (.tt true) [(.cmp .geq (.var 15) (.lit 0)), (.cmp .lss (.var 15) (.len 6))] 
     (.load (.tt true) (.idx (.var 6) (.var 15) 1) [.int .u8] 
     (.ite (.cmp .eql (.op .rem .u8 (.var 19) (.lit 2)) (.lit 1))
      (.need (.tt true) [(.cmp .geq (.op .add .i64 (.var 15) (.lit 1)) (.lit 0)), (.cmp .lss (.op .add .i64 (.var 15) (.lit 1)) (.len 6))] 
      (.load (.tt true) (.idx (.var 6) (.op .add .i64 (.var 15) (.lit 1)) 1) [.int .u8] 
      (.need (.tt true) [(.cmp .neq (.var 12) (.lit 0))] 
      (.need (.tt true) [(.cmp .geq (.op .add .i64 (.var 15) (.lit 2)) (.lit 0)), (.cmp .lss (.op .add .i64 (.var 15) (.lit 2)) (.len 6))] 
      (.load (.tt true) (.idx (.var 6) (.op .add .i64 (.var 15) (.lit 2)) 1) [.int .u8] 
      (.need (.tt true) [(.cmp .neq (.var 13) (.lit 0))] 
      (.need (.tt true) [(.cmp .geq (.var 15) (.lit 0)), (.cmp .lss (.var 15) (.len 6))] 
      (.load (.tt true) (.idx (.var 6) (.var 15) 1) [.int .u8] 
      (.load (.tt true) (.fld (.idx (.var 14) (.op .rem .i64 (.conv .i64 (.var 16)) (.len 14)) 5) 0) [.sl] 
      (.need (.tt true) [(.cmp .neq (.op .add .i64 (.len 23) (.lit 1)) (.lit 0))] 
      (.load (.tt true) (.fld (.idx (.var 14) (.op .rem .i64 (.conv .i64 (.var 16)) (.len 14)) 5) 0) [.sl] 
      (.need (.tt true) [(.cmp .geq (.op .rem .i64 (.conv .i64 (.op .quo .u8 (.var 22) (.lit 8))) (.op .add .i64 (.len 23) (.lit 1))) (.lit 0)), (.cmp .leq (.op .rem .i64 (.conv .i64 (.op .quo .u8 (.var 22) (.lit 8))) (.op .add .i64 (.len 23) (.lit 1))) (.cap 24))] 
      (.bnd (.slice (.val 24) none (some (.op .rem .i64 (.conv .i64 (.op .quo .u8 (.var 22) (.lit 8))) (.op .add .i64 (.len 23) (.lit 1)))) 7) 
      (.load (.tt true) (.fld (.idx (.var 14) (.op .rem .i64 (.conv .i64 (.var 16)) (.len 14)) 5) 0) [.sl] 
      (.need (.tt true) [(.cmp .geq (.op .rem .i64 (.conv .i64 (.op .quo .u8 (.var 22) (.lit 8))) (.op .add .i64 (.len 23) (.lit 1))) (.lit 0)), (.cmp .leq (.op .rem .i64 (.conv .i64 (.op .quo .u8 (.var 22) (.lit 8))) (.op .add .i64 (.len 23) (.lit 1))) (.len 26))] 
      (.bnd (.slice (.val 26) (some (.op .rem .i64 (.conv .i64 (.op .quo .u8 (.var 22) (.lit 8))) (.op .add .i64 (.len 23) (.lit 1)))) none 7) 
      (.both 
       (.alloc 87 [] (.lsl 0) 
       (.still (.tt true) (.fld (.idx (.var 14) (.op .rem .i64 (.conv .i64 (.var 16)) (.len 14)) 5) 0) [(.val 26)] 
       (.still (.tt true) (.fld (.idx (.var 14) (.op .rem .i64 (.conv .i64 (.var 16)) (.len 14)) 5) 0) [(.val 24)] 
       (.both 
        (.app 87 7 64 (.val 28) (.sl (.val 25)) 
        (.still (.tt true) (.fld (.idx (.var 14) (.op .rem .i64 (.conv .i64 (.var 16)) (.len 14)) 5) 0) [(.val 26)] 
        (.still (.tt true) (.fld (.idx (.var 14) (.op .rem .i64 (.conv .i64 (.var 16)) (.len 14)) 5) 0) [(.val 24)] 
        (.still (.tt true) (.fld (.idx (.var 14) (.op .rem .i64 (.conv .i64 (.var 16)) (.len 14)) 5) 0) [(.val 26)] 
        (.still (.tt true) (.fld (.idx (.var 14) (.op .rem .i64 (.conv .i64 (.var 16)) (.len 14)) 5) 0) [(.val 24)] 
        (.app 87 7 64 (.val 29) (.cells [(.int .u8 (.lit 8)), (.int .u8 (.lit 0)), (.int .i64 (.op .rem .i64 (.conv .i64 (.var 20)) (.var 12))), (.int .i64 (.op .rem .i64 (.conv .i64 (.var 21)) (.var 13))), (.int .i64 (.lit 0)), (.int .i64 (.lit 0)), (.cst (.slice none 0 0))] 1) 
        (.still (.tt true) (.fld (.idx (.var 14) (.op .rem .i64 (.conv .i64 (.var 16)) (.len 14)) 5) 0) [(.val 26)] 
        (.still (.tt true) (.fld (.idx (.var 14) (.op .rem .i64 (.conv .i64 (.var 16)) (.len 14)) 5) 0) [(.val 24)] 
        (.app 87 7 64 (.val 30) (.sl (.val 27)) 
        (.still (.tt true) (.fld (.idx (.var 14) (.op .rem .i64 (.conv .i64 (.var 16)) (.len 14)) 5) 0) [(.val 26)] 
        (.still (.tt true) (.fld (.idx (.var 14) (.op .rem .i64 (.conv .i64 (.var 16)) (.len 14)) 5) 0) [(.val 24)] 
        (.store (.fld (.idx (.var 14) (.op .rem .i64 (.conv .i64 (.var 16)) (.len 14)) 5) 0) [(.val 31)] 
        (.again 0 [(.int .i64 (.op .add .i64 (.var 15) (.lit 3)))]))))))))))))) 
        (.still (.tt true) (.fld (.idx (.var 14) (.op .rem .i64 (.conv .i64 (.var 16)) (.len 14)) 5) 0) [(.val 26)] 
        (.still (.tt true) (.fld (.idx (.var 14) (.op .rem .i64 (.conv .i64 (.var 16)) (.len 14)) 5) 0) [(.val 24)] 
        (.app 87 7 64 (.val 28) (.sl (.val 25)) 
        (.still (.tt true) (.fld (.idx (.var 14) (.op .rem .i64 (.conv .i64 (.var 16)) (.len 14)) 5) 0) [(.val 26)] 
        (.still (.tt true) (.fld (.idx (.var 14) (.op .rem .i64 (.conv .i64 (.var 16)) (.len 14)) 5) 0) [(.val 24)] 
        (.app 87 7 64 (.val 29) (.cells [(.int .u8 (.lit 8)), (.int .u8 (.lit 0)), (.int .i64 (.op .rem .i64 (.conv .i64 (.var 20)) (.var 12))), (.int .i64 (.op .rem .i64 (.conv .i64 (.var 21)) (.var 13))), (.int .i64 (.lit 0)), (.int .i64 (.lit 0)), (.cst (.slice none 0 0))] 1) 
        (.still (.tt true) (.fld (.idx (.var 14) (.op .rem .i64 (.conv .i64 (.var 16)) (.len 14)) 5) 0) [(.val 26)] 
        (.still (.tt true) (.fld (.idx (.var 14) (.op .rem .i64 (.conv .i64 (.var 16)) (.len 14)) 5) 0) [(.val 24)] 
        (.app 87 7 64 (.val 30) (.sl (.val 27)) 
        (.still (.tt true) (.fld (.idx (.var 14) (.op .rem .i64 (.conv .i64 (.var 16)) (.len 14)) 5) 0) [(.val 26)] 
        (.still (.tt true) (.fld (.idx (.var 14) (.op .rem .i64 (.conv .i64 (.var 16)) (.len 14)) 5) 0) [(.val 24)] 
        (.store (.fld (.idx (.var 14) (.op .rem .i64 (.conv .i64 (.var 16)) (.len 14)) 5) 0) [(.val 31)] 
        (.again 0 [(.int .i64 (.op .add .i64 (.var 15) (.lit 3)))]))))))))))))))))) 
       (.still (.tt true) (.fld (.idx (.var 14) (.op .rem .i64 (.conv .i64 (.var 16)) (.len 14)) 5) 0) [(.val 26)] 
       (.still (.tt true) (.fld (.idx (.var 14) (.op .rem .i64 (.conv .i64 (.var 16)) (.len 14)) 5) 0) [(.val 24)] 
       (.alloc 87 [] (.lsl 0) 
       (.still (.tt true) (.fld (.idx (.var 14) (.op .rem .i64 (.conv .i64 (.var 16)) (.len 14)) 5) 0) [(.val 26)] 
       (.still (.tt true) (.fld (.idx (.var 14) (.op .rem .i64 (.conv .i64 (.var 16)) (.len 14)) 5) 0) [(.val 24)] 
       (.app 87 7 64 (.val 28) (.sl (.val 25)) 
       (.still (.tt true) (.fld (.idx (.var 14) (.op .rem .i64 (.conv .i64 (.var 16)) (.len 14)) 5) 0) [(.val 26)] 
       (.still (.tt true) (.fld (.idx (.var 14) (.op .rem .i64 (.conv .i64 (.var 16)) (.len 14)) 5) 0) [(.val 24)] 
       (.app 87 7 64 (.val 29) (.cells [(.int .u8 (.lit 8)), (.int .u8 (.lit 0)), (.int .i64 (.op .rem .i64 (.conv .i64 (.var 20)) (.var 12))), (.int .i64 (.op .rem .i64 (.conv .i64 (.var 21)) (.var 13))), (.int .i64 (.lit 0)), (.int .i64 (.lit 0)), (.cst (.slice none 0 0))] 1) 
       (.still (.tt true) (.fld (.idx (.var 14) (.op .rem .i64 (.conv .i64 (.var 16)) (.len 14)) 5) 0) [(.val 26)] 
       (.still (.tt true) (.fld (.idx (.var 14) (.op .rem .i64 (.conv .i64 (.var 16)) (.len 14)) 5) 0) [(.val 24)] 
       (.app 87 7 64 (.val 30) (.sl (.val 27)) 
       (.still (.tt true) (.fld (.idx (.var 14) (.op .rem .i64 (.conv .i64 (.var 16)) (.len 14)) 5) 0) [(.val 26)] 
       (.still (.tt true) (.fld (.idx (.var 14) (.op .rem .i64 (.conv .i64 (.var 16)) (.len 14)) 5) 0) [(.val 24)] 
       (.store (.fld (.idx (.var 14) (.op .rem .i64 (.conv .i64 (.var 16)) (.len 14)) 5) 0) [(.val 31)] 
       (.again 0 [(.int .i64 (.op .add .i64 (.var 15) (.lit 3)))])))))))))))))))))))))))))))))))))
      (.need (.tt true) [(.cmp .geq (.var 15) (.lit 0)), (.cmp .lss (.var 15) (.len 6))] 
      (.load (.tt true) (.idx (.var 6) (.var 15) 1) [.int .u8] 
      (.load (.tt true) (.fld (.idx (.var 14) (.op .rem .i64 (.conv .i64 (.var 16)) (.len 14)) 5) 0) [.sl] 
      (.need (.tt true) [(.cmp .neq (.op .add .i64 (.len 21) (.lit 1)) (.lit 0))] 
      (.load (.tt true) (.fld (.idx (.var 14) (.op .rem .i64 (.conv .i64 (.var 16)) (.len 14)) 5) 0) [.sl] 
      (.need (.tt true) [(.cmp .geq (.op .rem .i64 (.conv .i64 (.op .quo .u8 (.var 20) (.lit 8))) (.op .add .i64 (.len 21) (.lit 1))) (.lit 0)), (.cmp .leq (.op .rem .i64 (.conv .i64 (.op .quo .u8 (.var 20) (.lit 8))) (.op .add .i64 (.len 21) (.lit 1))) (.cap 22))] 
      (.bnd (.slice (.val 22) none (some (.op .rem .i64 (.conv .i64 (.op .quo .u8 (.var 20) (.lit 8))) (.op .add .i64 (.len 21) (.lit 1)))) 7) 
      (.load (.tt true) (.fld (.idx (.var 14) (.op .rem .i64 (.conv .i64 (.var 16)) (.len 14)) 5) 0) [.sl] 
      (.need (.tt true) [(.cmp .geq (.op .rem .i64 (.conv .i64 (.op .quo .u8 (.var 20) (.lit 8))) (.op .add .i64 (.len 21) (.lit 1))) (.lit 0)), (.cmp .leq (.op .rem .i64 (.conv .i64 (.op .quo .u8 (.var 20) (.lit 8))) (.op .add .i64 (.len 21) (.lit 1))) (.len 24))] 
      (.bnd (.slice (.val 24) (some (.op .rem .i64 (.conv .i64 (.op .quo .u8 (.var 20) (.lit 8))) (.op .add .i64 (.len 21) (.lit 1)))) none 7) 
      (.both 
       (.alloc 87 [] (.lsl 0) 
       (.still (.tt true) (.fld (.idx (.var 14) (.op .rem .i64 (.conv .i64 (.var 16)) (.len 14)) 5) 0) [(.val 24)] 
       (.still (.tt true) (.fld (.idx (.var 14) (.op .rem .i64 (.conv .i64 (.var 16)) (.len 14)) 5) 0) [(.val 22)] 
       (.both 
        (.app 87 7 64 (.val 26) (.sl (.val 23)) 
        (.still (.tt true) (.fld (.idx (.var 14) (.op .rem .i64 (.conv .i64 (.var 16)) (.len 14)) 5) 0) [(.val 24)] 
        (.still (.tt true) (.fld (.idx (.var 14) (.op .rem .i64 (.conv .i64 (.var 16)) (.len 14)) 5) 0) [(.val 22)] 
        (.still (.tt true) (.fld (.idx (.var 14) (.op .rem .i64 (.conv .i64 (.var 16)) (.len 14)) 5) 0) [(.val 24)] 
        (.still (.tt true) (.fld (.idx (.var 14) (.op .rem .i64 (.conv .i64 (.var 16)) (.len 14)) 5) 0) [(.val 22)] 
        (.app 87 7 64 (.val 27) (.cells [(.int .u8 (.lit 7)), (.int .u8 (.lit 0)), (.int .i64 (.op .rem .i64 (.conv .i64 (.var 17)) (.var 13))), (.int .i64 (.op .rem .i64 (.conv .i64 (.var 18)) (.var 12))), (.int .i64 (.lit 0)), (.int .i64 (.lit 0)), (.cst (.slice none 0 0))] 1) 
        (.still (.tt true) (.fld (.idx (.var 14) (.op .rem .i64 (.conv .i64 (.var 16)) (.len 14)) 5) 0) [(.val 24)] 
        (.still (.tt true) (.fld (.idx (.var 14) (.op .rem .i64 (.conv .i64 (.var 16)) (.len 14)) 5) 0) [(.val 22)] 
        (.app 87 7 64 (.val 28) (.sl (.val 25)) 
        (.still (.tt true) (.fld (.idx (.var 14) (.op .rem .i64 (.conv .i64 (.var 16)) (.len 14)) 5) 0) [(.val 24)] 
        (.still (.tt true) (.fld (.idx (.var 14) (.op .rem .i64 (.conv .i64 (.var 16)) (.len 14)) 5) 0) [(.val 22)] 
        (.store (.fld (.idx (.var 14) (.op .rem .i64 (.conv .i64 (.var 16)) (.len 14)) 5) 0) [(.val 29)] 
        (.again 0 [(.int .i64 (.op .add .i64 (.var 15) (.lit 3)))]))))))))))))) 
        (.still (.tt true) (.fld (.idx (.var 14) (.op .rem .i64 (.conv .i64 (.var 16)) (.len 14)) 5) 0) [(.val 24)] 
        (.still (.tt true) (.fld (.idx (.var 14) (.op .rem .i64 (.conv .i64 (.var 16)) (.len 14)) 5) 0) [(.val 22)] 
        (.app 87 7 64 (.val 26) (.sl (.val 23)) 
        (.still (.tt true) (.fld (.idx (.var 14) (.op .rem .i64 (.conv .i64 (.var 16)) (.len 14)) 5) 0) [(.val 24)] 
        (.still (.tt true) (.fld (.idx (.var 14) (.op .rem .i64 (.conv .i64 (.var 16)) (.len 14)) 5) 0) [(.val 22)] 
        (.app 87 7 64 (.val 27) (.cells [(.int .u8 (.lit 7)), (.int .u8 (.lit 0)), (.int .i64 (.op .rem .i64 (.conv .i64 (.var 17)) (.var 13))), (.int .i64 (.op .rem .i64 (.conv .i64 (.var 18)) (.var 12))), (.int .i64 (.lit 0)), (.int .i64 (.lit 0)), (.cst (.slice none 0 0))] 1) 
        (.still (.tt true) (.fld (.idx (.var 14) (.op .rem .i64 (.conv .i64 (.var 16)) (.len 14)) 5) 0) [(.val 24)] 
        (.still (.tt true) (.fld (.idx (.var 14) (.op .rem .i64 (.conv .i64 (.var 16)) (.len 14)) 5) 0) [(.val 22)] 
        (.app 87 7 64 (.val 28) (.sl (.val 25)) 
        (.still (.tt true) (.fld (.idx (.var 14) (.op .rem .i64 (.conv .i64 (.var 16)) (.len 14)) 5) 0) [(.val 24)] 
        (.still (.tt true) (.fld (.idx (.var 14) (.op .rem .i64 (.conv .i64 (.var 16)) (.len 14)) 5) 0) [(.val 22)] 
        (.store (.fld (.idx (.var 14) (.op .rem .i64 (.conv .i64 (.var 16)) (.len 14)) 5) 0) [(.val 29)] 
        (.again 0 [(.int .i64 (.op .add .i64 (.var 15) (.lit 3)))]))))))))))))))))) 
       (.still (.tt true) (.fld (.idx (.var 14) (.op .rem .i64 (.conv .i64 (.var 16)) (.len 14)) 5) 0) [(.val 24)] 
       (.still (.tt true) (.fld (.idx (.var 14) (.op .rem .i64 (.conv .i64 (.var 16)) (.len 14)) 5) 0) [(.val 22)] 
       (.alloc 87 [] (.lsl 0) 
       (.still (.tt true) (.fld (.idx (.var 14) (.op .rem .i64 (.conv .i64 (.var 16)) (.len 14)) 5) 0) [(.val 24)] 
       (.still (.tt true) (.fld (.idx (.var 14) (.op .rem .i64 (.conv .i64 (.var 16)) (.len 14)) 5) 0) [(.val 22)] 
       (.app 87 7 64 (.val 26) (.sl (.val 23)) 
       (.still (.tt true) (.fld (.idx (.var 14) (.op .rem .i64 (.conv .i64 (.var 16)) (.len 14)) 5) 0) [(.val 24)] 
       (.still (.tt true) (.fld (.idx (.var 14) (.op .rem .i64 (.conv .i64 (.var 16)) (.len 14)) 5) 0) [(.val 22)] 
       (.app 87 7 64 (.val 27) (.cells [(.int .u8 (.lit 7)), (.int .u8 (.lit 0)), (.int .i64 (.op .rem .i64 (.conv .i64 (.var 17)) (.var 13))), (.int .i64 (.op .rem .i64 (.conv .i64 (.var 18)) (.var 12))), (.int .i64 (.lit 0)), (.int .i64 (.lit 0)), (.cst (.slice none 0 0))] 1) 
       (.still (.tt true) (.fld (.idx (.var 14) (.op .rem .i64 (.conv .i64 (.var 16)) (.len 14)) 5) 0) [(.val 24)] 
       (.still (.tt true) (.fld (.idx (.var 14) (.op .rem .i64 (.conv .i64 (.var 16)) (.len 14)) 5) 0) [(.val 22)] 
       (.app 87 7 64 (.val 28) (.sl (.val 25)) 
       (.still (.tt true) (.fld (.idx (.var 14) (.op .rem .i64 (.conv .i64 (.var 16)) (.len 14)) 5) 0) [(.val 24)] 
       (.still (.tt true) (.fld (.idx (.var 14) (.op .rem .i64 (.conv .i64 (.var 16)) (.len 14)) 5) 0) [(.val 22)] 
       (.store (.fld (.idx (.var 14) (.op .rem .i64 (.conv .i64 (.var 16)) (.len 14)) 5) 0) [(.val 29)] 
       (.again 0 [(.int .i64 (.op .add .i64 (.var 15) (.lit 3)))]))))))))))))))))))))))))))))))))))))))))))
     (.done (.agg [(.int .i64 (.var 11)), (.int .i64 (.var 12)), (.int .i64 (.var 13)), (.val 14)]) []))))))
def l18 : List (Nat × List Nat × List (Nat × Nat) × List Nat) := [(8, [47], [(9, 0), (9, 1), (9, 2), (9, 3)], [48, 49, 12, 50, 51, 52, 53, 13, 54, 55, 56, 57, 58, 59, 60, 61, 14, 62, 63, 64, 65, 66, 67, 15, 68, 69, 70, 71, 72, 73, 74, 75, 76, 77, 78, 79, 80, 81, 82, 83, 84, 85, 86, 87, 88, 89, 90, 91, 92, 93, 94, 95, 96, 97, 98, 99, 100, 101, 102, 16, 103, 104, 105, 106, 107, 108, 109, 110, 111, 112, 113, 114, 115, 116, 117, 118, 119, 120, 121, 122, 123, 124, 125, 126, 127, 128, 129, 130, 131]), (12, [59], [(9, 0), (9, 1), (9, 2), (9, 3)], [60, 61, 14, 62, 63, 64, 65, 66, 67, 15, 68, 69, 70, 71, 72, 73, 74, 75, 76, 77, 78, 79, 80, 81, 82, 83, 84, 85, 86, 87, 88, 89, 90, 91, 92, 93, 94, 95, 96, 97, 98, 99, 100, 101, 102, 16, 103, 104, 105, 106, 107, 108, 109, 110, 111, 112, 113, 114, 115, 116, 117, 118, 119]), (17, [100], [(9, 0), (9, 1), (9, 2), (9, 3)], [101, 102, 16, 103, 104, 105, 106, 107, 108, 109, 110, 111, 112, 113, 114, 115, 116, 117, 118]), (25, [17], [], [132, 133, 134, 135, 136, 137, 138, 139, 140, 143, 144, 145, 146, 147, 148, 149, 150, 151, 152, 153, 154, 18, 155, 156, 157, 158, 159, 160, 161, 162, 163, 164, 165, 166, 167, 168, 169, 170, 171, 172, 173, 19, 174, 175, 176, 177, 178, 179, 180, 181, 182, 183, 184, 185, 186, 187, 188, 189, 190, 191, 192, 193, 194, 195, 196, 197, 198, 199, 200, 201, 202, 203, 204, 205, 206, 207, 208, 209, 210, 211, 20, 212, 213, 214, 215, 216, 217, 218, 219, 220, 221, 222, 223, 224, 225, 226, 227, 228, 229, 230, 231, 232, 141, 142])]
theorem e18 : ev Try.prog ⟨allF, [213], l18⟩ (bodyOf Try.f18) 0 (initSt [(.agg [(.int .u8 (.var 0)), (.int .u8 (.var 1)), (.int .u8 (.var 2)), (.val 3)]), (.int .u8 (.var 4)), (.int .u8 (.var 5)), (.val 6)] [] Try.f18.ntmps [.int .u8, .int .u8, .int .u8, .sl, .int .u8, .int .u8, .sl]) (finK Try.prog Try.f18.results []) = t18 := by kernel_rfl
theorem c18 {G : List Value} {h : H} {R : Value → List (List Value) → H → Prop} (hG : FitsL [.int .u8, .int .u8, .int .u8, .sl, .int .u8, .int .u8, .sl] G) (H : holds Try.prog R t18 G [] h) : CallsA Try.prog 18 (fun e => SV.denL G (fun k => e (k - 1000000)) [(.agg [(.int .u8 (.var 0)), (.int .u8 (.var 1)), (.int .u8 (.var 2)), (.val 3)]), (.int .u8 (.var 4)), (.int .u8 (.var 5)), (.val 6)]) ([].map (SV.denL G dE)) h R :=
  CallsA.of_ev (cf := ⟨allF, [213], l18⟩) (fn := Try.f18) (c := bodyOf Try.f18) (pcs := []) Try.func18 (by rfl) callOK (by rfl) hG (by rfl) (by rw [show ([] : List (List SV)).map List.length = [] from rfl, e18]; exact H)
/-- What is left of outworker/wire.Code. -/
def t19 : Out :=
 (.call 43 [(.agg [(.int .i64 (.var 0)), (.int .i64 (.var 1)), (.int .i64 (.var 2)), (.val 3)])] [] [] [] [(true, [.int .i64, .int .i64, .int .i64])] 
 (.ite (.cmp .neq (.var 4) (.lit 0))
  (.done (.tup [(.cst (.slice none 0 0)), (.int .i64 (.lit 30))]) [])
  (.alloc 3 [(.int .i64 (.var 0)), (.int .i64 (.var 1)), (.int .i64 (.var 2))] (.lsl 3) 
  (.call 36 [(.loc 10 0), (.val 7)] [10] [[(.cst (.slice none 0 0))]] [[.sl]] [] 
  (.call 37 [(.loc 10 0), (.val 3)] [10] [[(.val 8)]] [[.sl]] [] 
  (.done (.tup [(.val 9), (.int .i64 (.lit 0))]) []))))))
def l19 : List (Nat × List Nat × List (Nat × Nat) × List Nat) := []
theorem e19 : ev Try.prog ⟨allF, [18], l19⟩ (bodyOf Try.f19) 0 (initSt [(.agg [(.int .i64 (.var 0)), (.int .i64 (.var 1)), (.int .i64 (.var 2)), (.val 3)])] [] Try.f19.ntmps [.int .i64, .int .i64, .int .i64, .sl]) (finK Try.prog Try.f19.results []) = t19 := by kernel_rfl
theorem c19 {G : List Value} {h : H} {R : Value → List (List Value) → H → Prop} (hG : FitsL [.int .i64, .int .i64, .int .i64, .sl] G) (H : holds Try.prog R t19 G [] h) : CallsA Try.prog 19 (fun e => SV.denL G (fun k => e (k - 1000000)) [(.agg [(.int .i64 (.var 0)), (.int .i64 (.var 1)), (.int .i64 (.var 2)), (.val 3)])]) ([].map (SV.denL G dE)) h R :=
  CallsA.of_ev (cf := ⟨allF, [18], l19⟩) (fn := Try.f19) (c := bodyOf Try.f19) (pcs := []) Try.func19 (by rfl) callOK (by rfl) hG (by rfl) (by rw [show ([] : List (List SV)).map List.length = [] from rfl, e19]; exact H)
/-- What is left of outworker/outworkerref04.Code. -/
def t20 : Out :=
 (.ite (.ite (.ite (.ite (.ite (.ite (.ite (.ite (.cmp .lss (.var 0) (.lit 0)) (.tt true) (.cmp .gtr (.var 0) (.lit 4))) (.tt true) (.cmp .lss (.var 1) (.lit 3))) (.tt true) (.cmp .gtr (.var 1) (.lit 8))) (.tt true) (.cmp .lss (.var 2) (.var 0))) (.tt true) (.cmp .gtr (.var 2) (.lit 64))) (.tt true) (.cmp .eql (.len 3) (.lit 0))) (.tt true) (.cmp .gtr (.len 3) (.lit 16)))
  (.done (.agg [(.int .i64 (.lit 2)), (.int .i64 (.lit (-1))), (.int .i64 (.lit (-1)))]) [])
  (.call 38 [(.val 3), (.int .i64 (.var 1)), (.int .i64 (.var 2)), (.int .i64 (.lit 400))] [] [] [] [(true, [.int .i64, .int .i64, .int .i64])] 
  (.done (.agg [(.int .i64 (.var 4)), (.int .i64 (.var 5)), (.int .i64 (.var 6))]) [])))
def l20 : List (Nat × List Nat × List (Nat × Nat) × List Nat) := []
theorem e20 : ev Try.prog ⟨allF, [], l20⟩ (bodyOf Try.f20) 0 (initSt [(.agg [(.int .i64 (.var 0)), (.int .i64 (.var 1)), (.int .i64 (.var 2)), (.val 3)])] [] Try.f20.ntmps [.int .i64, .int .i64, .int .i64, .sl]) (finK Try.prog Try.f20.results []) = t20 := by kernel_rfl
theorem c20 {G : List Value} {h : H} {R : Value → List (List Value) → H → Prop} (hG : FitsL [.int .i64, .int .i64, .int .i64, .sl] G) (H : holds Try.prog R t20 G [] h) : CallsA Try.prog 20 (fun e => SV.denL G (fun k => e (k - 1000000)) [(.agg [(.int .i64 (.var 0)), (.int .i64 (.var 1)), (.int .i64 (.var 2)), (.val 3)])]) ([].map (SV.denL G dE)) h R :=
  CallsA.of_ev (cf := ⟨allF, [], l20⟩) (fn := Try.f20) (c := bodyOf Try.f20) (pcs := []) Try.func20 (by rfl) callOK (by rfl) hG (by rfl) (by rw [show ([] : List (List SV)).map List.length = [] from rfl, e20]; exact H)
/-- What is left of outworker/outworkerref04.CodeBytes. -/
def t21 : Out :=
 (.call 40 [(.cst (.slice none 0 0)), (.int .u64 (.conv .u64 (.var 0)))] [] [] [] [(false, [.sl])] 
 (.call 40 [(.val 4), (.int .u64 (.conv .u64 (.var 1)))] [] [] [] [(false, [.sl])] 
 (.call 40 [(.val 5), (.int .u64 (.conv .u64 (.var 2)))] [] [] [] [(false, [.sl])] 
 (.call 39 [(.val 6), (.val 3)] [] [] [] [(false, [.sl])] 
 (.done (.val 7) [])))))
def l21 : List (Nat × List Nat × List (Nat × Nat) × List Nat) := []
theorem e21 : ev Try.prog ⟨allF, [], l21⟩ (bodyOf Try.f21) 0 (initSt [(.agg [(.int .i64 (.var 0)), (.int .i64 (.var 1)), (.int .i64 (.var 2)), (.val 3)])] [] Try.f21.ntmps [.int .i64, .int .i64, .int .i64, .sl]) (finK Try.prog Try.f21.results []) = t21 := by kernel_rfl
theorem c21 {G : List Value} {h : H} {R : Value → List (List Value) → H → Prop} (hG : FitsL [.int .i64, .int .i64, .int .i64, .sl] G) (H : holds Try.prog R t21 G [] h) : CallsA Try.prog 21 (fun e => SV.denL G (fun k => e (k - 1000000)) [(.agg [(.int .i64 (.var 0)), (.int .i64 (.var 1)), (.int .i64 (.var 2)), (.val 3)])]) ([].map (SV.denL G dE)) h R :=
  CallsA.of_ev (cf := ⟨allF, [], l21⟩) (fn := Try.f21) (c := bodyOf Try.f21) (pcs := []) Try.func21 (by rfl) callOK (by rfl) hG (by rfl) (by rw [show ([] : List (List SV)).map List.length = [] from rfl, e21]; exact H)
/-- What is left of outworker/wire.Cert. -/
def t22 : Out :=
 (.ite (.cmp .gtr (.len 0) (.lit 16))
  (.done (.tup [(.cst (.slice none 0 0)), (.int .i64 (.lit 9))]) [])
  (.alloc 3 [(.int .i64 (.len 0))] (.lsl 1) 
  (.call 36 [(.loc 10 0), (.val 1)] [10] [[(.cst (.slice none 0 0))]] [[.sl]] [] 
  (.loop 0 [(.int .i64 (.lit 0)), (.val 2)] [.int .i64, .sl] 
   (.ite (.cmp .lss (.var 3) (.len 0))
    (.need (.tt true) [(.cmp .geq (.var 3) (.lit 0)), (.cmp .lss (.var 3) (.len 0))] 
    (.load (.tt true) (.idx (.var 0) (.var 3) 1) [.sl] 
    (.alloc 3 [(.int .i64 (.len 5))] (.lsl 1) 
    (.call 36 [(.loc 10 0), (.val 6)] [10] [[(.val 4)]] [[.sl]] [] 
    (.loop 1 [(.int .i64 (.lit 0)), (.val 7)] [.int .i64, .sl] 
     (.ite (.cmp .lss (.var 8) (.len 5))
      (.need (.tt true) [(.cmp .geq (.var 8) (.lit 0)), (.cmp .lss (.var 8) (.len 5))] 
      (.load (.tt true) (.idx (.var 5) (.var 8) 2) [.int .i64, .int .i64] 
      (.ite (.ite (.ite (.ite (.cmp .lss (.var 10) (.lit 0)) (.tt true) (.cmp .geq (.var 10) (.lit 4096))) (.tt true) (.cmp .lss (.var 11) (.lit 0))) (.tt true) (.cmp .geq (.var 11) (.lit 4096)))
       (.done (.tup [(.cst (.slice none 0 0)), (.int .i64 (.lit 2))]) [])
       (.alloc 3 [(.int .i64 (.var 10)), (.int .i64 (.var 11))] (.lsl 2) 
       (.call 36 [(.loc 10 0), (.val 12)] [10] [[(.val 9)]] [[.sl]] [] 
       (.again 1 [(.int .i64 (.op .add .i64 (.var 8) (.lit 1))), (.val 13)]))))))
      (.again 0 [(.int .i64 (.op .add .i64 (.var 3) (.lit 1))), (.val 9)])))))))
    (.done (.tup [(.val 4), (.int .i64 (.lit 0))]) []))))))
def l22 : List (Nat × List Nat × List (Nat × Nat) × List Nat) := [(6, [21], [(10, 0)], [22, 23, 24, 6, 25, 26, 27, 28, 29, 30, 31, 32, 33, 34, 35, 8, 36, 37, 38, 39, 40, 41, 42, 43, 44, 45, 46, 47, 48, 49, 50, 51, 52, 53, 2, 3, 54, 55, 56, 57, 58, 59, 60, 61, 62]), (10, [32], [(10, 0)], [33, 34, 35, 8, 36, 37, 38, 39, 40, 41, 42, 43, 44, 45, 46, 47, 48, 49, 50, 51, 52, 53, 2, 3, 54, 55, 56, 57, 58, 59, 60, 61])]
theorem e22 : ev Try.prog ⟨allF, [17, 28, 59], l22⟩ (bodyOf Try.f22) 0 (initSt [(.val 0)] [] Try.f22.ntmps [.sl]) (finK Try.prog Try.f22.results []) = t22 := by kernel_rfl
theorem c22 {G : List Value} {h : H} {R : Value → List (List Value) → H → Prop} (hG : FitsL [.sl] G) (H : holds Try.prog R t22 G [] h) : CallsA Try.prog 22 (fun e => SV.denL G (fun k => e (k - 1000000)) [(.val 0)]) ([].map (SV.denL G dE)) h R :=
  CallsA.of_ev (cf := ⟨allF, [17, 28, 59], l22⟩) (fn := Try.f22) (c := bodyOf Try.f22) (pcs := []) Try.func22 (by rfl) callOK (by rfl) hG (by rfl) (by rw [show ([] : List (List SV)).map List.length = [] from rfl, e22]; exact H)
/-- What is left of outworker/outworkerref04.CertBytes. -/
def t23 : Out :=
 (.ite (.cmp .gtr (.len 0) (.lit 16))
  (.done (.tup [(.cst (.slice none 0 0)), (.int .i64 (.lit 9))]) [])
  (.call 40 [(.cst (.slice none 0 0)), (.int .u64 (.conv .u64 (.len 0)))] [] [] [] [(false, [.sl])] 
  (.loop 0 [(.val 1), (.int .i64 (.lit 0))] [.sl, .int .i64] 
   (.ite (.cmp .lss (.var 3) (.len 0))
    (.need (.tt true) [(.cmp .geq (.var 3) (.lit 0)), (.cmp .lss (.var 3) (.len 0))] 
    (.load (.tt true) (.idx (.var 0) (.var 3) 1) [.sl] 
    (.call 40 [(.val 2), (.int .u64 (.conv .u64 (.len 4)))] [] [] [] [(false, [.sl])] 
    (.loop 1 [(.val 5), (.int .i64 (.lit 0))] [.sl, .int .i64] 
     (.need (.tt true) [(.cmp .geq (.var 3) (.lit 0)), (.cmp .lss (.var 3) (.len 0))] 
     (.load (.tt true) (.idx (.var 0) (.var 3) 1) [.sl] 
     (.ite (.cmp .lss (.var 7) (.len 8))
      (.need (.tt true) [(.cmp .geq (.var 3) (.lit 0)), (.cmp .lss (.var 3) (.len 0))] 
      (.load (.tt true) (.idx (.var 0) (.var 3) 1) [.sl] 
      (.need (.tt true) [(.cmp .geq (.var 7) (.lit 0)), (.cmp .lss (.var 7) (.len 9))] 
      (.load (.tt true) (.idx (.var 9) (.var 7) 2) [.int .i64, .int .i64] 
      (.ite (.ite (.ite (.ite (.cmp .lss (.var 10) (.lit 0)) (.tt true) (.cmp .gtr (.var 10) (.lit 4095))) (.tt true) (.cmp .lss (.var 11) (.lit 0))) (.tt true) (.cmp .gtr (.var 11) (.lit 4095)))
       (.done (.tup [(.cst (.slice none 0 0)), (.int .i64 (.lit 2))]) [])
       (.call 40 [(.val 6), (.int .u64 (.conv .u64 (.var 10)))] [] [] [] [(false, [.sl])] 
       (.call 40 [(.val 12), (.int .u64 (.conv .u64 (.var 11)))] [] [] [] [(false, [.sl])] 
       (.again 1 [(.val 13), (.int .i64 (.op .add .i64 (.var 7) (.lit 1)))]))))))))
      (.again 0 [(.val 6), (.int .i64 (.op .add .i64 (.var 3) (.lit 1)))]))))))))
    (.done (.tup [(.val 2), (.int .i64 (.lit 0))]) [])))))
def l23 : List (Nat × List Nat × List (Nat × Nat) × List Nat) := [(5, [4, 5], [], [15, 16, 17, 18, 21, 22, 23, 24, 25, 26, 27, 28, 6, 29, 30, 31, 32, 33, 34, 35, 38, 39, 40, 41, 42, 43, 44, 7, 45, 46, 47, 48, 49, 50, 51, 52, 53, 54, 55, 56, 57, 58, 59, 60, 61, 62, 2, 3, 63, 64, 65, 66, 67, 68, 69, 70, 71, 36, 37, 19, 20]), (9, [4, 6], [], [29, 30, 31, 32, 33, 34, 35, 38, 39, 40, 41, 42, 43, 44, 7, 45, 46, 47, 48, 49, 50, 51, 52, 53, 54, 55, 56, 57, 58, 59, 60, 61, 62, 2, 3, 63, 64, 65, 66, 67, 68, 69, 70, 71, 36, 37])]
theorem e23 : ev Try.prog ⟨allF, [], l23⟩ (bodyOf Try.f23) 0 (initSt [(.val 0)] [] Try.f23.ntmps [.sl]) (finK Try.prog Try.f23.results []) = t23 := by kernel_rfl
theorem c23 {G : List Value} {h : H} {R : Value → List (List Value) → H → Prop} (hG : FitsL [.sl] G) (H : holds Try.prog R t23 G [] h) : CallsA Try.prog 23 (fun e => SV.denL G (fun k => e (k - 1000000)) [(.val 0)]) ([].map (SV.denL G dE)) h R :=
  CallsA.of_ev (cf := ⟨allF, [], l23⟩) (fn := Try.f23) (c := bodyOf Try.f23) (pcs := []) Try.func23 (by rfl) callOK (by rfl) hG (by rfl) (by rw [show ([] : List (List SV)).map List.length = [] from rfl, e23]; exact H)
/-- What is left of outworker/outworkerref04.SameCerts. -/
def t27 : Out :=
 (.ite (.cmp .neq (.len 0) (.len 1))
  (.done (.bool (.tt false)) [])
  (.loop 0 [(.int .i64 (.lit 0))] [.int .i64] 
   (.ite (.cmp .lss (.var 2) (.len 0))
    (.need (.tt true) [(.cmp .geq (.var 2) (.lit 0)), (.cmp .lss (.var 2) (.len 0))] 
    (.load (.tt true) (.idx (.var 0) (.var 2) 1) [.sl] 
    (.need (.tt true) [(.cmp .geq (.var 2) (.lit 0)), (.cmp .lss (.var 2) (.len 1))] 
    (.load (.tt true) (.idx (.var 1) (.var 2) 1) [.sl] 
    (.call 50 [(.val 3), (.val 4)] [] [] [] [(false, [.bool])] 
    (.ite (.not (.var 5))
     (.done (.bool (.tt false)) [])
     (.again 0 [(.int .i64 (.op .add .i64 (.var 2) (.lit 1)))])))))))
    (.done (.bool (.tt true)) []))))
def l27 : List (Nat × List Nat × List (Nat × Nat) × List Nat) := [(4, [5], [], [11, 12, 13, 14, 17, 18, 19, 20, 21, 22, 23, 24, 25, 26, 4, 15, 16])]
theorem e27 : ev Try.prog ⟨allF, [], l27⟩ (bodyOf Try.f27) 0 (initSt [(.val 0), (.val 1)] [] Try.f27.ntmps [.sl, .sl]) (finK Try.prog Try.f27.results []) = t27 := by kernel_rfl
theorem c27 {G : List Value} {h : H} {R : Value → List (List Value) → H → Prop} (hG : FitsL [.sl, .sl] G) (H : holds Try.prog R t27 G [] h) : CallsA Try.prog 27 (fun e => SV.denL G (fun k => e (k - 1000000)) [(.val 0), (.val 1)]) ([].map (SV.denL G dE)) h R :=
  CallsA.of_ev (cf := ⟨allF, [], l27⟩) (fn := Try.f27) (c := bodyOf Try.f27) (pcs := []) Try.func27 (by rfl) callOK (by rfl) hG (by rfl) (by rw [show ([] : List (List SV)).map List.length = [] from rfl, e27]; exact H)
/-- What is left of outworker/outworkerref04.SameCodes. -/
def t32 : Out :=
 (.ite (.ite (.ite (.cmp .eql (.var 0) (.var 4)) (.cmp .eql (.var 1) (.var 5)) (.tt false)) (.cmp .eql (.var 2) (.var 6)) (.tt false))
  (.call 41 [(.val 3), (.val 7)] [] [] [] [(false, [.bool])] 
  (.done (.bool (.var 8)) []))
  (.done (.bool (.tt false)) []))
def l32 : List (Nat × List Nat × List (Nat × Nat) × List Nat) := []
theorem e32 : ev Try.prog ⟨allF, [], l32⟩ (bodyOf Try.f32) 0 (initSt [(.agg [(.int .i64 (.var 0)), (.int .i64 (.var 1)), (.int .i64 (.var 2)), (.val 3)]), (.agg [(.int .i64 (.var 4)), (.int .i64 (.var 5)), (.int .i64 (.var 6)), (.val 7)])] [] Try.f32.ntmps [.int .i64, .int .i64, .int .i64, .sl, .int .i64, .int .i64, .int .i64, .sl]) (finK Try.prog Try.f32.results []) = t32 := by kernel_rfl
theorem c32 {G : List Value} {h : H} {R : Value → List (List Value) → H → Prop} (hG : FitsL [.int .i64, .int .i64, .int .i64, .sl, .int .i64, .int .i64, .int .i64, .sl] G) (H : holds Try.prog R t32 G [] h) : CallsA Try.prog 32 (fun e => SV.denL G (fun k => e (k - 1000000)) [(.agg [(.int .i64 (.var 0)), (.int .i64 (.var 1)), (.int .i64 (.var 2)), (.val 3)]), (.agg [(.int .i64 (.var 4)), (.int .i64 (.var 5)), (.int .i64 (.var 6)), (.val 7)])]) ([].map (SV.denL G dE)) h R :=
  CallsA.of_ev (cf := ⟨allF, [], l32⟩) (fn := Try.f32) (c := bodyOf Try.f32) (pcs := []) Try.func32 (by rfl) callOK (by rfl) hG (by rfl) (by rw [show ([] : List (List SV)).map List.length = [] from rfl, e32]; exact H)
/-- What is left of outworker/ir.Check. -/
def t35 : Out :=
 (.ite (.ite (.ite (.ite (.ite (.ite (.cmp .lss (.var 0) (.lit 0)) (.tt true) (.cmp .gtr (.var 0) (.lit 4))) (.tt true) (.cmp .lss (.var 1) (.var 0))) (.tt true) (.cmp .gtr (.var 1) (.lit 32))) (.tt true) (.cmp .lss (.len 2) (.lit 1))) (.tt true) (.cmp .gtr (.len 2) (.lit 16)))
  (.done (.agg [(.int .i64 (.lit 2)), (.int .i64 (.lit (-1))), (.int .i64 (.lit (-1)))]) [])
  (.loop 0 [(.int .i64 (.lit 0))] [.int .i64] 
   (.ite (.cmp .lss (.var 3) (.len 2))
    (.need (.tt true) [(.cmp .geq (.var 3) (.lit 0)), (.cmp .lss (.var 3) (.len 2))] 
    (.load (.tt true) (.idx (.var 2) (.var 3) 5) [.sl, .int .u8, .int .i64, .int .i64, .int .i64] 
    (.ite (.cmp .gtr (.len 4) (.lit 32))
     (.done (.agg [(.int .i64 (.lit 9)), (.int .i64 (.var 3)), (.int .i64 (.lit (-1)))]) [])
     (.loop 1 [(.int .i64 (.lit 0))] [.int .i64] 
      (.ite (.cmp .lss (.var 9) (.len 4))
       (.need (.tt true) [(.cmp .geq (.var 9) (.lit 0)), (.cmp .lss (.var 9) (.len 4))] 
       (.load (.tt true) (.idx (.var 4) (.var 9) 7) [.int .u8, .int .u8, .int .i64, .int .i64, .int .i64, .int .i64, .sl] 
       (.call 53 [(.agg [(.int .u8 (.var 10)), (.int .u8 (.var 11)), (.int .i64 (.var 12)), (.int .i64 (.var 13)), (.int .i64 (.var 14)), (.int .i64 (.var 15)), (.val 16)]), (.int .i64 (.var 1))] [] [] [] [(false, [.int .i64])] 
       (.ite (.cmp .neq (.var 17) (.lit 0))
        (.done (.agg [(.int .i64 (.var 17)), (.int .i64 (.var 3)), (.int .i64 (.var 9))]) [])
        (.again 1 [(.int .i64 (.op .add .i64 (.var 9) (.lit 1)))])))))
       (.call 54 [(.agg [(.int .u8 (.var 5)), (.int .i64 (.var 6)), (.int .i64 (.var 7)), (.int .i64 (.var 8))]), (.int .i64 (.var 1)), (.int .i64 (.len 2))] [] [] [] [(false, [.int .i64])] 
       (.ite (.cmp .neq (.var 10) (.lit 0))
        (.done (.agg [(.int .i64 (.var 10)), (.int .i64 (.var 3)), (.int .i64 (.len 4))]) [])
        (.again 0 [(.int .i64 (.op .add .i64 (.var 3) (.lit 1)))]))))))))
    (.done (.agg [(.int .i64 (.lit 0)), (.int .i64 (.lit 0)), (.int .i64 (.lit 0))]) []))))
def l35 : List (Nat × List Nat × List (Nat × Nat) × List Nat) := [(4, [45], [], [46, 47, 48, 49, 4, 3, 50, 51, 52, 53, 54, 55, 56, 57, 58, 59, 60, 61, 62, 63, 6, 5, 64, 65, 66, 67, 7, 68, 69, 70, 71, 72, 73, 74, 75, 76, 77, 78, 79, 80, 81, 82, 8, 83, 84, 85, 86, 87, 88, 89, 90, 91]), (9, [59], [], [60, 61, 62, 63, 6, 5, 64, 65, 66, 67, 7, 68, 69, 70, 71, 72, 73, 74])]
theorem e35 : ev Try.prog ⟨allF, [], l35⟩ (bodyOf Try.f35) 0 (initSt [(.agg [(.int .i64 (.var 0)), (.int .i64 (.var 1)), (.val 2)])] [] Try.f35.ntmps [.int .i64, .int .i64, .sl]) (finK Try.prog Try.f35.results []) = t35 := by kernel_rfl
theorem c35 {G : List Value} {h : H} {R : Value → List (List Value) → H → Prop} (hG : FitsL [.int .i64, .int .i64, .sl] G) (H : holds Try.prog R t35 G [] h) : CallsA Try.prog 35 (fun e => SV.denL G (fun k => e (k - 1000000)) [(.agg [(.int .i64 (.var 0)), (.int .i64 (.var 1)), (.val 2)])]) ([].map (SV.denL G dE)) h R :=
  CallsA.of_ev (cf := ⟨allF, [], l35⟩) (fn := Try.f35) (c := bodyOf Try.f35) (pcs := []) Try.func35 (by rfl) callOK (by rfl) hG (by rfl) (by rw [show ([] : List (List SV)).map List.length = [] from rfl, e35]; exact H)
/-- What is left of outworker/outworkerref04.blocks. -/
def t38 : Out :=
 (.loop 0 [(.int .i64 (.lit 0))] [.int .i64] 
  (.ite (.cmp .lss (.var 4) (.len 0))
   (.need (.tt true) [(.cmp .geq (.var 4) (.lit 0)), (.cmp .lss (.var 4) (.len 0))] 
   (.load (.tt true) (.fld (.idx (.var 0) (.var 4) 5) 0) [.sl] 
   (.ite (.cmp .gtr (.len 5) (.var 3))
    (.done (.agg [(.int .i64 (.lit 9)), (.int .i64 (.var 4)), (.int .i64 (.lit (-1)))]) [])
    (.loop 1 [(.int .i64 (.lit 0))] [.int .i64] 
     (.need (.tt true) [(.cmp .geq (.var 4) (.lit 0)), (.cmp .lss (.var 4) (.len 0))] 
     (.load (.tt true) (.fld (.idx (.var 0) (.var 4) 5) 0) [.sl] 
     (.ite (.cmp .lss (.var 6) (.len 7))
      (.need (.tt true) [(.cmp .geq (.var 4) (.lit 0)), (.cmp .lss (.var 4) (.len 0))] 
      (.load (.tt true) (.fld (.idx (.var 0) (.var 4) 5) 0) [.sl] 
      (.need (.tt true) [(.cmp .geq (.var 6) (.lit 0)), (.cmp .lss (.var 6) (.len 8))] 
      (.load (.tt true) (.idx (.var 8) (.var 6) 7) [.int .u8, .int .u8, .int .i64, .int .i64, .int .i64, .int .i64, .sl] 
      (.call 57 [(.agg [(.int .u8 (.var 9)), (.int .u8 (.var 10)), (.int .i64 (.var 11)), (.int .i64 (.var 12)), (.int .i64 (.var 13)), (.int .i64 (.var 14)), (.val 15)]), (.int .i64 (.var 1)), (.int .i64 (.var 2))] [] [] [] [(false, [.int .i64])] 
      (.ite (.cmp .neq (.var 16) (.lit 0))
       (.done (.agg [(.int .i64 (.var 16)), (.int .i64 (.var 4)), (.int .i64 (.var 6))]) [])
       (.again 1 [(.int .i64 (.op .add .i64 (.var 6) (.lit 1)))])))))))
      (.need (.tt true) [(.cmp .geq (.var 4) (.lit 0)), (.cmp .lss (.var 4) (.len 0))] 
      (.load (.tt true) (.fld (.idx (.var 0) (.var 4) 5) 1) [.int .u8, .int .i64, .int .i64, .int .i64] 
      (.call 58 [(.agg [(.int .u8 (.var 8)), (.int .i64 (.var 9)), (.int .i64 (.var 10)), (.int .i64 (.var 11))]), (.int .i64 (.var 1)), (.int .i64 (.len 0)), (.int .i64 (.ite (.cmp .geq (.var 2) (.lit 0)) (.lit 23) (.lit 21)))] [] [] [] [(false, [.int .i64])] 
      (.ite (.cmp .neq (.var 12) (.lit 0))
       (.need (.tt true) [(.cmp .geq (.var 4) (.lit 0)), (.cmp .lss (.var 4) (.len 0))] 
       (.load (.tt true) (.fld (.idx (.var 0) (.var 4) 5) 0) [.sl] 
       (.done (.agg [(.int .i64 (.var 12)), (.int .i64 (.var 4)), (.int .i64 (.len 13))]) [])))
       (.again 0 [(.int .i64 (.op .add .i64 (.var 4) (.lit 1)))]))))))))))))
   (.done (.agg [(.int .i64 (.lit 0)), (.int .i64 (.lit 0)), (.int .i64 (.lit 0))]) [])))
def l38 : List (Nat × List Nat × List (Nat × Nat) × List Nat) := [(5, [10], [], [16, 17, 18, 19, 22, 23, 24, 25, 26, 27, 28, 29, 30, 31, 11, 32, 33, 34, 35, 36, 37, 38, 39, 42, 43, 44, 45, 46, 47, 48, 49, 50, 51, 52, 12, 53, 54, 55, 56, 57, 58, 40, 41, 59, 60, 61, 62, 63, 64, 65, 66, 67, 68, 13, 69, 70, 71, 72, 73, 74, 75, 76, 77, 78, 79, 20, 21]), (10, [11], [], [32, 33, 34, 35, 36, 37, 38, 39, 42, 43, 44, 45, 46, 47, 48, 49, 50, 51, 52, 12, 53, 54, 55, 56, 57, 58, 40, 41])]
theorem e38 : ev Try.prog ⟨allF, [], l38⟩ (bodyOf Try.f38) 0 (initSt [(.val 0), (.int .i64 (.var 1)), (.int .i64 (.var 2)), (.int .i64 (.var 3))] [] Try.f38.ntmps [.sl, .int .i64, .int .i64, .int .i64]) (finK Try.prog Try.f38.results []) = t38 := by kernel_rfl
theorem c38 {G : List Value} {h : H} {R : Value → List (List Value) → H → Prop} (hG : FitsL [.sl, .int .i64, .int .i64, .int .i64] G) (H : holds Try.prog R t38 G [] h) : CallsA Try.prog 38 (fun e => SV.denL G (fun k => e (k - 1000000)) [(.val 0), (.int .i64 (.var 1)), (.int .i64 (.var 2)), (.int .i64 (.var 3))]) ([].map (SV.denL G dE)) h R :=
  CallsA.of_ev (cf := ⟨allF, [], l38⟩) (fn := Try.f38) (c := bodyOf Try.f38) (pcs := []) Try.func38 (by rfl) callOK (by rfl) hG (by rfl) (by rw [show ([] : List (List SV)).map List.length = [] from rfl, e38]; exact H)
/-- What is left of outworker/outworkerref04.Bytes. -/
def t39 : Out :=
 (.call 40 [(.val 0), (.int .u64 (.conv .u64 (.len 1)))] [] [] [] [(false, [.sl])] 
 (.loop 0 [(.val 2), (.int .i64 (.lit 0))] [.sl, .int .i64] 
  (.ite (.cmp .lss (.var 4) (.len 1))
   (.need (.tt true) [(.cmp .geq (.var 4) (.lit 0)), (.cmp .lss (.var 4) (.len 1))] 
   (.load (.tt true) (.fld (.idx (.var 1) (.var 4) 5) 0) [.sl] 
   (.call 40 [(.val 3), (.int .u64 (.conv .u64 (.len 5)))] [] [] [] [(false, [.sl])] 
   (.loop 1 [(.val 6), (.int .i64 (.lit 0))] [.sl, .int .i64] 
    (.need (.tt true) [(.cmp .geq (.var 4) (.lit 0)), (.cmp .lss (.var 4) (.len 1))] 
    (.load (.tt true) (.fld (.idx (.var 1) (.var 4) 5) 0) [.sl] 
    (.ite (.cmp .lss (.var 8) (.len 9))
     (.need (.tt true) [(.cmp .geq (.var 4) (.lit 0)), (.cmp .lss (.var 4) (.len 1))] 
     (.load (.tt true) (.fld (.idx (.var 1) (.var 4) 5) 0) [.sl] 
     (.need (.tt true) [(.cmp .geq (.var 8) (.lit 0)), (.cmp .lss (.var 8) (.len 10))] 
     (.load (.tt true) (.idx (.var 10) (.var 8) 7) [.int .u8, .int .u8, .int .i64, .int .i64, .int .i64, .int .i64, .sl] 
     (.call 40 [(.val 7), (.int .u64 (.conv .u64 (.var 11)))] [] [] [] [(false, [.sl])] 
     (.call 59 [(.int .u8 (.var 11))] [] [] [] [(false, [.str])] 
     (.loop 2 [(.val 18), (.int .i64 (.lit 0))] [.sl, .int .i64] 
      (.ite (.cmp .lss (.var 21) (.slen (.var 19)))
       (.need (.tt true) [(.cmp .geq (.var 21) (.lit 0)), (.cmp .lss (.var 21) (.slen (.var 19)))] 
       (.call 60 [(.val 20), (.agg [(.int .u8 (.var 11)), (.int .u8 (.var 12)), (.int .i64 (.var 13)), (.int .i64 (.var 14)), (.int .i64 (.var 15)), (.int .i64 (.var 16)), (.val 17)]), (.int .u8 (.byte (.var 19) (.var 21)))] [] [] [] [(false, [.sl])] 
       (.again 2 [(.val 22), (.int .i64 (.op .add .i64 (.var 21) (.lit 1)))])))
       (.again 1 [(.val 20), (.int .i64 (.op .add .i64 (.var 8) (.lit 1)))])))))))))
     (.need (.tt true) [(.cmp .geq (.var 4) (.lit 0)), (.cmp .lss (.var 4) (.len 1))] 
     (.load (.tt true) (.fld (.idx (.var 1) (.var 4) 5) 1) [.int .u8, .int .i64, .int .i64, .int .i64] 
     (.call 40 [(.val 7), (.int .u64 (.conv .u64 (.var 10)))] [] [] [] [(false, [.sl])] 
     (.call 61 [(.agg [(.int .u8 (.var 10)), (.int .i64 (.var 11)), (.int .i64 (.var 12)), (.int .i64 (.var 13))])] [] [] [] [(false, [.bool])] 
     (.ite (.var 15)
      (.call 40 [(.val 14), (.int .u64 (.conv .u64 (.var 11)))] [] [] [] [(false, [.sl])] 
      (.ite (.cmp .neq (.var 10) (.lit 3))
       (.call 40 [(.val 16), (.int .u64 (.conv .u64 (.var 12)))] [] [] [] [(false, [.sl])] 
       (.ite (.cmp .eql (.var 10) (.lit 2))
        (.call 40 [(.val 17), (.int .u64 (.conv .u64 (.var 13)))] [] [] [] [(false, [.sl])] 
        (.again 0 [(.val 18), (.int .i64 (.op .add .i64 (.var 4) (.lit 1)))]))
        (.again 0 [(.val 17), (.int .i64 (.op .add .i64 (.var 4) (.lit 1)))])))
       (.ite (.cmp .eql (.var 10) (.lit 2))
        (.call 40 [(.val 16), (.int .u64 (.conv .u64 (.var 13)))] [] [] [] [(false, [.sl])] 
        (.again 0 [(.val 17), (.int .i64 (.op .add .i64 (.var 4) (.lit 1)))]))
        (.again 0 [(.val 16), (.int .i64 (.op .add .i64 (.var 4) (.lit 1)))]))))
      (.ite (.cmp .neq (.var 10) (.lit 3))
       (.call 40 [(.val 14), (.int .u64 (.conv .u64 (.var 12)))] [] [] [] [(false, [.sl])] 
       (.ite (.cmp .eql (.var 10) (.lit 2))
        (.call 40 [(.val 16), (.int .u64 (.conv .u64 (.var 13)))] [] [] [] [(false, [.sl])] 
        (.again 0 [(.val 17), (.int .i64 (.op .add .i64 (.var 4) (.lit 1)))]))
        (.again 0 [(.val 16), (.int .i64 (.op .add .i64 (.var 4) (.lit 1)))])))
       (.ite (.cmp .eql (.var 10) (.lit 2))
        (.call 40 [(.val 14), (.int .u64 (.conv .u64 (.var 13)))] [] [] [] [(false, [.sl])] 
        (.again 0 [(.val 16), (.int .i64 (.op .add .i64 (.var 4) (.lit 1)))]))
        (.again 0 [(.val 14), (.int .i64 (.op .add .i64 (.var 4) (.lit 1)))])))))))))))))))
   (.done (.val 3) []))))
def l39 : List (Nat × List Nat × List (Nat × Nat) × List Nat) := [(3, [0, 5], [], [16, 17, 18, 19, 22, 23, 24, 25, 26, 27, 28, 29, 30, 6, 31, 32, 33, 34, 35, 36, 37, 38, 41, 42, 43, 44, 45, 46, 47, 48, 7, 49, 50, 51, 52, 53, 54, 55, 56, 8, 9, 57, 58, 59, 60, 63, 64, 65, 66, 67, 68, 61, 62, 39, 40, 69, 70, 71, 72, 73, 10, 74, 75, 76, 77, 78, 79, 80, 81, 82, 83, 84, 85, 86, 87, 88, 89, 90, 91, 92, 93, 94, 95, 96, 97, 98, 99, 100, 101, 20, 21]), (7, [0, 6], [], [31, 32, 33, 34, 35, 36, 37, 38, 41, 42, 43, 44, 45, 46, 47, 48, 7, 49, 50, 51, 52, 53, 54, 55, 56, 8, 9, 57, 58, 59, 60, 63, 64, 65, 66, 67, 68, 61, 62, 39, 40]), (13, [0, 9], [], [57, 58, 59, 60, 63, 64, 65, 66, 67, 68, 61, 62])]
theorem e39 : ev Try.prog ⟨allF, [], l39⟩ (bodyOf Try.f39) 0 (initSt [(.val 0), (.val 1)] [] Try.f39.ntmps [.sl, .sl]) (finK Try.prog Try.f39.results []) = t39 := by kernel_rfl
theorem c39 {G : List Value} {h : H} {R : Value → List (List Value) → H → Prop} (hG : FitsL [.sl, .sl] G) (H : holds Try.prog R t39 G [] h) : CallsA Try.prog 39 (fun e => SV.denL G (fun k => e (k - 1000000)) [(.val 0), (.val 1)]) ([].map (SV.denL G dE)) h R :=
  CallsA.of_ev (cf := ⟨allF, [], l39⟩) (fn := Try.f39) (c := bodyOf Try.f39) (pcs := []) Try.func39 (by rfl) callOK (by rfl) hG (by rfl) (by rw [show ([] : List (List SV)).map List.length = [] from rfl, e39]; exact H)
/-- What is left of outworker/outworkerref01.Put. -/
def t40 : Out :=
 (.alloc 5 [] (.lsl 0) 
 (.app 5 1 1 (.val 2) (.sl (.val 0)) 
 (.loop 0 [(.int .u64 (.var 1)), (.val 3)] [.int .u64, .sl] 
  (.ite (.cmp .eql (.op .quo .u64 (.var 4) (.lit 128)) (.lit 0))
   (.app 5 1 1 (.val 5) (.cells [(.int .u8 (.conv .u8 (.op .rem .u64 (.var 4) (.lit 128))))] 1) 
   (.done (.val 6) []))
   (.app 5 1 1 (.val 5) (.cells [(.int .u8 (.conv .u8 (.op .add .u64 (.op .rem .u64 (.var 4) (.lit 128)) (.lit 128))))] 1) 
   (.again 0 [(.int .u64 (.op .quo .u64 (.var 4) (.lit 128))), (.val 6)]))))))
def l40 : List (Nat × List Nat × List (Nat × Nat) × List Nat) := [(2, [1, 5], [], [10, 11, 6, 12, 13, 14, 15, 16, 17, 18, 19, 20, 4, 21, 22, 23, 24, 25, 26])]
theorem e40 : ev Try.prog ⟨allF, [7], l40⟩ (bodyOf Try.f40) 0 (initSt [(.val 0), (.int .u64 (.var 1))] [] Try.f40.ntmps [.sl, .int .u64]) (finK Try.prog Try.f40.results []) = t40 := by kernel_rfl
theorem c40 {G : List Value} {h : H} {R : Value → List (List Value) → H → Prop} (hG : FitsL [.sl, .int .u64] G) (H : holds Try.prog R t40 G [] h) : CallsA Try.prog 40 (fun e => SV.denL G (fun k => e (k - 1000000)) [(.val 0), (.int .u64 (.var 1))]) ([].map (SV.denL G dE)) h R :=
  CallsA.of_ev (cf := ⟨allF, [7], l40⟩) (fn := Try.f40) (c := bodyOf Try.f40) (pcs := []) Try.func40 (by rfl) callOK (by rfl) hG (by rfl) (by rw [show ([] : List (List SV)).map List.length = [] from rfl, e40]; exact H)
/-- What is left of outworker/outworkerref04.SameBlocks. -/
def t41 : Out :=
 (.ite (.cmp .neq (.len 0) (.len 1))
  (.done (.bool (.tt false)) [])
  (.loop 0 [(.int .i64 (.lit 0))] [.int .i64] 
   (.ite (.cmp .lss (.var 2) (.len 0))
    (.need (.tt true) [(.cmp .geq (.var 2) (.lit 0)), (.cmp .lss (.var 2) (.len 0))] 
    (.load (.tt true) (.fld (.idx (.var 0) (.var 2) 5) 1) [.int .u8, .int .i64, .int .i64, .int .i64] 
    (.need (.tt true) [(.cmp .geq (.var 2) (.lit 0)), (.cmp .lss (.var 2) (.len 1))] 
    (.load (.tt true) (.fld (.idx (.var 1) (.var 2) 5) 1) [.int .u8, .int .i64, .int .i64, .int .i64] 
    (.need (.and (.cmp .eql (.var 3) (.var 7)) (.and (.cmp .eql (.var 4) (.var 8)) (.and (.cmp .eql (.var 5) (.var 9)) (.cmp .eql (.var 6) (.var 10))))) [(.cmp .geq (.var 2) (.lit 0)), (.cmp .lss (.var 2) (.len 0))] 
    (.load (.and (.cmp .eql (.var 3) (.var 7)) (.and (.cmp .eql (.var 4) (.var 8)) (.and (.cmp .eql (.var 5) (.var 9)) (.cmp .eql (.var 6) (.var 10))))) (.fld (.idx (.var 0) (.var 2) 5) 0) [.sl] 
    (.need (.and (.cmp .eql (.var 3) (.var 7)) (.and (.cmp .eql (.var 4) (.var 8)) (.and (.cmp .eql (.var 5) (.var 9)) (.cmp .eql (.var 6) (.var 10))))) [(.cmp .geq (.var 2) (.lit 0)), (.cmp .lss (.var 2) (.len 1))] 
    (.load (.and (.cmp .eql (.var 3) (.var 7)) (.and (.cmp .eql (.var 4) (.var 8)) (.and (.cmp .eql (.var 5) (.var 9)) (.cmp .eql (.var 6) (.var 10))))) (.fld (.idx (.var 1) (.var 2) 5) 0) [.sl] 
    (.ite (.ite (.not (.and (.cmp .eql (.var 3) (.var 7)) (.and (.cmp .eql (.var 4) (.var 8)) (.and (.cmp .eql (.var 5) (.var 9)) (.cmp .eql (.var 6) (.var 10)))))) (.tt true) (.cmp .neq (.len 11) (.len 12)))
     (.done (.bool (.tt false)) [])
     (.loop 1 [(.int .i64 (.lit 0))] [.int .i64] 
      (.need (.tt true) [(.cmp .geq (.var 2) (.lit 0)), (.cmp .lss (.var 2) (.len 0))] 
      (.load (.tt true) (.fld (.idx (.var 0) (.var 2) 5) 0) [.sl] 
      (.ite (.cmp .lss (.var 13) (.len 14))
       (.need (.tt true) [(.cmp .geq (.var 2) (.lit 0)), (.cmp .lss (.var 2) (.len 0))] 
       (.load (.tt true) (.fld (.idx (.var 0) (.var 2) 5) 0) [.sl] 
       (.need (.tt true) [(.cmp .geq (.var 13) (.lit 0)), (.cmp .lss (.var 13) (.len 15))] 
       (.load (.tt true) (.idx (.var 15) (.var 13) 7) [.int .u8, .int .u8, .int .i64, .int .i64, .int .i64, .int .i64, .sl] 
       (.need (.tt true) [(.cmp .geq (.var 2) (.lit 0)), (.cmp .lss (.var 2) (.len 1))] 
       (.load (.tt true) (.fld (.idx (.var 1) (.var 2) 5) 0) [.sl] 
       (.need (.tt true) [(.cmp .geq (.var 13) (.lit 0)), (.cmp .lss (.var 13) (.len 23))] 
       (.load (.tt true) (.idx (.var 23) (.var 13) 7) [.int .u8, .int .u8, .int .i64, .int .i64, .int .i64, .int .i64, .sl] 
       (.both 
        (.still (.tt true) (.idx (.var 23) (.var 13) 7) [(.int .u8 (.var 24)), (.int .u8 (.var 25)), (.int .i64 (.var 26)), (.int .i64 (.var 27)), (.int .i64 (.var 28)), (.int .i64 (.var 29)), (.val 30)] 
        (.still (.tt true) (.fld (.idx (.var 1) (.var 2) 5) 0) [(.val 23)] 
        (.still (.tt true) (.idx (.var 15) (.var 13) 7) [(.int .u8 (.var 16)), (.int .u8 (.var 17)), (.int .i64 (.var 18)), (.int .i64 (.var 19)), (.int .i64 (.var 20)), (.int .i64 (.var 21)), (.val 22)] 
        (.still (.tt true) (.fld (.idx (.var 0) (.var 2) 5) 0) [(.val 15)] 
        (.still (.tt true) (.idx (.var 23) (.var 13) 7) [(.int .u8 (.var 24)), (.int .u8 (.var 25)), (.int .i64 (.var 26)), (.int .i64 (.var 27)), (.int .i64 (.var 28)), (.int .i64 (.var 29)), (.val 30)] 
        (.still (.tt true) (.fld (.idx (.var 1) (.var 2) 5) 0) [(.val 23)] 
        (.still (.tt true) (.idx (.var 15) (.var 13) 7) [(.int .u8 (.var 16)), (.int .u8 (.var 17)), (.int .i64 (.var 18)), (.int .i64 (.var 19)), (.int .i64 (.var 20)), (.int .i64 (.var 21)), (.val 22)] 
        (.still (.tt true) (.fld (.idx (.var 0) (.var 2) 5) 0) [(.val 15)] 
        (.still (.tt true) (.idx (.var 23) (.var 13) 7) [(.int .u8 (.var 24)), (.int .u8 (.var 25)), (.int .i64 (.var 26)), (.int .i64 (.var 27)), (.int .i64 (.var 28)), (.int .i64 (.var 29)), (.val 30)] 
        (.still (.tt true) (.fld (.idx (.var 1) (.var 2) 5) 0) [(.val 23)] 
        (.ite (.not (.ite (.ite (.ite (.ite (.ite (.cmp .neq (.var 16) (.var 24)) (.tt true) (.cmp .neq (.var 17) (.var 25))) (.tt true) (.cmp .neq (.var 18) (.var 26))) (.tt true) (.cmp .neq (.var 19) (.var 27))) (.tt true) (.cmp .neq (.var 20) (.var 28))) (.tt true) (.cmp .neq (.var 21) (.var 29))))
         (.call 62 [(.val 22), (.val 30)] [] [] [] [(false, [.bool])] 
         (.ite (.not (.var 31))
          (.done (.bool (.tt false)) [])
          (.again 1 [(.int .i64 (.op .add .i64 (.var 13) (.lit 1)))])))
         (.done (.bool (.tt false)) [])))))))))))) 
        (.still (.tt true) (.idx (.var 23) (.var 13) 7) [(.int .u8 (.var 24)), (.int .u8 (.var 25)), (.int .i64 (.var 26)), (.int .i64 (.var 27)), (.int .i64 (.var 28)), (.int .i64 (.var 29)), (.val 30)] 
        (.still (.tt true) (.fld (.idx (.var 1) (.var 2) 5) 0) [(.val 23)] 
        (.still (.tt true) (.idx (.var 15) (.var 13) 7) [(.int .u8 (.var 16)), (.int .u8 (.var 17)), (.int .i64 (.var 18)), (.int .i64 (.var 19)), (.int .i64 (.var 20)), (.int .i64 (.var 21)), (.val 22)] 
        (.still (.tt true) (.fld (.idx (.var 0) (.var 2) 5) 0) [(.val 15)] 
        (.still (.tt true) (.idx (.var 23) (.var 13) 7) [(.int .u8 (.var 24)), (.int .u8 (.var 25)), (.int .i64 (.var 26)), (.int .i64 (.var 27)), (.int .i64 (.var 28)), (.int .i64 (.var 29)), (.val 30)] 
        (.still (.tt true) (.fld (.idx (.var 1) (.var 2) 5) 0) [(.val 23)] 
        (.still (.tt true) (.idx (.var 15) (.var 13) 7) [(.int .u8 (.var 16)), (.int .u8 (.var 17)), (.int .i64 (.var 18)), (.int .i64 (.var 19)), (.int .i64 (.var 20)), (.int .i64 (.var 21)), (.val 22)] 
        (.still (.tt true) (.fld (.idx (.var 0) (.var 2) 5) 0) [(.val 15)] 
        (.still (.tt true) (.idx (.var 23) (.var 13) 7) [(.int .u8 (.var 24)), (.int .u8 (.var 25)), (.int .i64 (.var 26)), (.int .i64 (.var 27)), (.int .i64 (.var 28)), (.int .i64 (.var 29)), (.val 30)] 
        (.still (.tt true) (.fld (.idx (.var 1) (.var 2) 5) 0) [(.val 23)] 
        (.ite (.not (.ite (.ite (.ite (.ite (.ite (.cmp .neq (.var 16) (.var 24)) (.tt true) (.cmp .neq (.var 17) (.var 25))) (.tt true) (.cmp .neq (.var 18) (.var 26))) (.tt true) (.cmp .neq (.var 19) (.var 27))) (.tt true) (.cmp .neq (.var 20) (.var 28))) (.tt true) (.cmp .neq (.var 21) (.var 29))))
         (.call 62 [(.val 22), (.val 30)] [] [] [] [(false, [.bool])] 
         (.ite (.not (.var 31))
          (.done (.bool (.tt false)) [])
          (.again 1 [(.int .i64 (.op .add .i64 (.var 13) (.lit 1)))])))
         (.done (.bool (.tt false)) [])))))))))))))))))))))
       (.again 0 [(.int .i64 (.op .add .i64 (.var 2) (.lit 1)))]))))))))))))))
    (.done (.bool (.tt true)) []))))
def l41 : List (Nat × List Nat × List (Nat × Nat) × List Nat) := [(4, [5], [], [14, 15, 16, 17, 20, 21, 22, 23, 24, 25, 26, 27, 28, 29, 30, 31, 32, 33, 34, 35, 36, 37, 38, 39, 40, 41, 42, 43, 44, 45, 4, 6, 46, 47, 48, 49, 50, 51, 52, 53, 56, 57, 58, 59, 60, 61, 62, 63, 64, 65, 66, 67, 68, 69, 70, 71, 7, 8, 72, 73, 74, 75, 76, 77, 78, 79, 80, 81, 82, 83, 84, 85, 86, 87, 88, 89, 90, 91, 92, 93, 94, 95, 96, 97, 98, 99, 100, 101, 102, 103, 104, 105, 106, 107, 108, 109, 110, 111, 112, 113, 114, 115, 116, 117, 118, 119, 54, 55, 18, 19]), (9, [6], [], [46, 47, 48, 49, 50, 51, 52, 53, 56, 57, 58, 59, 60, 61, 62, 63, 64, 65, 66, 67, 68, 69, 70, 71, 7, 8, 72, 73, 74, 75, 76, 77, 78, 79, 80, 81, 82, 83, 84, 85, 86, 87, 88, 89, 90, 91, 92, 93, 94, 95, 96, 97, 98, 99, 100, 101, 102, 103, 104, 105, 106, 107, 108, 109, 110, 111, 112, 113, 114, 115, 116, 117, 118, 119, 4, 54, 55])]
theorem e41 : ev Try.prog ⟨allF, [], l41⟩ (bodyOf Try.f41) 0 (initSt [(.val 0), (.val 1)] [] Try.f41.ntmps [.sl, .sl]) (finK Try.prog Try.f41.results []) = t41 := by kernel_rfl
theorem c41 {G : List Value} {h : H} {R : Value → List (List Value) → H → Prop} (hG : FitsL [.sl, .sl] G) (H : holds Try.prog R t41 G [] h) : CallsA Try.prog 41 (fun e => SV.denL G (fun k => e (k - 1000000)) [(.val 0), (.val 1)]) ([].map (SV.denL G dE)) h R :=
  CallsA.of_ev (cf := ⟨allF, [], l41⟩) (fn := Try.f41) (c := bodyOf Try.f41) (pcs := []) Try.func41 (by rfl) callOK (by rfl) hG (by rfl) (by rw [show ([] : List (List SV)).map List.length = [] from rfl, e41]; exact H)
/-- What is left of outworker/mach.Check. -/
def t43 : Out :=
 (.ite (.ite (.ite (.ite (.ite (.ite (.ite (.ite (.cmp .lss (.var 0) (.lit 0)) (.tt true) (.cmp .gtr (.var 0) (.lit 4))) (.tt true) (.cmp .lss (.var 1) (.lit 3))) (.tt true) (.cmp .gtr (.var 1) (.lit 8))) (.tt true) (.cmp .lss (.var 2) (.var 0))) (.tt true) (.cmp .gtr (.var 2) (.lit 64))) (.tt true) (.cmp .lss (.len 3) (.lit 1))) (.tt true) (.cmp .gtr (.len 3) (.lit 16)))
  (.done (.agg [(.int .i64 (.lit 2)), (.int .i64 (.lit (-1))), (.int .i64 (.lit (-1)))]) [])
  (.loop 0 [(.int .i64 (.lit 0))] [.int .i64] 
   (.ite (.cmp .lss (.var 4) (.len 3))
    (.need (.tt true) [(.cmp .geq (.var 4) (.lit 0)), (.cmp .lss (.var 4) (.len 3))] 
    (.load (.tt true) (.idx (.var 3) (.var 4) 5) [.sl, .int .u8, .int .i64, .int .i64, .int .i64] 
    (.ite (.cmp .gtr (.len 5) (.lit 400))
     (.done (.agg [(.int .i64 (.lit 9)), (.int .i64 (.var 4)), (.int .i64 (.lit (-1)))]) [])
     (.loop 1 [(.int .i64 (.lit 0))] [.int .i64] 
      (.ite (.cmp .lss (.var 10) (.len 5))
       (.need (.tt true) [(.cmp .geq (.var 10) (.lit 0)), (.cmp .lss (.var 10) (.len 5))] 
       (.load (.tt true) (.idx (.var 5) (.var 10) 7) [.int .u8, .int .u8, .int .i64, .int .i64, .int .i64, .int .i64, .sl] 
       (.call 63 [(.agg [(.int .u8 (.var 11)), (.int .u8 (.var 12)), (.int .i64 (.var 13)), (.int .i64 (.var 14)), (.int .i64 (.var 15)), (.int .i64 (.var 16)), (.val 17)]), (.agg [(.int .i64 (.var 0)), (.int .i64 (.var 1)), (.int .i64 (.var 2)), (.val 3)])] [] [] [] [(false, [.int .i64])] 
       (.ite (.cmp .neq (.var 18) (.lit 0))
        (.done (.agg [(.int .i64 (.var 18)), (.int .i64 (.var 4)), (.int .i64 (.var 10))]) [])
        (.again 1 [(.int .i64 (.op .add .i64 (.var 10) (.lit 1)))])))))
       (.call 54 [(.agg [(.int .u8 (.var 6)), (.int .i64 (.var 7)), (.int .i64 (.var 8)), (.int .i64 (.var 9))]), (.int .i64 (.var 1)), (.int .i64 (.len 3))] [] [] [] [(false, [.int .i64])] 
       (.call 64 [(.int .i64 (.var 11))] [] [] [] [(false, [.int .i64])] 
       (.ite (.cmp .neq (.var 12) (.lit 0))
        (.done (.agg [(.int .i64 (.var 12)), (.int .i64 (.var 4)), (.int .i64 (.len 5))]) [])
        (.again 0 [(.int .i64 (.op .add .i64 (.var 4) (.lit 1)))])))))))))
    (.done (.agg [(.int .i64 (.lit 0)), (.int .i64 (.lit 0)), (.int .i64 (.lit 0))]) []))))
def l43 : List (Nat × List Nat × List (Nat × Nat) × List Nat) := [(4, [55], [], [56, 57, 58, 59, 4, 3, 60, 61, 62, 63, 64, 65, 66, 67, 68, 69, 70, 71, 72, 73, 6, 5, 74, 75, 76, 7, 77, 78, 79, 80, 81, 82, 83, 84, 85, 86, 87, 88, 89, 90, 91, 92, 8, 93, 94, 95, 96, 97, 98, 99, 100, 101]), (9, [69], [], [70, 71, 72, 73, 6, 5, 74, 75, 76, 7, 77, 78, 79, 80, 81, 82, 83])]
theorem e43 : ev Try.prog ⟨allF, [], l43⟩ (bodyOf Try.f43) 0 (initSt [(.agg [(.int .i64 (.var 0)), (.int .i64 (.var 1)), (.int .i64 (.var 2)), (.val 3)])] [] Try.f43.ntmps [.int .i64, .int .i64, .int .i64, .sl]) (finK Try.prog Try.f43.results []) = t43 := by kernel_rfl
theorem c43 {G : List Value} {h : H} {R : Value → List (List Value) → H → Prop} (hG : FitsL [.int .i64, .int .i64, .int .i64, .sl] G) (H : holds Try.prog R t43 G [] h) : CallsA Try.prog 43 (fun e => SV.denL G (fun k => e (k - 1000000)) [(.agg [(.int .i64 (.var 0)), (.int .i64 (.var 1)), (.int .i64 (.var 2)), (.val 3)])]) ([].map (SV.denL G dE)) h R :=
  CallsA.of_ev (cf := ⟨allF, [], l43⟩) (fn := Try.f43) (c := bodyOf Try.f43) (pcs := []) Try.func43 (by rfl) callOK (by rfl) hG (by rfl) (by rw [show ([] : List (List SV)).map List.length = [] from rfl, e43]; exact H)
/-- What is left of outworker/outworkerref04.SamePairs. -/
def t50 : Out :=
 (.ite (.cmp .neq (.len 0) (.len 1))
  (.done (.bool (.tt false)) [])
  (.loop 0 [(.int .i64 (.lit 0))] [.int .i64] 
   (.ite (.cmp .lss (.var 2) (.len 0))
    (.need (.tt true) [(.cmp .geq (.var 2) (.lit 0)), (.cmp .lss (.var 2) (.len 0))] 
    (.load (.tt true) (.idx (.var 0) (.var 2) 2) [.int .i64, .int .i64] 
    (.need (.tt true) [(.cmp .geq (.var 2) (.lit 0)), (.cmp .lss (.var 2) (.len 1))] 
    (.load (.tt true) (.idx (.var 1) (.var 2) 2) [.int .i64, .int .i64] 
    (.ite (.not (.and (.cmp .eql (.var 3) (.var 5)) (.cmp .eql (.var 4) (.var 6))))
     (.done (.bool (.tt false)) [])
     (.again 0 [(.int .i64 (.op .add .i64 (.var 2) (.lit 1)))]))))))
    (.done (.bool (.tt true)) []))))
def l50 : List (Nat × List Nat × List (Nat × Nat) × List Nat) := [(4, [5], [], [11, 12, 13, 14, 17, 18, 19, 20, 21, 22, 23, 24, 25, 4, 15, 16])]
theorem e50 : ev Try.prog ⟨allF, [], l50⟩ (bodyOf Try.f50) 0 (initSt [(.val 0), (.val 1)] [] Try.f50.ntmps [.sl, .sl]) (finK Try.prog Try.f50.results []) = t50 := by kernel_rfl
theorem c50 {G : List Value} {h : H} {R : Value → List (List Value) → H → Prop} (hG : FitsL [.sl, .sl] G) (H : holds Try.prog R t50 G [] h) : CallsA Try.prog 50 (fun e => SV.denL G (fun k => e (k - 1000000)) [(.val 0), (.val 1)]) ([].map (SV.denL G dE)) h R :=
  CallsA.of_ev (cf := ⟨allF, [], l50⟩) (fn := Try.f50) (c := bodyOf Try.f50) (pcs := []) Try.func50 (by rfl) callOK (by rfl) hG (by rfl) (by rw [show ([] : List (List SV)).map List.length = [] from rfl, e50]; exact H)
/-- What is left of outworker/ir.of. -/
def t53 : Out :=
 (.ite (.not (.ite (.ite (.cmp .lss (.var 0) (.lit 1)) (.tt true) (.cmp .gtr (.var 0) (.lit 6))) (.tt true) (.ite (.cmp .eql (.var 0) (.lit 3)) (.ite (.cmp .lss (.var 1) (.lit 1)) (.tt true) (.cmp .gtr (.var 1) (.lit 7))) (.tt false))))
  (.call 72 [(.agg [(.int .u8 (.var 0)), (.int .u8 (.var 1)), (.int .i64 (.var 2)), (.int .i64 (.var 3)), (.int .i64 (.var 4)), (.int .i64 (.var 5)), (.val 6)])] [] [] [] [(false, [.bool])] 
  (.ite (.not (.var 8))
   (.done (.int .i64 (.lit 20)) [])
   (.ite (.cmp .gtr (.len 6) (.lit 3))
    (.done (.int .i64 (.lit 25)) [])
    (.call 73 [(.agg [(.int .u8 (.var 0)), (.int .u8 (.var 1)), (.int .i64 (.var 2)), (.int .i64 (.var 3)), (.int .i64 (.var 4)), (.int .i64 (.var 5)), (.val 6)])] [] [] [] [(false, [.sl])] 
    (.call 74 [(.agg [(.int .u8 (.var 0)), (.int .u8 (.var 1)), (.int .i64 (.var 2)), (.int .i64 (.var 3)), (.int .i64 (.var 4)), (.int .i64 (.var 5)), (.val 6)])] [] [] [] [(false, [.int .i64]), (false, [.bool])] 
    (.ite (.var 11)
     (.app 3 1 8 (.val 9) (.cells [(.int .i64 (.var 10))] 1) 
     (.loop 0 [(.int .i64 (.lit 0))] [.int .i64] 
      (.ite (.cmp .lss (.var 13) (.len 12))
       (.need (.tt true) [(.cmp .geq (.var 13) (.lit 0)), (.cmp .lss (.var 13) (.len 12))] 
       (.load (.tt true) (.idx (.var 12) (.var 13) 1) [.int .i64] 
       (.ite (.ite (.cmp .lss (.var 14) (.lit 0)) (.tt true) (.cmp .geq (.var 14) (.var 7)))
        (.done (.int .i64 (.lit 21)) [])
        (.again 0 [(.int .i64 (.op .add .i64 (.var 13) (.lit 1)))]))))
       (.done (.int .i64 (.lit 0)) []))))
     (.loop 0 [(.int .i64 (.lit 0))] [.int .i64] 
      (.ite (.cmp .lss (.var 12) (.len 9))
       (.need (.tt true) [(.cmp .geq (.var 12) (.lit 0)), (.cmp .lss (.var 12) (.len 9))] 
       (.load (.tt true) (.idx (.var 9) (.var 12) 1) [.int .i64] 
       (.ite (.ite (.cmp .lss (.var 13) (.lit 0)) (.tt true) (.cmp .geq (.var 13) (.var 7)))
        (.done (.int .i64 (.lit 21)) [])
        (.again 0 [(.int .i64 (.op .add .i64 (.var 12) (.lit 1)))]))))
       (.done (.int .i64 (.lit 0)) [])))))))))
  (.done (.int .i64 (.lit 20)) []))
def l53 : List (Nat × List Nat × List (Nat × Nat) × List Nat) := [(10, [58], [], [59, 60, 61, 9, 62, 63, 64, 65, 66, 67, 68, 4, 69])]
theorem e53 : ev Try.prog ⟨allF, [], l53⟩ (bodyOf Try.f53) 0 (initSt [(.agg [(.int .u8 (.var 0)), (.int .u8 (.var 1)), (.int .i64 (.var 2)), (.int .i64 (.var 3)), (.int .i64 (.var 4)), (.int .i64 (.var 5)), (.val 6)]), (.int .i64 (.var 7))] [] Try.f53.ntmps [.int .u8, .int .u8, .int .i64, .int .i64, .int .i64, .int .i64, .sl, .int .i64]) (finK Try.prog Try.f53.results []) = t53 := by kernel_rfl
theorem c53 {G : List Value} {h : H} {R : Value → List (List Value) → H → Prop} (hG : FitsL [.int .u8, .int .u8, .int .i64, .int .i64, .int .i64, .int .i64, .sl, .int .i64] G) (H : holds Try.prog R t53 G [] h) : CallsA Try.prog 53 (fun e => SV.denL G (fun k => e (k - 1000000)) [(.agg [(.int .u8 (.var 0)), (.int .u8 (.var 1)), (.int .i64 (.var 2)), (.int .i64 (.var 3)), (.int .i64 (.var 4)), (.int .i64 (.var 5)), (.val 6)]), (.int .i64 (.var 7))]) ([].map (SV.denL G dE)) h R :=
  CallsA.of_ev (cf := ⟨allF, [], l53⟩) (fn := Try.f53) (c := bodyOf Try.f53) (pcs := []) Try.func53 (by rfl) callOK (by rfl) hG (by rfl) (by rw [show ([] : List (List SV)).map List.length = [] from rfl, e53]; exact H)
/-- What is left of outworker/ir.Ends. -/
def t54 : Out :=
 (.call 75 [(.agg [(.int .u8 (.var 0)), (.int .i64 (.var 1)), (.int .i64 (.var 2)), (.int .i64 (.var 3))])] [] [] [] [(false, [.int .i64]), (false, [.bool])] 
 (.ite (.ite (.ite (.ite (.ite (.cmp .lss (.var 0) (.lit 1)) (.tt true) (.cmp .gtr (.var 0) (.lit 3))) (.tt true) (.ite (.not (.var 7)) (.cmp .neq (.var 1) (.lit 0)) (.tt false))) (.tt true) (.ite (.cmp .eql (.var 0) (.lit 3)) (.cmp .neq (.var 2) (.lit 0)) (.tt false))) (.tt true) (.ite (.cmp .neq (.var 0) (.lit 2)) (.cmp .neq (.var 3) (.lit 0)) (.tt false)))
  (.done (.int .i64 (.lit 20)) [])
  (.ite (.ite (.var 7) (.ite (.cmp .lss (.var 6) (.lit 0)) (.tt true) (.cmp .geq (.var 6) (.var 4))) (.tt false))
   (.done (.int .i64 (.lit 21)) [])
   (.ite (.ite (.ite (.cmp .neq (.var 0) (.lit 3)) (.ite (.cmp .lss (.var 2) (.lit 0)) (.tt true) (.cmp .geq (.var 2) (.var 5))) (.tt false)) (.ite (.cmp .neq (.var 0) (.lit 3)) (.ite (.cmp .lss (.var 2) (.lit 0)) (.tt true) (.cmp .geq (.var 2) (.var 5))) (.tt false)) (.ite (.cmp .eql (.var 0) (.lit 2)) (.ite (.cmp .lss (.var 3) (.lit 0)) (.tt true) (.cmp .geq (.var 3) (.var 5))) (.tt false)))
    (.done (.int .i64 (.lit 22)) [])
    (.done (.int .i64 (.lit 0)) [])))))
def l54 : List (Nat × List Nat × List (Nat × Nat) × List Nat) := []
theorem e54 : ev Try.prog ⟨allF, [], l54⟩ (bodyOf Try.f54) 0 (initSt [(.agg [(.int .u8 (.var 0)), (.int .i64 (.var 1)), (.int .i64 (.var 2)), (.int .i64 (.var 3))]), (.int .i64 (.var 4)), (.int .i64 (.var 5))] [] Try.f54.ntmps [.int .u8, .int .i64, .int .i64, .int .i64, .int .i64, .int .i64]) (finK Try.prog Try.f54.results []) = t54 := by kernel_rfl
theorem c54 {G : List Value} {h : H} {R : Value → List (List Value) → H → Prop} (hG : FitsL [.int .u8, .int .i64, .int .i64, .int .i64, .int .i64, .int .i64] G) (H : holds Try.prog R t54 G [] h) : CallsA Try.prog 54 (fun e => SV.denL G (fun k => e (k - 1000000)) [(.agg [(.int .u8 (.var 0)), (.int .i64 (.var 1)), (.int .i64 (.var 2)), (.int .i64 (.var 3))]), (.int .i64 (.var 4)), (.int .i64 (.var 5))]) ([].map (SV.denL G dE)) h R :=
  CallsA.of_ev (cf := ⟨allF, [], l54⟩) (fn := Try.f54) (c := bodyOf Try.f54) (pcs := []) Try.func54 (by rfl) callOK (by rfl) hG (by rfl) (by rw [show ([] : List (List SV)).map List.length = [] from rfl, e54]; exact H)
/-- What is left of outworker/leb.Put. -/
def t55 : Out :=
 (.alloc 5 [] (.lsl 0) 
 (.app 5 1 1 (.val 2) (.sl (.val 0)) 
 (.loop 0 [(.val 3), (.int .u64 (.var 1))] [.sl, .int .u64] 
  (.ite (.cmp .geq (.var 5) (.lit 128))
   (.app 5 1 1 (.val 4) (.cells [(.int .u8 (.op .or .u8 (.conv .u8 (.var 5)) (.lit 128)))] 1) 
   (.again 0 [(.val 6), (.int .u64 (.op .shr .u64 (.var 5) (.lit 7)))]))
   (.app 5 1 1 (.val 4) (.cells [(.int .u8 (.conv .u8 (.var 5)))] 1) 
   (.done (.val 6) []))))))
def l55 : List (Nat × List Nat × List (Nat × Nat) × List Nat) := [(2, [5, 1], [], [9, 10, 11, 12, 13, 14, 15, 16, 17, 18])]
theorem e55 : ev Try.prog ⟨allF, [6], l55⟩ (bodyOf Try.f55) 0 (initSt [(.val 0), (.int .u64 (.var 1))] [] Try.f55.ntmps [.sl, .int .u64]) (finK Try.prog Try.f55.results []) = t55 := by kernel_rfl
theorem c55 {G : List Value} {h : H} {R : Value → List (List Value) → H → Prop} (hG : FitsL [.sl, .int .u64] G) (H : holds Try.prog R t55 G [] h) : CallsA Try.prog 55 (fun e => SV.denL G (fun k => e (k - 1000000)) [(.val 0), (.int .u64 (.var 1))]) ([].map (SV.denL G dE)) h R :=
  CallsA.of_ev (cf := ⟨allF, [6], l55⟩) (fn := Try.f55) (c := bodyOf Try.f55) (pcs := []) Try.func55 (by rfl) callOK (by rfl) hG (by rfl) (by rw [show ([] : List (List SV)).map List.length = [] from rfl, e55]; exact H)
/-- What is left of outworker/outworkerref04.End. -/
def t58 : Out :=
 (.ite (.ite (.cmp .lss (.var 0) (.lit 1)) (.tt true) (.cmp .gtr (.var 0) (.lit 3)))
  (.done (.int .i64 (.lit 20)) [])
  (.ite (.ite (.cmp .eql (.var 0) (.lit 1)) (.ite (.cmp .neq (.var 1) (.lit 0)) (.tt true) (.cmp .neq (.var 3) (.lit 0))) (.tt false))
   (.done (.int .i64 (.lit 20)) [])
   (.ite (.ite (.cmp .eql (.var 0) (.lit 3)) (.ite (.cmp .neq (.var 2) (.lit 0)) (.tt true) (.cmp .neq (.var 3) (.lit 0))) (.tt false))
    (.done (.int .i64 (.lit 20)) [])
    (.call 61 [(.agg [(.int .u8 (.var 0)), (.int .i64 (.var 1)), (.int .i64 (.var 2)), (.int .i64 (.var 3))])] [] [] [] [(false, [.bool])] 
    (.ite (.ite (.var 7) (.ite (.cmp .lss (.var 1) (.lit 0)) (.tt true) (.cmp .geq (.var 1) (.var 4))) (.tt false))
     (.done (.int .i64 (.var 6)) [])
     (.ite (.ite (.cmp .neq (.var 0) (.lit 3)) (.ite (.cmp .lss (.var 2) (.lit 0)) (.tt true) (.cmp .geq (.var 2) (.var 5))) (.tt false))
      (.done (.int .i64 (.lit 22)) [])
      (.ite (.ite (.cmp .eql (.var 0) (.lit 2)) (.ite (.cmp .lss (.var 3) (.lit 0)) (.tt true) (.cmp .geq (.var 3) (.var 5))) (.tt false))
       (.done (.int .i64 (.lit 22)) [])
       (.done (.int .i64 (.lit 0)) []))))))))
def l58 : List (Nat × List Nat × List (Nat × Nat) × List Nat) := []
theorem e58 : ev Try.prog ⟨allF, [], l58⟩ (bodyOf Try.f58) 0 (initSt [(.agg [(.int .u8 (.var 0)), (.int .i64 (.var 1)), (.int .i64 (.var 2)), (.int .i64 (.var 3))]), (.int .i64 (.var 4)), (.int .i64 (.var 5)), (.int .i64 (.var 6))] [] Try.f58.ntmps [.int .u8, .int .i64, .int .i64, .int .i64, .int .i64, .int .i64, .int .i64]) (finK Try.prog Try.f58.results []) = t58 := by kernel_rfl
theorem c58 {G : List Value} {h : H} {R : Value → List (List Value) → H → Prop} (hG : FitsL [.int .u8, .int .i64, .int .i64, .int .i64, .int .i64, .int .i64, .int .i64] G) (H : holds Try.prog R t58 G [] h) : CallsA Try.prog 58 (fun e => SV.denL G (fun k => e (k - 1000000)) [(.agg [(.int .u8 (.var 0)), (.int .i64 (.var 1)), (.int .i64 (.var 2)), (.int .i64 (.var 3))]), (.int .i64 (.var 4)), (.int .i64 (.var 5)), (.int .i64 (.var 6))]) ([].map (SV.denL G dE)) h R :=
  CallsA.of_ev (cf := ⟨allF, [], l58⟩) (fn := Try.f58) (c := bodyOf Try.f58) (pcs := []) Try.func58 (by rfl) callOK (by rfl) hG (by rfl) (by rw [show ([] : List (List SV)).map List.length = [] from rfl, e58]; exact H)
/-- What is left of outworker/outworkerref04.names. -/
def t59 : Out :=
 (.alloc 9 [(.str (.str ⟨#[]⟩)), (.str (.str ⟨#[68, 78]⟩)), (.str (.str ⟨#[68, 65]⟩)), (.str (.str ⟨#[79, 68, 65, 66]⟩)), (.str (.str ⟨#[68, 65]⟩)), (.str (.str ⟨#[65, 66]⟩)), (.str (.str ⟨#[68, 78, 82]⟩)), (.str (.str ⟨#[68, 65]⟩)), (.str (.str ⟨#[68, 65]⟩))] (.lsl 9) 
 (.need (.tt true) [(.cmp .geq (.var 0) (.lit 0)), (.cmp .lss (.var 0) (.len 1))] 
 (.load (.tt true) (.idx (.var 1) (.var 0) 1) [.str] 
 (.done (.str (.var 2)) []))))
def l59 : List (Nat × List Nat × List (Nat × Nat) × List Nat) := []
theorem e59 : ev Try.prog ⟨allF, [3], l59⟩ (bodyOf Try.f59) 0 (initSt [(.int .u8 (.var 0))] [] Try.f59.ntmps [.int .u8]) (finK Try.prog Try.f59.results []) = t59 := by kernel_rfl
theorem c59 {G : List Value} {h : H} {R : Value → List (List Value) → H → Prop} (hG : FitsL [.int .u8] G) (H : holds Try.prog R t59 G [] h) : CallsA Try.prog 59 (fun e => SV.denL G (fun k => e (k - 1000000)) [(.int .u8 (.var 0))]) ([].map (SV.denL G dE)) h R :=
  CallsA.of_ev (cf := ⟨allF, [3], l59⟩) (fn := Try.f59) (c := bodyOf Try.f59) (pcs := []) Try.func59 (by rfl) callOK (by rfl) hG (by rfl) (by rw [show ([] : List (List SV)).map List.length = [] from rfl, e59]; exact H)
/-- What is left of outworker/outworkerref04.put. -/
def t60 : Out :=
 (.ite (.cmp .eql (.var 8) (.lit 79))
  (.call 40 [(.val 0), (.int .u64 (.conv .u64 (.var 2)))] [] [] [] [(false, [.sl])] 
  (.done (.val 9) []))
  (.ite (.cmp .eql (.var 8) (.lit 68))
   (.call 40 [(.val 0), (.int .u64 (.conv .u64 (.var 3)))] [] [] [] [(false, [.sl])] 
   (.done (.val 9) []))
   (.ite (.cmp .eql (.var 8) (.lit 65))
    (.call 40 [(.val 0), (.int .u64 (.conv .u64 (.var 4)))] [] [] [] [(false, [.sl])] 
    (.done (.val 9) []))
    (.ite (.cmp .eql (.var 8) (.lit 66))
     (.call 40 [(.val 0), (.int .u64 (.conv .u64 (.var 5)))] [] [] [] [(false, [.sl])] 
     (.done (.val 9) []))
     (.ite (.cmp .eql (.var 8) (.lit 78))
      (.call 80 [(.int .i64 (.var 6))] [] [] [] [(false, [.int .u64])] 
      (.call 40 [(.val 0), (.int .u64 (.var 9))] [] [] [] [(false, [.sl])] 
      (.done (.val 10) [])))
      (.call 40 [(.val 0), (.int .u64 (.conv .u64 (.len 7)))] [] [] [] [(false, [.sl])] 
      (.loop 0 [(.val 9), (.int .i64 (.lit 0))] [.sl, .int .i64] 
       (.ite (.cmp .lss (.var 11) (.len 7))
        (.need (.tt true) [(.cmp .geq (.var 11) (.lit 0)), (.cmp .lss (.var 11) (.len 7))] 
        (.load (.tt true) (.idx (.var 7) (.var 11) 1) [.int .i64] 
        (.call 40 [(.val 10), (.int .u64 (.conv .u64 (.var 12)))] [] [] [] [(false, [.sl])] 
        (.again 0 [(.val 13), (.int .i64 (.op .add .i64 (.var 11) (.lit 1)))]))))
        (.done (.val 10) [])))))))))
def l60 : List (Nat × List Nat × List (Nat × Nat) × List Nat) := [(14, [0, 7], [], [50, 51, 52, 53, 54, 57, 58, 59, 60, 61, 62, 63, 64, 55, 56])]
theorem e60 : ev Try.prog ⟨allF, [], l60⟩ (bodyOf Try.f60) 0 (initSt [(.val 0), (.agg [(.int .u8 (.var 1)), (.int .u8 (.var 2)), (.int .i64 (.var 3)), (.int .i64 (.var 4)), (.int .i64 (.var 5)), (.int .i64 (.var 6)), (.val 7)]), (.int .u8 (.var 8))] [] Try.f60.ntmps [.sl, .int .u8, .int .u8, .int .i64, .int .i64, .int .i64, .int .i64, .sl, .int .u8]) (finK Try.prog Try.f60.results []) = t60 := by kernel_rfl
theorem c60 {G : List Value} {h : H} {R : Value → List (List Value) → H → Prop} (hG : FitsL [.sl, .int .u8, .int .u8, .int .i64, .int .i64, .int .i64, .int .i64, .sl, .int .u8] G) (H : holds Try.prog R t60 G [] h) : CallsA Try.prog 60 (fun e => SV.denL G (fun k => e (k - 1000000)) [(.val 0), (.agg [(.int .u8 (.var 1)), (.int .u8 (.var 2)), (.int .i64 (.var 3)), (.int .i64 (.var 4)), (.int .i64 (.var 5)), (.int .i64 (.var 6)), (.val 7)]), (.int .u8 (.var 8))]) ([].map (SV.denL G dE)) h R :=
  CallsA.of_ev (cf := ⟨allF, [], l60⟩) (fn := Try.f60) (c := bodyOf Try.f60) (pcs := []) Try.func60 (by rfl) callOK (by rfl) hG (by rfl) (by rw [show ([] : List (List SV)).map List.length = [] from rfl, e60]; exact H)
/-- What is left of outworker/outworkerref04.Takes. -/
def t61 : Out :=
 (.done (.bool (.ite (.cmp .eql (.var 0) (.lit 2)) (.tt true) (.cmp .eql (.var 0) (.lit 3)))) [])
def l61 : List (Nat × List Nat × List (Nat × Nat) × List Nat) := []
theorem e61 : ev Try.prog ⟨allF, [], l61⟩ (bodyOf Try.f61) 0 (initSt [(.agg [(.int .u8 (.var 0)), (.int .i64 (.var 1)), (.int .i64 (.var 2)), (.int .i64 (.var 3))])] [] Try.f61.ntmps [.int .u8, .int .i64, .int .i64, .int .i64]) (finK Try.prog Try.f61.results []) = t61 := by kernel_rfl
theorem c61 {G : List Value} {h : H} {R : Value → List (List Value) → H → Prop} (hG : FitsL [.int .u8, .int .i64, .int .i64, .int .i64] G) (H : holds Try.prog R t61 G [] h) : CallsA Try.prog 61 (fun e => SV.denL G (fun k => e (k - 1000000)) [(.agg [(.int .u8 (.var 0)), (.int .i64 (.var 1)), (.int .i64 (.var 2)), (.int .i64 (.var 3))])]) ([].map (SV.denL G dE)) h R :=
  CallsA.of_ev (cf := ⟨allF, [], l61⟩) (fn := Try.f61) (c := bodyOf Try.f61) (pcs := []) Try.func61 (by rfl) callOK (by rfl) hG (by rfl) (by rw [show ([] : List (List SV)).map List.length = [] from rfl, e61]; exact H)
/-- What is left of outworker/outworkerref04.SameInts. -/
def t62 : Out :=
 (.ite (.cmp .neq (.len 0) (.len 1))
  (.done (.bool (.tt false)) [])
  (.loop 0 [(.int .i64 (.lit 0))] [.int .i64] 
   (.ite (.cmp .lss (.var 2) (.len 0))
    (.need (.tt true) [(.cmp .geq (.var 2) (.lit 0)), (.cmp .lss (.var 2) (.len 0))] 
    (.load (.tt true) (.idx (.var 0) (.var 2) 1) [.int .i64] 
    (.need (.tt true) [(.cmp .geq (.var 2) (.lit 0)), (.cmp .lss (.var 2) (.len 1))] 
    (.load (.tt true) (.idx (.var 1) (.var 2) 1) [.int .i64] 
    (.ite (.cmp .neq (.var 3) (.var 4))
     (.done (.bool (.tt false)) [])
     (.again 0 [(.int .i64 (.op .add .i64 (.var 2) (.lit 1)))]))))))
    (.done (.bool (.tt true)) []))))
def l62 : List (Nat × List Nat × List (Nat × Nat) × List Nat) := [(4, [5], [], [11, 12, 13, 14, 17, 18, 19, 20, 21, 22, 23, 24, 25, 4, 15, 16])]
theorem e62 : ev Try.prog ⟨allF, [], l62⟩ (bodyOf Try.f62) 0 (initSt [(.val 0), (.val 1)] [] Try.f62.ntmps [.sl, .sl]) (finK Try.prog Try.f62.results []) = t62 := by kernel_rfl
theorem c62 {G : List Value} {h : H} {R : Value → List (List Value) → H → Prop} (hG : FitsL [.sl, .sl] G) (H : holds Try.prog R t62 G [] h) : CallsA Try.prog 62 (fun e => SV.denL G (fun k => e (k - 1000000)) [(.val 0), (.val 1)]) ([].map (SV.denL G dE)) h R :=
  CallsA.of_ev (cf := ⟨allF, [], l62⟩) (fn := Try.f62) (c := bodyOf Try.f62) (pcs := []) Try.func62 (by rfl) callOK (by rfl) hG (by rfl) (by rw [show ([] : List (List SV)).map List.length = [] from rfl, e62]; exact H)
/-- What is left of outworker/mach.of. -/
def t63 : Out :=
 (.ite (.ite (.cmp .eql (.var 0) (.lit 7)) (.tt true) (.cmp .eql (.var 0) (.lit 8)))
  (.ite (.cmp .eql (.var 0) (.lit 8))
   (.ite (.ite (.ite (.ite (.cmp .neq (.var 1) (.lit 0)) (.tt true) (.cmp .neq (.var 4) (.lit 0))) (.tt true) (.cmp .neq (.var 5) (.lit 0))) (.tt true) (.cmp .gtr (.len 6) (.lit 0)))
    (.done (.int .i64 (.lit 20)) [])
    (.ite (.ite (.cmp .lss (.var 2) (.lit 0)) (.tt true) (.cmp .geq (.var 2) (.var 8)))
     (.done (.int .i64 (.lit 23)) [])
     (.ite (.ite (.cmp .lss (.var 3) (.lit 0)) (.tt true) (.cmp .geq (.var 3) (.var 9)))
      (.done (.int .i64 (.lit 24)) [])
      (.done (.int .i64 (.lit 0)) []))))
   (.ite (.ite (.ite (.ite (.cmp .neq (.var 1) (.lit 0)) (.tt true) (.cmp .neq (.var 4) (.lit 0))) (.tt true) (.cmp .neq (.var 5) (.lit 0))) (.tt true) (.cmp .gtr (.len 6) (.lit 0)))
    (.done (.int .i64 (.lit 20)) [])
    (.ite (.ite (.cmp .lss (.var 3) (.lit 0)) (.tt true) (.cmp .geq (.var 3) (.var 8)))
     (.done (.int .i64 (.lit 23)) [])
     (.ite (.ite (.cmp .lss (.var 2) (.lit 0)) (.tt true) (.cmp .geq (.var 2) (.var 9)))
      (.done (.int .i64 (.lit 24)) [])
      (.done (.int .i64 (.lit 0)) [])))))
  (.alloc 87 [(.int .u8 (.var 0)), (.int .u8 (.var 1)), (.int .i64 (.var 2)), (.int .i64 (.var 3)), (.int .i64 (.var 4)), (.int .i64 (.var 5)), (.val 6)] (.lsl 1) 
  (.alloc 83 [(.val 11), (.int .u8 (.lit 1)), (.int .i64 (.lit 0)), (.int .i64 (.lit 0)), (.int .i64 (.lit 0))] (.lsl 1) 
  (.call 35 [(.agg [(.int .i64 (.lit 0)), (.int .i64 (.var 8)), (.val 12)])] [] [] [] [(true, [.int .i64, .int .i64, .int .i64])] 
  (.call 64 [(.int .i64 (.var 13))] [] [] [] [(false, [.int .i64])] 
  (.done (.int .i64 (.var 16)) []))))))
def l63 : List (Nat × List Nat × List (Nat × Nat) × List Nat) := []
theorem e63 : ev Try.prog ⟨allF, [68, 71], l63⟩ (bodyOf Try.f63) 0 (initSt [(.agg [(.int .u8 (.var 0)), (.int .u8 (.var 1)), (.int .i64 (.var 2)), (.int .i64 (.var 3)), (.int .i64 (.var 4)), (.int .i64 (.var 5)), (.val 6)]), (.agg [(.int .i64 (.var 7)), (.int .i64 (.var 8)), (.int .i64 (.var 9)), (.val 10)])] [] Try.f63.ntmps [.int .u8, .int .u8, .int .i64, .int .i64, .int .i64, .int .i64, .sl, .int .i64, .int .i64, .int .i64, .sl]) (finK Try.prog Try.f63.results []) = t63 := by kernel_rfl
theorem c63 {G : List Value} {h : H} {R : Value → List (List Value) → H → Prop} (hG : FitsL [.int .u8, .int .u8, .int .i64, .int .i64, .int .i64, .int .i64, .sl, .int .i64, .int .i64, .int .i64, .sl] G) (H : holds Try.prog R t63 G [] h) : CallsA Try.prog 63 (fun e => SV.denL G (fun k => e (k - 1000000)) [(.agg [(.int .u8 (.var 0)), (.int .u8 (.var 1)), (.int .i64 (.var 2)), (.int .i64 (.var 3)), (.int .i64 (.var 4)), (.int .i64 (.var 5)), (.val 6)]), (.agg [(.int .i64 (.var 7)), (.int .i64 (.var 8)), (.int .i64 (.var 9)), (.val 10)])]) ([].map (SV.denL G dE)) h R :=
  CallsA.of_ev (cf := ⟨allF, [68, 71], l63⟩) (fn := Try.f63) (c := bodyOf Try.f63) (pcs := []) Try.func63 (by rfl) callOK (by rfl) hG (by rfl) (by rw [show ([] : List (List SV)).map List.length = [] from rfl, e63]; exact H)
/-- What is left of outworker/mach.vregs. -/
def t64 : Out :=
 (.ite (.cmp .eql (.var 0) (.lit 21))
  (.done (.int .i64 (.lit 23)) [])
  (.done (.int .i64 (.var 0)) []))
def l64 : List (Nat × List Nat × List (Nat × Nat) × List Nat) := []
theorem e64 : ev Try.prog ⟨allF, [], l64⟩ (bodyOf Try.f64) 0 (initSt [(.int .i64 (.var 0))] [] Try.f64.ntmps [.int .i64]) (finK Try.prog Try.f64.results []) = t64 := by kernel_rfl
theorem c64 {G : List Value} {h : H} {R : Value → List (List Value) → H → Prop} (hG : FitsL [.int .i64] G) (H : holds Try.prog R t64 G [] h) : CallsA Try.prog 64 (fun e => SV.denL G (fun k => e (k - 1000000)) [(.int .i64 (.var 0))]) ([].map (SV.denL G dE)) h R :=
  CallsA.of_ev (cf := ⟨allF, [], l64⟩) (fn := Try.f64) (c := bodyOf Try.f64) (pcs := []) Try.func64 (by rfl) callOK (by rfl) hG (by rfl) (by rw [show ([] : List (List SV)).map List.length = [] from rfl, e64]; exact H)
/-- What is left of outworker/outworkerref01.Zag. -/
def t71 : Out :=
 (.ite (.cmp .eql (.op .rem .u64 (.var 0) (.lit 2)) (.lit 1))
  (.done (.int .i64 (.op .sub .i64 (.op .sub .i64 (.lit 0) (.conv .i64 (.op .quo .u64 (.var 0) (.lit 2)))) (.lit 1))) [])
  (.done (.int .i64 (.conv .i64 (.op .quo .u64 (.var 0) (.lit 2)))) []))
def l71 : List (Nat × List Nat × List (Nat × Nat) × List Nat) := []
theorem e71 : ev Try.prog ⟨allF, [], l71⟩ (bodyOf Try.f71) 0 (initSt [(.int .u64 (.var 0))] [] Try.f71.ntmps [.int .u64]) (finK Try.prog Try.f71.results []) = t71 := by kernel_rfl
theorem c71 {G : List Value} {h : H} {R : Value → List (List Value) → H → Prop} (hG : FitsL [.int .u64] G) (H : holds Try.prog R t71 G [] h) : CallsA Try.prog 71 (fun e => SV.denL G (fun k => e (k - 1000000)) [(.int .u64 (.var 0))]) ([].map (SV.denL G dE)) h R :=
  CallsA.of_ev (cf := ⟨allF, [], l71⟩) (fn := Try.f71) (c := bodyOf Try.f71) (pcs := []) Try.func71 (by rfl) callOK (by rfl) hG (by rfl) (by rw [show ([] : List (List SV)).map List.length = [] from rfl, e71]; exact H)
/-- What is left of outworker/ir.plain. -/
def t72 : Out :=
 (.ite (.cmp .eql (.var 0) (.lit 1))
  (.done (.bool (.ite (.ite (.ite (.ite (.ite (.cmp .eql (.var 1) (.lit 0)) (.cmp .eql (.var 2) (.var 2)) (.tt false)) (.cmp .eql (.var 3) (.lit 0)) (.tt false)) (.cmp .eql (.var 4) (.lit 0)) (.tt false)) (.cmp .eql (.var 5) (.var 5)) (.tt false)) (.ite (.cmp .eql (.len 6) (.lit 0)) (.tt true) (.cmp .eql (.var 0) (.lit 6))) (.tt false))) [])
  (.ite (.ite (.cmp .eql (.var 0) (.lit 2)) (.cmp .eql (.var 0) (.lit 2)) (.cmp .eql (.var 0) (.lit 4)))
   (.done (.bool (.ite (.ite (.ite (.ite (.ite (.cmp .eql (.var 1) (.lit 0)) (.cmp .eql (.var 2) (.var 2)) (.tt false)) (.cmp .eql (.var 3) (.var 3)) (.tt false)) (.cmp .eql (.var 4) (.lit 0)) (.tt false)) (.cmp .eql (.var 5) (.lit 0)) (.tt false)) (.ite (.cmp .eql (.len 6) (.lit 0)) (.tt true) (.cmp .eql (.var 0) (.lit 6))) (.tt false))) [])
   (.ite (.cmp .eql (.var 0) (.lit 3))
    (.done (.bool (.ite (.ite (.ite (.ite (.ite (.cmp .eql (.var 1) (.var 1)) (.cmp .eql (.var 2) (.var 2)) (.tt false)) (.cmp .eql (.var 3) (.var 3)) (.tt false)) (.cmp .eql (.var 4) (.var 4)) (.tt false)) (.cmp .eql (.var 5) (.lit 0)) (.tt false)) (.ite (.cmp .eql (.len 6) (.lit 0)) (.tt true) (.cmp .eql (.var 0) (.lit 6))) (.tt false))) [])
    (.ite (.cmp .eql (.var 0) (.lit 5))
     (.done (.bool (.ite (.ite (.ite (.ite (.ite (.cmp .eql (.var 1) (.lit 0)) (.cmp .eql (.var 2) (.lit 0)) (.tt false)) (.cmp .eql (.var 3) (.var 3)) (.tt false)) (.cmp .eql (.var 4) (.var 4)) (.tt false)) (.cmp .eql (.var 5) (.lit 0)) (.tt false)) (.ite (.cmp .eql (.len 6) (.lit 0)) (.tt true) (.cmp .eql (.var 0) (.lit 6))) (.tt false))) [])
     (.ite (.cmp .eql (.var 0) (.lit 6))
      (.done (.bool (.ite (.ite (.ite (.ite (.ite (.cmp .eql (.var 1) (.lit 0)) (.cmp .eql (.var 2) (.var 2)) (.tt false)) (.cmp .eql (.var 3) (.lit 0)) (.tt false)) (.cmp .eql (.var 4) (.lit 0)) (.tt false)) (.cmp .eql (.var 5) (.var 5)) (.tt false)) (.ite (.cmp .eql (.len 6) (.lit 0)) (.tt true) (.cmp .eql (.var 0) (.lit 6))) (.tt false))) [])
      (.done (.bool (.ite (.ite (.ite (.ite (.ite (.cmp .eql (.var 1) (.lit 0)) (.cmp .eql (.var 2) (.lit 0)) (.tt false)) (.cmp .eql (.var 3) (.lit 0)) (.tt false)) (.cmp .eql (.var 4) (.lit 0)) (.tt false)) (.cmp .eql (.var 5) (.lit 0)) (.tt false)) (.ite (.cmp .eql (.len 6) (.lit 0)) (.tt true) (.cmp .eql (.var 0) (.lit 6))) (.tt false))) []))))))
def l72 : List (Nat × List Nat × List (Nat × Nat) × List Nat) := []
theorem e72 : ev Try.prog ⟨allF, [], l72⟩ (bodyOf Try.f72) 0 (initSt [(.agg [(.int .u8 (.var 0)), (.int .u8 (.var 1)), (.int .i64 (.var 2)), (.int .i64 (.var 3)), (.int .i64 (.var 4)), (.int .i64 (.var 5)), (.val 6)])] [] Try.f72.ntmps [.int .u8, .int .u8, .int .i64, .int .i64, .int .i64, .int .i64, .sl]) (finK Try.prog Try.f72.results []) = t72 := by kernel_rfl
theorem c72 {G : List Value} {h : H} {R : Value → List (List Value) → H → Prop} (hG : FitsL [.int .u8, .int .u8, .int .i64, .int .i64, .int .i64, .int .i64, .sl] G) (H : holds Try.prog R t72 G [] h) : CallsA Try.prog 72 (fun e => SV.denL G (fun k => e (k - 1000000)) [(.agg [(.int .u8 (.var 0)), (.int .u8 (.var 1)), (.int .i64 (.var 2)), (.int .i64 (.var 3)), (.int .i64 (.var 4)), (.int .i64 (.var 5)), (.val 6)])]) ([].map (SV.denL G dE)) h R :=
  CallsA.of_ev (cf := ⟨allF, [], l72⟩) (fn := Try.f72) (c := bodyOf Try.f72) (pcs := []) Try.func72 (by rfl) callOK (by rfl) hG (by rfl) (by rw [show ([] : List (List SV)).map List.length = [] from rfl, e72]; exact H)
/-- What is left of outworker/ir.Uses. -/
def t73 : Out :=
 (.ite (.ite (.cmp .eql (.var 0) (.lit 2)) (.cmp .eql (.var 0) (.lit 2)) (.ite (.cmp .eql (.var 0) (.lit 4)) (.cmp .eql (.var 0) (.lit 4)) (.cmp .eql (.var 0) (.lit 7))))
  (.alloc 3 [(.int .i64 (.var 3))] (.lsl 1) 
  (.done (.val 7) []))
  (.ite (.ite (.cmp .eql (.var 0) (.lit 3)) (.cmp .eql (.var 0) (.lit 3)) (.cmp .eql (.var 0) (.lit 5)))
   (.alloc 3 [(.int .i64 (.var 3)), (.int .i64 (.var 4))] (.lsl 2) 
   (.done (.val 7) []))
   (.ite (.cmp .eql (.var 0) (.lit 6))
    (.alloc 3 [] (.lsl 0) 
    (.app 3 1 8 (.val 7) (.sl (.val 6)) 
    (.done (.val 8) [])))
    (.done (.cst (.slice none 0 0)) []))))
def l73 : List (Nat × List Nat × List (Nat × Nat) × List Nat) := []
theorem e73 : ev Try.prog ⟨allF, [11, 19, 22], l73⟩ (bodyOf Try.f73) 0 (initSt [(.agg [(.int .u8 (.var 0)), (.int .u8 (.var 1)), (.int .i64 (.var 2)), (.int .i64 (.var 3)), (.int .i64 (.var 4)), (.int .i64 (.var 5)), (.val 6)])] [] Try.f73.ntmps [.int .u8, .int .u8, .int .i64, .int .i64, .int .i64, .int .i64, .sl]) (finK Try.prog Try.f73.results []) = t73 := by kernel_rfl
theorem c73 {G : List Value} {h : H} {R : Value → List (List Value) → H → Prop} (hG : FitsL [.int .u8, .int .u8, .int .i64, .int .i64, .int .i64, .int .i64, .sl] G) (H : holds Try.prog R t73 G [] h) : CallsA Try.prog 73 (fun e => SV.denL G (fun k => e (k - 1000000)) [(.agg [(.int .u8 (.var 0)), (.int .u8 (.var 1)), (.int .i64 (.var 2)), (.int .i64 (.var 3)), (.int .i64 (.var 4)), (.int .i64 (.var 5)), (.val 6)])]) ([].map (SV.denL G dE)) h R :=
  CallsA.of_ev (cf := ⟨allF, [11, 19, 22], l73⟩) (fn := Try.f73) (c := bodyOf Try.f73) (pcs := []) Try.func73 (by rfl) callOK (by rfl) hG (by rfl) (by rw [show ([] : List (List SV)).map List.length = [] from rfl, e73]; exact H)
/-- What is left of outworker/ir.Gives. -/
def t74 : Out :=
 (.ite (.ite (.cmp .eql (.var 0) (.lit 1)) (.cmp .eql (.var 0) (.lit 1)) (.ite (.cmp .eql (.var 0) (.lit 2)) (.cmp .eql (.var 0) (.lit 2)) (.ite (.cmp .eql (.var 0) (.lit 3)) (.cmp .eql (.var 0) (.lit 3)) (.ite (.cmp .eql (.var 0) (.lit 4)) (.cmp .eql (.var 0) (.lit 4)) (.ite (.cmp .eql (.var 0) (.lit 6)) (.cmp .eql (.var 0) (.lit 6)) (.cmp .eql (.var 0) (.lit 8)))))))
  (.done (.tup [(.int .i64 (.var 2)), (.bool (.tt true))]) [])
  (.done (.tup [(.int .i64 (.lit 0)), (.bool (.tt false))]) []))
def l74 : List (Nat × List Nat × List (Nat × Nat) × List Nat) := []
theorem e74 : ev Try.prog ⟨allF, [], l74⟩ (bodyOf Try.f74) 0 (initSt [(.agg [(.int .u8 (.var 0)), (.int .u8 (.var 1)), (.int .i64 (.var 2)), (.int .i64 (.var 3)), (.int .i64 (.var 4)), (.int .i64 (.var 5)), (.val 6)])] [] Try.f74.ntmps [.int .u8, .int .u8, .int .i64, .int .i64, .int .i64, .int .i64, .sl]) (finK Try.prog Try.f74.results []) = t74 := by kernel_rfl
theorem c74 {G : List Value} {h : H} {R : Value → List (List Value) → H → Prop} (hG : FitsL [.int .u8, .int .u8, .int .i64, .int .i64, .int .i64, .int .i64, .sl] G) (H : holds Try.prog R t74 G [] h) : CallsA Try.prog 74 (fun e => SV.denL G (fun k => e (k - 1000000)) [(.agg [(.int .u8 (.var 0)), (.int .u8 (.var 1)), (.int .i64 (.var 2)), (.int .i64 (.var 3)), (.int .i64 (.var 4)), (.int .i64 (.var 5)), (.val 6)])]) ([].map (SV.denL G dE)) h R :=
  CallsA.of_ev (cf := ⟨allF, [], l74⟩) (fn := Try.f74) (c := bodyOf Try.f74) (pcs := []) Try.func74 (by rfl) callOK (by rfl) hG (by rfl) (by rw [show ([] : List (List SV)).map List.length = [] from rfl, e74]; exact H)
/-- What is left of outworker/ir.Last. -/
def t75 : Out :=
 (.done (.tup [(.int .i64 (.var 1)), (.bool (.ite (.cmp .eql (.var 0) (.lit 2)) (.tt true) (.cmp .eql (.var 0) (.lit 3))))]) [])
def l75 : List (Nat × List Nat × List (Nat × Nat) × List Nat) := []
theorem e75 : ev Try.prog ⟨allF, [], l75⟩ (bodyOf Try.f75) 0 (initSt [(.agg [(.int .u8 (.var 0)), (.int .i64 (.var 1)), (.int .i64 (.var 2)), (.int .i64 (.var 3))])] [] Try.f75.ntmps [.int .u8, .int .i64, .int .i64, .int .i64]) (finK Try.prog Try.f75.results []) = t75 := by kernel_rfl
theorem c75 {G : List Value} {h : H} {R : Value → List (List Value) → H → Prop} (hG : FitsL [.int .u8, .int .i64, .int .i64, .int .i64] G) (H : holds Try.prog R t75 G [] h) : CallsA Try.prog 75 (fun e => SV.denL G (fun k => e (k - 1000000)) [(.agg [(.int .u8 (.var 0)), (.int .i64 (.var 1)), (.int .i64 (.var 2)), (.int .i64 (.var 3))])]) ([].map (SV.denL G dE)) h R :=
  CallsA.of_ev (cf := ⟨allF, [], l75⟩) (fn := Try.f75) (c := bodyOf Try.f75) (pcs := []) Try.func75 (by rfl) callOK (by rfl) hG (by rfl) (by rw [show ([] : List (List SV)).map List.length = [] from rfl, e75]; exact H)
/-- What is left of outworker/leb.PutInt. -/
def t76 : Out :=
 (.call 55 [(.val 0), (.int .u64 (.op .xor .u64 (.op .shl .u64 (.conv .u64 (.var 1)) (.lit 1)) (.conv .u64 (.op .shr .i64 (.var 1) (.lit 63)))))] [] [] [] [(false, [.sl])] 
 (.done (.val 2) []))
def l76 : List (Nat × List Nat × List (Nat × Nat) × List Nat) := []
theorem e76 : ev Try.prog ⟨allF, [], l76⟩ (bodyOf Try.f76) 0 (initSt [(.val 0), (.int .i64 (.var 1))] [] Try.f76.ntmps [.sl, .int .i64]) (finK Try.prog Try.f76.results []) = t76 := by kernel_rfl
theorem c76 {G : List Value} {h : H} {R : Value → List (List Value) → H → Prop} (hG : FitsL [.sl, .int .i64] G) (H : holds Try.prog R t76 G [] h) : CallsA Try.prog 76 (fun e => SV.denL G (fun k => e (k - 1000000)) [(.val 0), (.int .i64 (.var 1))]) ([].map (SV.denL G dE)) h R :=
  CallsA.of_ev (cf := ⟨allF, [], l76⟩) (fn := Try.f76) (c := bodyOf Try.f76) (pcs := []) Try.func76 (by rfl) callOK (by rfl) hG (by rfl) (by rw [show ([] : List (List SV)).map List.length = [] from rfl, e76]; exact H)
/-- What is left of outworker/outworkerref04.zero. -/
def t77 : Out :=
 (.loop 0 [(.int .i64 (.lit 0))] [.int .i64] 
  (.ite (.cmp .lss (.var 8) (.lit 6))
   (.need (.tt true) [(.cmp .geq (.var 8) (.lit 0)), (.cmp .lss (.var 8) (.slen (.str ⟨#[79, 68, 65, 66, 78, 82]⟩)))] 
   (.loop 1 [(.bool (.tt false)), (.int .i64 (.lit 0))] [.bool, .int .i64] 
    (.ite (.cmp .lss (.var 10) (.slen (.var 7)))
     (.need (.not (.var 9)) [(.cmp .geq (.var 10) (.lit 0)), (.cmp .lss (.var 10) (.slen (.var 7)))] 
     (.again 1 [(.bool (.ite (.var 9) (.tt true) (.cmp .eql (.byte (.var 7) (.var 10)) (.byte (.str ⟨#[79, 68, 65, 66, 78, 82]⟩) (.var 8))))), (.int .i64 (.op .add .i64 (.var 10) (.lit 1)))]))
     (.alloc 4 [(.bool (.cmp .neq (.var 1) (.lit 0))), (.bool (.cmp .neq (.var 2) (.lit 0))), (.bool (.cmp .neq (.var 3) (.lit 0))), (.bool (.cmp .neq (.var 4) (.lit 0))), (.bool (.cmp .neq (.var 5) (.lit 0))), (.bool (.cmp .gtr (.len 6) (.lit 0)))] (.lsl 6) 
     (.need (.tt true) [(.cmp .geq (.var 8) (.lit 0)), (.cmp .lss (.var 8) (.len 11))] 
     (.load (.tt true) (.idx (.var 11) (.var 8) 1) [.bool] 
     (.ite (.ite (.var 12) (.not (.var 9)) (.tt false))
      (.done (.bool (.tt false)) [])
      (.again 0 [(.int .i64 (.op .add .i64 (.var 8) (.lit 1)))]))))))))
   (.done (.bool (.tt true)) [])))
def l77 : List (Nat × List Nat × List (Nat × Nat) × List Nat) := [(2, [5], [], [10, 11, 14, 15, 6, 7, 8, 16, 17, 18, 19, 22, 23, 24, 25, 26, 27, 28, 29, 20, 21, 30, 31, 32, 33, 34, 35, 36, 37, 38, 39, 40, 41, 42, 43, 44, 45, 46, 47, 48, 49, 50, 51, 52, 9, 53, 54, 55, 56, 57, 4, 12, 13]), (7, [7, 8], [], [16, 17, 18, 19, 22, 23, 24, 25, 26, 27, 28, 29, 20, 21])]
theorem e77 : ev Try.prog ⟨allF, [49], l77⟩ (bodyOf Try.f77) 0 (initSt [(.agg [(.int .u8 (.var 0)), (.int .u8 (.var 1)), (.int .i64 (.var 2)), (.int .i64 (.var 3)), (.int .i64 (.var 4)), (.int .i64 (.var 5)), (.val 6)]), (.str (.var 7))] [] Try.f77.ntmps [.int .u8, .int .u8, .int .i64, .int .i64, .int .i64, .int .i64, .sl, .str]) (finK Try.prog Try.f77.results []) = t77 := by kernel_rfl
theorem c77 {G : List Value} {h : H} {R : Value → List (List Value) → H → Prop} (hG : FitsL [.int .u8, .int .u8, .int .i64, .int .i64, .int .i64, .int .i64, .sl, .str] G) (H : holds Try.prog R t77 G [] h) : CallsA Try.prog 77 (fun e => SV.denL G (fun k => e (k - 1000000)) [(.agg [(.int .u8 (.var 0)), (.int .u8 (.var 1)), (.int .i64 (.var 2)), (.int .i64 (.var 3)), (.int .i64 (.var 4)), (.int .i64 (.var 5)), (.val 6)]), (.str (.var 7))]) ([].map (SV.denL G dE)) h R :=
  CallsA.of_ev (cf := ⟨allF, [49], l77⟩) (fn := Try.f77) (c := bodyOf Try.f77) (pcs := []) Try.func77 (by rfl) callOK (by rfl) hG (by rfl) (by rw [show ([] : List (List SV)).map List.length = [] from rfl, e77]; exact H)
/-- What is left of outworker/outworkerref04.Uses. -/
def t78 : Out :=
 (.ite (.ite (.cmp .eql (.var 0) (.lit 2)) (.cmp .eql (.var 0) (.lit 2)) (.ite (.cmp .eql (.var 0) (.lit 4)) (.cmp .eql (.var 0) (.lit 4)) (.cmp .eql (.var 0) (.lit 7))))
  (.alloc 3 [(.int .i64 (.var 3))] (.lsl 1) 
  (.done (.val 7) []))
  (.ite (.ite (.cmp .eql (.var 0) (.lit 3)) (.cmp .eql (.var 0) (.lit 3)) (.cmp .eql (.var 0) (.lit 5)))
   (.alloc 3 [(.int .i64 (.var 3)), (.int .i64 (.var 4))] (.lsl 2) 
   (.done (.val 7) []))
   (.ite (.cmp .eql (.var 0) (.lit 6))
    (.done (.val 6) [])
    (.done (.cst (.slice none 0 0)) []))))
def l78 : List (Nat × List Nat × List (Nat × Nat) × List Nat) := []
theorem e78 : ev Try.prog ⟨allF, [11, 19], l78⟩ (bodyOf Try.f78) 0 (initSt [(.agg [(.int .u8 (.var 0)), (.int .u8 (.var 1)), (.int .i64 (.var 2)), (.int .i64 (.var 3)), (.int .i64 (.var 4)), (.int .i64 (.var 5)), (.val 6)])] [] Try.f78.ntmps [.int .u8, .int .u8, .int .i64, .int .i64, .int .i64, .int .i64, .sl]) (finK Try.prog Try.f78.results []) = t78 := by kernel_rfl
theorem c78 {G : List Value} {h : H} {R : Value → List (List Value) → H → Prop} (hG : FitsL [.int .u8, .int .u8, .int .i64, .int .i64, .int .i64, .int .i64, .sl] G) (H : holds Try.prog R t78 G [] h) : CallsA Try.prog 78 (fun e => SV.denL G (fun k => e (k - 1000000)) [(.agg [(.int .u8 (.var 0)), (.int .u8 (.var 1)), (.int .i64 (.var 2)), (.int .i64 (.var 3)), (.int .i64 (.var 4)), (.int .i64 (.var 5)), (.val 6)])]) ([].map (SV.denL G dE)) h R :=
  CallsA.of_ev (cf := ⟨allF, [11, 19], l78⟩) (fn := Try.f78) (c := bodyOf Try.f78) (pcs := []) Try.func78 (by rfl) callOK (by rfl) hG (by rfl) (by rw [show ([] : List (List SV)).map List.length = [] from rfl, e78]; exact H)
/-- What is left of outworker/outworkerref04.Gives. -/
def t79 : Out :=
 (.done (.bool (.ite (.ite (.ite (.ite (.ite (.cmp .eql (.var 0) (.lit 1)) (.tt true) (.cmp .eql (.var 0) (.lit 2))) (.tt true) (.cmp .eql (.var 0) (.lit 3))) (.tt true) (.cmp .eql (.var 0) (.lit 4))) (.tt true) (.cmp .eql (.var 0) (.lit 6))) (.tt true) (.cmp .eql (.var 0) (.lit 8)))) [])
def l79 : List (Nat × List Nat × List (Nat × Nat) × List Nat) := []
theorem e79 : ev Try.prog ⟨allF, [], l79⟩ (bodyOf Try.f79) 0 (initSt [(.int .u8 (.var 0))] [] Try.f79.ntmps [.int .u8]) (finK Try.prog Try.f79.results []) = t79 := by kernel_rfl
theorem c79 {G : List Value} {h : H} {R : Value → List (List Value) → H → Prop} (hG : FitsL [.int .u8] G) (H : holds Try.prog R t79 G [] h) : CallsA Try.prog 79 (fun e => SV.denL G (fun k => e (k - 1000000)) [(.int .u8 (.var 0))]) ([].map (SV.denL G dE)) h R :=
  CallsA.of_ev (cf := ⟨allF, [], l79⟩) (fn := Try.f79) (c := bodyOf Try.f79) (pcs := []) Try.func79 (by rfl) callOK (by rfl) hG (by rfl) (by rw [show ([] : List (List SV)).map List.length = [] from rfl, e79]; exact H)
/-- What is left of outworker/outworkerref01.Zig. -/
def t80 : Out :=
 (.ite (.cmp .lss (.var 0) (.lit 0))
  (.done (.int .u64 (.op .add .u64 (.op .mul .u64 (.lit 2) (.conv .u64 (.op .sub .i64 (.lit 0) (.op .add .i64 (.var 0) (.lit 1))))) (.lit 1))) [])
  (.done (.int .u64 (.op .mul .u64 (.lit 2) (.conv .u64 (.var 0)))) []))
def l80 : List (Nat × List Nat × List (Nat × Nat) × List Nat) := []
theorem e80 : ev Try.prog ⟨allF, [], l80⟩ (bodyOf Try.f80) 0 (initSt [(.int .i64 (.var 0))] [] Try.f80.ntmps [.int .i64]) (finK Try.prog Try.f80.results []) = t80 := by kernel_rfl
theorem c80 {G : List Value} {h : H} {R : Value → List (List Value) → H → Prop} (hG : FitsL [.int .i64] G) (H : holds Try.prog R t80 G [] h) : CallsA Try.prog 80 (fun e => SV.denL G (fun k => e (k - 1000000)) [(.int .i64 (.var 0))]) ([].map (SV.denL G dE)) h R :=
  CallsA.of_ev (cf := ⟨allF, [], l80⟩) (fn := Try.f80) (c := bodyOf Try.f80) (pcs := []) Try.func80 (by rfl) callOK (by rfl) hG (by rfl) (by rw [show ([] : List (List SV)).map List.length = [] from rfl, e80]; exact H)
/-- What is left of (*outworker/leb.Reader).Int. -/
def t82 : Out :=
 (.call 65 [(.val 0)] [] [] [] [(false, [.int .u64])] 
 (.done (.int .i64 (.op .xor .i64 (.conv .i64 (.op .shr .u64 (.var 1) (.lit 1))) (.op .sub .i64 (.lit 0) (.conv .i64 (.op .and .u64 (.var 1) (.lit 1)))))) []))
def l82 : List (Nat × List Nat × List (Nat × Nat) × List Nat) := []
theorem e82 : ev Try.prog ⟨allF, [], l82⟩ (bodyOf Try.f82) 0 (initSt [(.val 0)] [] Try.f82.ntmps [.ptr]) (finK Try.prog Try.f82.results []) = t82 := by kernel_rfl
theorem c82 {G : List Value} {h : H} {R : Value → List (List Value) → H → Prop} (hG : FitsL [.ptr] G) (H : holds Try.prog R t82 G [] h) : CallsA Try.prog 82 (fun e => SV.denL G (fun k => e (k - 1000000)) [(.val 0)]) ([].map (SV.denL G dE)) h R :=
  CallsA.of_ev (cf := ⟨allF, [], l82⟩) (fn := Try.f82) (c := bodyOf Try.f82) (pcs := []) Try.func82 (by rfl) callOK (by rfl) hG (by rfl) (by rw [show ([] : List (List SV)).map List.length = [] from rfl, e82]; exact H)
end Go.Proofs.Ythnoplfjcdkacaa
