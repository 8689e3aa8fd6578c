/-
  What the evaluator leaves of the functions of this seat (trees, printed by a program of ours), and their contracts from it. Conditions: none.
-/
import Derived.Test.YtodeffobplpcnaaEc
import Derived.Test.YtodeffobplpcnaaProg
set_option linter.unusedVariables false
set_option linter.unusedSimpArgs false
namespace Go.Proofs.Ytodeffobplpcnaa
open Go

def bodyOf (fn : Func) : Code := match fn.body with | some c => c | none => .seq (.exit 0) (.exit 0)
def allF : List Nat := [2, 3, 4, 5, 6, 7, 8, 9, 10, 11, 12, 13, 14, 15, 16, 17, 18, 19, 20, 21, 22, 23, 24, 25, 26, 27, 28, 29, 30, 31, 32, 33, 34, 35, 36, 37, 38, 39, 40, 41, 42, 43, 44, 45, 46, 47, 48, 49, 50, 51, 52, 53, 54, 55, 56, 57, 58, 59, 60, 61, 62]
theorem callOK : CallOK Try.prog allF := by
  intro f hf args w
  simp only [allF, List.mem_cons, List.not_mem_nil, or_false] at hf
  rcases hf with rfl | rfl | rfl | rfl | rfl | rfl | rfl | rfl | rfl | rfl | rfl | rfl | rfl | rfl | rfl | rfl | rfl | rfl | rfl | rfl | rfl | rfl | rfl | rfl | rfl | rfl | rfl | rfl | rfl | rfl | rfl | rfl | rfl | rfl | rfl | rfl | rfl | rfl | rfl | rfl | rfl | rfl | rfl | rfl | rfl | rfl | rfl | rfl | rfl | rfl | rfl | rfl | rfl | rfl | rfl | rfl | rfl | rfl | rfl | rfl | rfl
  · exact Try.call2 args w
  · exact Try.call3 args w
  · exact Try.call4 args w
  · exact Try.call5 args w
  · exact Try.call6 args w
  · exact Try.call7 args w
  · exact Try.call8 args w
  · exact Try.call9 args w
  · exact Try.call10 args w
  · exact Try.call11 args w
  · exact Try.call12 args w
  · exact Try.call13 args w
  · exact Try.call14 args w
  · exact Try.call15 args w
  · exact Try.call16 args w
  · exact Try.call17 args w
  · exact Try.call18 args w
  · exact Try.call19 args w
  · exact Try.call20 args w
  · exact Try.call21 args w
  · exact Try.call22 args w
  · exact Try.call23 args w
  · exact Try.call24 args w
  · exact Try.call25 args w
  · exact Try.call26 args w
  · exact Try.call27 args w
  · exact Try.call28 args w
  · exact Try.call29 args w
  · exact Try.call30 args w
  · exact Try.call31 args w
  · exact Try.call32 args w
  · exact Try.call33 args w
  · exact Try.call34 args w
  · exact Try.call35 args w
  · exact Try.call36 args w
  · exact Try.call37 args w
  · exact Try.call38 args w
  · exact Try.call39 args w
  · exact Try.call40 args w
  · exact Try.call41 args w
  · exact Try.call42 args w
  · exact Try.call43 args w
  · exact Try.call44 args w
  · exact Try.call45 args w
  · exact Try.call46 args w
  · exact Try.call47 args w
  · exact Try.call48 args w
  · exact Try.call49 args w
  · exact Try.call50 args w
  · exact Try.call51 args w
  · exact Try.call52 args w
  · exact Try.call53 args w
  · exact Try.call54 args w
  · exact Try.call55 args w
  · exact Try.call56 args w
  · exact Try.call57 args w
  · exact Try.call58 args w
  · exact Try.call59 args w
  · exact Try.call60 args w
  · exact Try.call61 args w
  · exact Try.call62 args w
/-- What is left of outworker/outworkerlaw06.Awake. -/
def t15 : Out :=
 (.alloc 71 [(.int .u8 (.lit 3)), (.int .u8 (.lit 3)), (.int .i64 (.lit 0)), (.int .i64 (.lit 0)), (.int .i64 (.lit 0)), (.int .i64 (.lit 0)), (.cst (.slice none 0 0))] (.lsl 1) 
 (.alloc 66 [(.val 0), (.int .u8 (.lit 3)), (.int .i64 (.lit 0)), (.int .i64 (.lit 0)), (.int .i64 (.lit 0))] (.lsl 1) 
 (.alloc 2 [(.int .i64 (.lit 5))] (.lsl 1) 
 (.call 18 [(.agg [(.int .i64 (.lit 1)), (.int .i64 (.lit 1)), (.val 1)]), (.agg [(.val 2), (.cst (.slice none 0 0)), (.cst (.slice none 0 0)), (.int .i64 (.lit 9))])] [] [] [] [(true, [.int .i64, .int .i64, .sl, .int .i64, .int .i64, .int .i64, .int .i64, .int .i64, .int .i64, .int .i64, .int .i64, .int .i64, .int .i64, .int .i64, .int .i64, .int .i64, .int .i64, .int .i64, .int .i64, .int .i64, .int .i64, .int .i64, .int .i64, .int .i64, .int .i64, .int .i64, .int .i64, .int .i64, .int .i64, .int .i64, .int .i64, .int .i64, .int .i64, .int .i64, .int .i64, .int .i64, .int .i64, .int .i64, .int .i64, .int .i64, .int .i64, .int .i64, .int .i64, .int .i64, .int .i64, .int .i64, .int .i64, .int .i64, .int .i64, .int .i64, .int .i64, .int .i64, .int .i64, .int .i64, .int .i64, .int .i64, .int .i64, .int .i64, .int .i64, .int .i64, .int .i64, .int .i64, .int .i64, .int .i64, .int .i64, .int .i64, .int .i64, .int .i64]), (false, [.int .i64])] 
 (.alloc 2 [(.int .i64 (.lit 5))] (.lsl 1) 
 (.call 18 [(.agg [(.int .i64 (.lit 1)), (.int .i64 (.lit 1)), (.val 1)]), (.agg [(.val 72), (.cst (.slice none 0 0)), (.cst (.slice none 0 0)), (.int .i64 (.lit 1))])] [] [] [] [(true, [.int .i64, .int .i64, .sl, .int .i64, .int .i64, .int .i64, .int .i64, .int .i64, .int .i64, .int .i64, .int .i64, .int .i64, .int .i64, .int .i64, .int .i64, .int .i64, .int .i64, .int .i64, .int .i64, .int .i64, .int .i64, .int .i64, .int .i64, .int .i64, .int .i64, .int .i64, .int .i64, .int .i64, .int .i64, .int .i64, .int .i64, .int .i64, .int .i64, .int .i64, .int .i64, .int .i64, .int .i64, .int .i64, .int .i64, .int .i64, .int .i64, .int .i64, .int .i64, .int .i64, .int .i64, .int .i64, .int .i64, .int .i64, .int .i64, .int .i64, .int .i64, .int .i64, .int .i64, .int .i64, .int .i64, .int .i64, .int .i64, .int .i64, .int .i64, .int .i64, .int .i64, .int .i64, .int .i64, .int .i64, .int .i64, .int .i64, .int .i64, .int .i64]), (false, [.int .i64])] 
 (.done (.bool (.ite (.ite (.ite (.ite (.ite (.ite (.cmp .eql (.var 71) (.lit 0)) (.cmp .eql (.var 141) (.lit 0)) (.tt false)) (.cmp .eql (.var 3) (.lit 1)) (.tt false)) (.cmp .eql (.var 4) (.lit 25)) (.tt false)) (.cmp .eql (.var 70) (.lit 7)) (.tt false)) (.cmp .eql (.var 73) (.lit 3)) (.tt false)) (.cmp .eql (.var 140) (.lit 0)) (.tt false))) [])))))))
def l15 : List (Nat × List Nat × List (Nat × Nat) × List Nat) := []
theorem e15 : ev Try.prog ⟨allF, [7, 10, 14, 21], l15⟩ (bodyOf Try.f15) 0 (initSt [] [] Try.f15.ntmps []) (finK Try.prog Try.f15.results []) = t15 := by kernel_rfl
theorem c15 {G : List Value} {h : H} {R : Value → List (List Value) → H → Prop} (hG : FitsL [] G) (H : holds Try.prog R t15 G [] h) : CallsA Try.prog 15 (fun e => SV.denL G (fun k => e (k - 1000000)) []) ([].map (SV.denL G dE)) h R :=
  CallsA.of_ev (cf := ⟨allF, [7, 10, 14, 21], l15⟩) (fn := Try.f15) (c := bodyOf Try.f15) (pcs := []) Try.func15 (by rfl) callOK (by rfl) hG (by rfl) (by rw [show ([] : List (List SV)).map List.length = [] from rfl, e15]; exact H)
/-- What is left of outworker/outworkerlaw04.Made. -/
def t16 : Out :=
 (.loop 0 [(.int .i64 (.lit 0)), (.val 3), (.cst (.slice none 0 0))] [.int .i64, .sl, .sl] 
  (.ite (.cmp .lss (.var 4) (.op .add .i64 (.lit 1) (.conv .i64 (.op .rem .u8 (.var 2) (.lit 7)))))
   (.call 33 [(.loc 24 0), (.int .i64 (.lit 9))] [24] [[(.val 5)]] [[.sl]] [(false, [.int .i64])] 
   (.loop 1 [(.int .i64 (.lit 0)), (.cst (.slice none 0 0)), (.val 7)] [.int .i64, .sl, .sl] 
    (.ite (.cmp .lss (.var 9) (.var 8))
     (.call 34 [(.loc 24 0), (.int .i64 (.op .add .i64 (.ite (.cmp .gtr (.lit 1) (.conv .i64 (.op .rem .u8 (.var 0) (.lit 5)))) (.lit 1) (.conv .i64 (.op .rem .u8 (.var 0) (.lit 5)))) (.conv .i64 (.op .rem .u8 (.var 1) (.lit 28)))))] [24] [[(.val 11)]] [[.sl]] [(true, [.int .u8, .int .u8, .int .i64, .int .i64, .int .i64, .int .i64, .sl])] 
     (.app 71 7 64 (.val 10) (.cells [(.int .u8 (.var 13)), (.int .u8 (.var 14)), (.int .i64 (.var 15)), (.int .i64 (.var 16)), (.int .i64 (.var 17)), (.int .i64 (.var 18)), (.val 19)] 1) 
     (.again 1 [(.int .i64 (.op .add .i64 (.var 9) (.lit 1))), (.val 20), (.val 12)])))
     (.call 33 [(.loc 24 0), (.int .i64 (.lit 4))] [24] [[(.val 11)]] [[.sl]] [(false, [.int .i64])] 
     (.ite (.cmp .eql (.var 13) (.lit 1))
      (.call 33 [(.loc 24 0), (.int .i64 (.op .add .i64 (.lit 1) (.conv .i64 (.op .rem .u8 (.var 2) (.lit 7)))))] [24] [[(.val 12)]] [[.sl]] [(false, [.int .i64])] 
      (.app 66 5 56 (.val 6) (.cells [(.val 10), (.int .u8 (.lit 1)), (.int .i64 (.lit 0)), (.int .i64 (.var 15)), (.int .i64 (.lit 0))] 1) 
      (.again 0 [(.int .i64 (.op .add .i64 (.var 4) (.lit 1))), (.val 14), (.val 16)])))
      (.ite (.ite (.cmp .eql (.var 13) (.lit 2)) (.cmp .eql (.var 13) (.lit 2)) (.cmp .eql (.var 13) (.lit 3)))
       (.call 33 [(.loc 24 0), (.int .i64 (.op .add .i64 (.ite (.cmp .gtr (.lit 1) (.conv .i64 (.op .rem .u8 (.var 0) (.lit 5)))) (.lit 1) (.conv .i64 (.op .rem .u8 (.var 0) (.lit 5)))) (.conv .i64 (.op .rem .u8 (.var 1) (.lit 28)))))] [24] [[(.val 12)]] [[.sl]] [(false, [.int .i64])] 
       (.call 33 [(.loc 24 0), (.int .i64 (.op .add .i64 (.lit 1) (.conv .i64 (.op .rem .u8 (.var 2) (.lit 7)))))] [24] [[(.val 14)]] [[.sl]] [(false, [.int .i64])] 
       (.call 33 [(.loc 24 0), (.int .i64 (.op .add .i64 (.lit 1) (.conv .i64 (.op .rem .u8 (.var 2) (.lit 7)))))] [24] [[(.val 16)]] [[.sl]] [(false, [.int .i64])] 
       (.app 66 5 56 (.val 6) (.cells [(.val 10), (.int .u8 (.lit 2)), (.int .i64 (.var 15)), (.int .i64 (.var 17)), (.int .i64 (.var 19))] 1) 
       (.again 0 [(.int .i64 (.op .add .i64 (.var 4) (.lit 1))), (.val 18), (.val 20)])))))
       (.call 33 [(.loc 24 0), (.int .i64 (.op .add .i64 (.ite (.cmp .gtr (.lit 1) (.conv .i64 (.op .rem .u8 (.var 0) (.lit 5)))) (.lit 1) (.conv .i64 (.op .rem .u8 (.var 0) (.lit 5)))) (.conv .i64 (.op .rem .u8 (.var 1) (.lit 28)))))] [24] [[(.val 12)]] [[.sl]] [(false, [.int .i64])] 
       (.app 66 5 56 (.val 6) (.cells [(.val 10), (.int .u8 (.lit 3)), (.int .i64 (.var 15)), (.int .i64 (.lit 0)), (.int .i64 (.lit 0))] 1) 
       (.again 0 [(.int .i64 (.op .add .i64 (.var 4) (.lit 1))), (.val 14), (.val 16)])))))))))
   (.done (.agg [(.int .i64 (.conv .i64 (.op .rem .u8 (.var 0) (.lit 5)))), (.int .i64 (.op .add .i64 (.ite (.cmp .gtr (.lit 1) (.conv .i64 (.op .rem .u8 (.var 0) (.lit 5)))) (.lit 1) (.conv .i64 (.op .rem .u8 (.var 0) (.lit 5)))) (.conv .i64 (.op .rem .u8 (.var 1) (.lit 28))))), (.val 6)]) [])))
def l16 : List (Nat × List Nat × List (Nat × Nat) × List Nat) := [(6, [31], [(24, 0), (3, 2)], [32, 6, 33, 34, 35, 36, 37, 38, 39, 40, 41, 42, 43, 44, 45, 46, 47, 48, 56, 55, 57, 58, 59, 60, 61, 63, 62, 64, 65, 66, 67, 68, 69, 70, 71, 72, 73, 74, 75, 76, 49, 50, 51, 52, 53, 54, 77, 78, 79, 80, 81, 82, 83]), (9, [35], [(6, 0), (24, 0)], [36, 37, 38, 39, 40, 41, 42, 43, 44, 45, 46])]
theorem e16 : ev Try.prog ⟨allF, [], l16⟩ (bodyOf Try.f16) 0 (initSt [(.agg [(.int .u8 (.var 0)), (.int .u8 (.var 1)), (.int .u8 (.var 2)), (.val 3)])] [] Try.f16.ntmps [.int .u8, .int .u8, .int .u8, .sl]) (finK Try.prog Try.f16.results []) = t16 := by kernel_rfl
theorem c16 {G : List Value} {h : H} {R : Value → List (List Value) → H → Prop} (hG : FitsL [.int .u8, .int .u8, .int .u8, .sl] G) (H : holds Try.prog R t16 G [] h) : CallsA Try.prog 16 (fun e => SV.denL G (fun k => e (k - 1000000)) [(.agg [(.int .u8 (.var 0)), (.int .u8 (.var 1)), (.int .u8 (.var 2)), (.val 3)])]) ([].map (SV.denL G dE)) h R :=
  CallsA.of_ev (cf := ⟨allF, [], l16⟩) (fn := Try.f16) (c := bodyOf Try.f16) (pcs := []) Try.func16 (by rfl) callOK (by rfl) hG (by rfl) (by rw [show ([] : List (List SV)).map List.length = [] from rfl, e16]; exact H)
/-- What is left of outworker/outworkerlaw06.Input. -/
def t17 : Out :=
 (.need (.tt true) [(.cmp .geq (.ite (.cmp .lss (.lit 100) (.len 1)) (.lit 100) (.len 1)) (.lit 0)), (.cmp .leq (.ite (.cmp .lss (.lit 100) (.len 1)) (.lit 100) (.len 1)) (.cap 1))] 
 (.bnd (.slice (.val 1) none (some (.ite (.cmp .lss (.lit 100) (.len 1)) (.lit 100) (.len 1))) 1) 
 (.need (.tt true) [(.cmp .geq (.ite (.cmp .lss (.lit 100) (.len 2)) (.lit 100) (.len 2)) (.lit 0)), (.cmp .leq (.ite (.cmp .lss (.lit 100) (.len 2)) (.lit 100) (.len 2)) (.cap 2))] 
 (.bnd (.slice (.val 2) none (some (.ite (.cmp .lss (.lit 100) (.len 2)) (.lit 100) (.len 2))) 1) 
 (.loop 0 [(.int .i64 (.lit 0)), (.cst (.slice none 0 0))] [.int .i64, .sl] 
  (.ite (.cmp .lss (.var 7) (.var 4))
   (.ite (.cmp .lss (.var 7) (.len 0))
    (.need (.tt true) [(.cmp .geq (.var 7) (.lit 0)), (.cmp .lss (.var 7) (.len 0))] 
    (.load (.tt true) (.idx (.var 0) (.var 7) 1) [.int .i64] 
    (.app 2 1 8 (.val 8) (.cells [(.int .i64 (.var 9))] 1) 
    (.again 0 [(.int .i64 (.op .add .i64 (.var 7) (.lit 1))), (.val 10)]))))
    (.app 2 1 8 (.val 8) (.cells [(.int .i64 (.var 7))] 1) 
    (.again 0 [(.int .i64 (.op .add .i64 (.var 7) (.lit 1))), (.val 9)])))
   (.done (.agg [(.val 8), (.val 5), (.val 6), (.int .i64 (.conv .i64 (.op .rem .u64 (.conv .u64 (.var 3)) (.lit 400))))]) [])))))))
def l17 : List (Nat × List Nat × List (Nat × Nat) × List Nat) := [(3, [29], [(5, 0)], [30, 31, 6, 32, 7, 33, 34, 35, 36, 37, 38, 39, 40, 41, 42, 43, 44, 45, 46, 47, 48, 49])]
theorem e17 : ev Try.prog ⟨allF, [], l17⟩ (bodyOf Try.f17) 0 (initSt [(.agg [(.val 0), (.val 1), (.val 2), (.int .i64 (.var 3))]), (.int .i64 (.var 4))] [] Try.f17.ntmps [.sl, .sl, .sl, .int .i64, .int .i64]) (finK Try.prog Try.f17.results []) = t17 := by kernel_rfl
theorem c17 {G : List Value} {h : H} {R : Value → List (List Value) → H → Prop} (hG : FitsL [.sl, .sl, .sl, .int .i64, .int .i64] G) (H : holds Try.prog R t17 G [] h) : CallsA Try.prog 17 (fun e => SV.denL G (fun k => e (k - 1000000)) [(.agg [(.val 0), (.val 1), (.val 2), (.int .i64 (.var 3))]), (.int .i64 (.var 4))]) ([].map (SV.denL G dE)) h R :=
  CallsA.of_ev (cf := ⟨allF, [], l17⟩) (fn := Try.f17) (c := bodyOf Try.f17) (pcs := []) Try.func17 (by rfl) callOK (by rfl) hG (by rfl) (by rw [show ([] : List (List SV)).map List.length = [] from rfl, e17]; exact H)
/-- What is left of outworker/run.Run. -/
def t18 : Out :=
 (.call 35 [(.agg [(.int .i64 (.var 0)), (.int .i64 (.var 1)), (.val 2)])] [] [] [] [(true, [.int .i64, .int .i64, .int .i64])] 
 (.ite (.cmp .neq (.var 7) (.lit 0))
  (.done (.tup [(.agg [(.int .i64 (.lit 0)), (.int .i64 (.lit 0)), (.cst (.slice none 0 0)), (.int .i64 (.lit 0)), (.int .i64 (.lit 0)), (.int .i64 (.lit 0)), (.int .i64 (.lit 0)), (.int .i64 (.lit 0)), (.int .i64 (.lit 0)), (.int .i64 (.lit 0)), (.int .i64 (.lit 0)), (.int .i64 (.lit 0)), (.int .i64 (.lit 0)), (.int .i64 (.lit 0)), (.int .i64 (.lit 0)), (.int .i64 (.lit 0)), (.int .i64 (.lit 0)), (.int .i64 (.lit 0)), (.int .i64 (.lit 0)), (.int .i64 (.lit 0)), (.int .i64 (.lit 0)), (.int .i64 (.lit 0)), (.int .i64 (.lit 0)), (.int .i64 (.lit 0)), (.int .i64 (.lit 0)), (.int .i64 (.lit 0)), (.int .i64 (.lit 0)), (.int .i64 (.lit 0)), (.int .i64 (.lit 0)), (.int .i64 (.lit 0)), (.int .i64 (.lit 0)), (.int .i64 (.lit 0)), (.int .i64 (.lit 0)), (.int .i64 (.lit 0)), (.int .i64 (.lit 0)), (.int .i64 (.lit 0)), (.int .i64 (.lit 0)), (.int .i64 (.lit 0)), (.int .i64 (.lit 0)), (.int .i64 (.lit 0)), (.int .i64 (.lit 0)), (.int .i64 (.lit 0)), (.int .i64 (.lit 0)), (.int .i64 (.lit 0)), (.int .i64 (.lit 0)), (.int .i64 (.lit 0)), (.int .i64 (.lit 0)), (.int .i64 (.lit 0)), (.int .i64 (.lit 0)), (.int .i64 (.lit 0)), (.int .i64 (.lit 0)), (.int .i64 (.lit 0)), (.int .i64 (.lit 0)), (.int .i64 (.lit 0)), (.int .i64 (.lit 0)), (.int .i64 (.lit 0)), (.int .i64 (.lit 0)), (.int .i64 (.lit 0)), (.int .i64 (.lit 0)), (.int .i64 (.lit 0)), (.int .i64 (.lit 0)), (.int .i64 (.lit 0)), (.int .i64 (.lit 0)), (.int .i64 (.lit 0)), (.int .i64 (.lit 0)), (.int .i64 (.lit 0)), (.int .i64 (.lit 0)), (.int .i64 (.lit 0))]), (.int .i64 (.lit 30))]) [])
  (.call 23 [(.int .i64 (.var 0)), (.agg [(.val 3), (.val 4), (.val 5), (.int .i64 (.var 6))])] [] [] [] [(false, [.int .i64])] 
  (.ite (.cmp .neq (.var 10) (.lit 0))
   (.done (.tup [(.agg [(.int .i64 (.lit 0)), (.int .i64 (.lit 0)), (.cst (.slice none 0 0)), (.int .i64 (.lit 0)), (.int .i64 (.lit 0)), (.int .i64 (.lit 0)), (.int .i64 (.lit 0)), (.int .i64 (.lit 0)), (.int .i64 (.lit 0)), (.int .i64 (.lit 0)), (.int .i64 (.lit 0)), (.int .i64 (.lit 0)), (.int .i64 (.lit 0)), (.int .i64 (.lit 0)), (.int .i64 (.lit 0)), (.int .i64 (.lit 0)), (.int .i64 (.lit 0)), (.int .i64 (.lit 0)), (.int .i64 (.lit 0)), (.int .i64 (.lit 0)), (.int .i64 (.lit 0)), (.int .i64 (.lit 0)), (.int .i64 (.lit 0)), (.int .i64 (.lit 0)), (.int .i64 (.lit 0)), (.int .i64 (.lit 0)), (.int .i64 (.lit 0)), (.int .i64 (.lit 0)), (.int .i64 (.lit 0)), (.int .i64 (.lit 0)), (.int .i64 (.lit 0)), (.int .i64 (.lit 0)), (.int .i64 (.lit 0)), (.int .i64 (.lit 0)), (.int .i64 (.lit 0)), (.int .i64 (.lit 0)), (.int .i64 (.lit 0)), (.int .i64 (.lit 0)), (.int .i64 (.lit 0)), (.int .i64 (.lit 0)), (.int .i64 (.lit 0)), (.int .i64 (.lit 0)), (.int .i64 (.lit 0)), (.int .i64 (.lit 0)), (.int .i64 (.lit 0)), (.int .i64 (.lit 0)), (.int .i64 (.lit 0)), (.int .i64 (.lit 0)), (.int .i64 (.lit 0)), (.int .i64 (.lit 0)), (.int .i64 (.lit 0)), (.int .i64 (.lit 0)), (.int .i64 (.lit 0)), (.int .i64 (.lit 0)), (.int .i64 (.lit 0)), (.int .i64 (.lit 0)), (.int .i64 (.lit 0)), (.int .i64 (.lit 0)), (.int .i64 (.lit 0)), (.int .i64 (.lit 0)), (.int .i64 (.lit 0)), (.int .i64 (.lit 0)), (.int .i64 (.lit 0)), (.int .i64 (.lit 0)), (.int .i64 (.lit 0)), (.int .i64 (.lit 0)), (.int .i64 (.lit 0)), (.int .i64 (.lit 0))]), (.int .i64 (.var 10))]) [])
   (.call 27 [(.val 2), (.int .i64 (.var 1)), (.int .i64 (.lit 0)), (.int .i64 (.lit 0)), (.agg [(.val 3), (.val 4), (.val 5), (.int .i64 (.var 6))])] [] [] [] [(true, [.int .i64, .int .i64, .sl, .int .i64, .int .i64, .int .i64, .int .i64, .int .i64, .int .i64, .int .i64, .int .i64, .int .i64, .int .i64, .int .i64, .int .i64, .int .i64, .int .i64, .int .i64, .int .i64, .int .i64, .int .i64, .int .i64, .int .i64, .int .i64, .int .i64, .int .i64, .int .i64, .int .i64, .int .i64, .int .i64, .int .i64, .int .i64, .int .i64, .int .i64, .int .i64, .int .i64, .int .i64, .int .i64, .int .i64, .int .i64, .int .i64, .int .i64, .int .i64, .int .i64, .int .i64, .int .i64, .int .i64, .int .i64, .int .i64, .int .i64, .int .i64, .int .i64, .int .i64, .int .i64, .int .i64, .int .i64, .int .i64, .int .i64, .int .i64, .int .i64, .int .i64, .int .i64, .int .i64, .int .i64, .int .i64, .int .i64, .int .i64, .int .i64])] 
   (.done (.tup [(.agg [(.int .i64 (.var 11)), (.int .i64 (.var 12)), (.val 13), (.int .i64 (.var 14)), (.int .i64 (.var 15)), (.int .i64 (.var 16)), (.int .i64 (.var 17)), (.int .i64 (.var 18)), (.int .i64 (.var 19)), (.int .i64 (.var 20)), (.int .i64 (.var 21)), (.int .i64 (.var 22)), (.int .i64 (.var 23)), (.int .i64 (.var 24)), (.int .i64 (.var 25)), (.int .i64 (.var 26)), (.int .i64 (.var 27)), (.int .i64 (.var 28)), (.int .i64 (.var 29)), (.int .i64 (.var 30)), (.int .i64 (.var 31)), (.int .i64 (.var 32)), (.int .i64 (.var 33)), (.int .i64 (.var 34)), (.int .i64 (.var 35)), (.int .i64 (.var 36)), (.int .i64 (.var 37)), (.int .i64 (.var 38)), (.int .i64 (.var 39)), (.int .i64 (.var 40)), (.int .i64 (.var 41)), (.int .i64 (.var 42)), (.int .i64 (.var 43)), (.int .i64 (.var 44)), (.int .i64 (.var 45)), (.int .i64 (.var 46)), (.int .i64 (.var 47)), (.int .i64 (.var 48)), (.int .i64 (.var 49)), (.int .i64 (.var 50)), (.int .i64 (.var 51)), (.int .i64 (.var 52)), (.int .i64 (.var 53)), (.int .i64 (.var 54)), (.int .i64 (.var 55)), (.int .i64 (.var 56)), (.int .i64 (.var 57)), (.int .i64 (.var 58)), (.int .i64 (.var 59)), (.int .i64 (.var 60)), (.int .i64 (.var 61)), (.int .i64 (.var 62)), (.int .i64 (.var 63)), (.int .i64 (.var 64)), (.int .i64 (.var 65)), (.int .i64 (.var 66)), (.int .i64 (.var 67)), (.int .i64 (.var 68)), (.int .i64 (.var 69)), (.int .i64 (.var 70)), (.int .i64 (.var 71)), (.int .i64 (.var 72)), (.int .i64 (.var 73)), (.int .i64 (.var 74)), (.int .i64 (.var 75)), (.int .i64 (.var 76)), (.int .i64 (.var 77)), (.int .i64 (.var 78))]), (.int .i64 (.lit 0))]) []))))))
def l18 : List (Nat × List Nat × List (Nat × Nat) × List Nat) := []
theorem e18 : ev Try.prog ⟨allF, [], l18⟩ (bodyOf Try.f18) 0 (initSt [(.agg [(.int .i64 (.var 0)), (.int .i64 (.var 1)), (.val 2)]), (.agg [(.val 3), (.val 4), (.val 5), (.int .i64 (.var 6))])] [] Try.f18.ntmps [.int .i64, .int .i64, .sl, .sl, .sl, .sl, .int .i64]) (finK Try.prog Try.f18.results []) = t18 := by kernel_rfl
theorem c18 {G : List Value} {h : H} {R : Value → List (List Value) → H → Prop} (hG : FitsL [.int .i64, .int .i64, .sl, .sl, .sl, .sl, .int .i64] G) (H : holds Try.prog R t18 G [] h) : CallsA Try.prog 18 (fun e => SV.denL G (fun k => e (k - 1000000)) [(.agg [(.int .i64 (.var 0)), (.int .i64 (.var 1)), (.val 2)]), (.agg [(.val 3), (.val 4), (.val 5), (.int .i64 (.var 6))])]) ([].map (SV.denL G dE)) h R :=
  CallsA.of_ev (cf := ⟨allF, [], l18⟩) (fn := Try.f18) (c := bodyOf Try.f18) (pcs := []) Try.func18 (by rfl) callOK (by rfl) hG (by rfl) (by rw [show ([] : List (List SV)).map List.length = [] from rfl, e18]; exact H)
/-- What is left of outworker/outworkerref04.SameOutputs. -/
def t19 : Out :=
 (.ite (.ite (.ite (.ite (.ite (.cmp .neq (.var 0) (.var 68)) (.tt true) (.cmp .neq (.var 1) (.var 69))) (.tt true) (.not (.and (.cmp .eql (.var 3) (.var 71)) (.and (.cmp .eql (.var 4) (.var 72)) (.and (.cmp .eql (.var 5) (.var 73)) (.and (.cmp .eql (.var 6) (.var 74)) (.and (.cmp .eql (.var 7) (.var 75)) (.and (.cmp .eql (.var 8) (.var 76)) (.and (.cmp .eql (.var 9) (.var 77)) (.and (.cmp .eql (.var 10) (.var 78)) (.and (.cmp .eql (.var 11) (.var 79)) (.and (.cmp .eql (.var 12) (.var 80)) (.and (.cmp .eql (.var 13) (.var 81)) (.and (.cmp .eql (.var 14) (.var 82)) (.and (.cmp .eql (.var 15) (.var 83)) (.and (.cmp .eql (.var 16) (.var 84)) (.and (.cmp .eql (.var 17) (.var 85)) (.and (.cmp .eql (.var 18) (.var 86)) (.and (.cmp .eql (.var 19) (.var 87)) (.and (.cmp .eql (.var 20) (.var 88)) (.and (.cmp .eql (.var 21) (.var 89)) (.and (.cmp .eql (.var 22) (.var 90)) (.and (.cmp .eql (.var 23) (.var 91)) (.and (.cmp .eql (.var 24) (.var 92)) (.and (.cmp .eql (.var 25) (.var 93)) (.and (.cmp .eql (.var 26) (.var 94)) (.and (.cmp .eql (.var 27) (.var 95)) (.and (.cmp .eql (.var 28) (.var 96)) (.and (.cmp .eql (.var 29) (.var 97)) (.and (.cmp .eql (.var 30) (.var 98)) (.and (.cmp .eql (.var 31) (.var 99)) (.and (.cmp .eql (.var 32) (.var 100)) (.and (.cmp .eql (.var 33) (.var 101)) (.and (.cmp .eql (.var 34) (.var 102)) (.and (.cmp .eql (.var 35) (.var 103)) (.and (.cmp .eql (.var 36) (.var 104)) (.and (.cmp .eql (.var 37) (.var 105)) (.and (.cmp .eql (.var 38) (.var 106)) (.and (.cmp .eql (.var 39) (.var 107)) (.and (.cmp .eql (.var 40) (.var 108)) (.and (.cmp .eql (.var 41) (.var 109)) (.and (.cmp .eql (.var 42) (.var 110)) (.and (.cmp .eql (.var 43) (.var 111)) (.and (.cmp .eql (.var 44) (.var 112)) (.and (.cmp .eql (.var 45) (.var 113)) (.and (.cmp .eql (.var 46) (.var 114)) (.and (.cmp .eql (.var 47) (.var 115)) (.and (.cmp .eql (.var 48) (.var 116)) (.and (.cmp .eql (.var 49) (.var 117)) (.and (.cmp .eql (.var 50) (.var 118)) (.and (.cmp .eql (.var 51) (.var 119)) (.and (.cmp .eql (.var 52) (.var 120)) (.and (.cmp .eql (.var 53) (.var 121)) (.and (.cmp .eql (.var 54) (.var 122)) (.and (.cmp .eql (.var 55) (.var 123)) (.and (.cmp .eql (.var 56) (.var 124)) (.and (.cmp .eql (.var 57) (.var 125)) (.and (.cmp .eql (.var 58) (.var 126)) (.and (.cmp .eql (.var 59) (.var 127)) (.and (.cmp .eql (.var 60) (.var 128)) (.and (.cmp .eql (.var 61) (.var 129)) (.and (.cmp .eql (.var 62) (.var 130)) (.and (.cmp .eql (.var 63) (.var 131)) (.and (.cmp .eql (.var 64) (.var 132)) (.and (.cmp .eql (.var 65) (.var 133)) (.cmp .eql (.var 66) (.var 134))))))))))))))))))))))))))))))))))))))))))))))))))))))))))))))))))) (.tt true) (.cmp .neq (.var 67) (.var 135))) (.tt true) (.cmp .neq (.len 2) (.len 70)))
  (.done (.bool (.tt false)) [])
  (.loop 0 [(.int .i64 (.lit 0))] [.int .i64] 
   (.ite (.cmp .lss (.var 136) (.len 2))
    (.need (.tt true) [(.cmp .geq (.var 136) (.lit 0)), (.cmp .lss (.var 136) (.len 2))] 
    (.load (.tt true) (.idx (.var 2) (.var 136) 2) [.int .i64, .sl] 
    (.need (.tt true) [(.cmp .geq (.var 136) (.lit 0)), (.cmp .lss (.var 136) (.len 70))] 
    (.load (.tt true) (.idx (.var 70) (.var 136) 2) [.int .i64, .sl] 
    (.both 
     (.still (.tt true) (.idx (.var 70) (.var 136) 2) [(.int .i64 (.var 139)), (.val 140)] 
     (.still (.tt true) (.idx (.var 2) (.var 136) 2) [(.int .i64 (.var 137)), (.val 138)] 
     (.still (.tt true) (.idx (.var 70) (.var 136) 2) [(.int .i64 (.var 139)), (.val 140)] 
     (.still (.tt true) (.idx (.var 2) (.var 136) 2) [(.int .i64 (.var 137)), (.val 138)] 
     (.still (.tt true) (.idx (.var 70) (.var 136) 2) [(.int .i64 (.var 139)), (.val 140)] 
     (.ite (.ite (.cmp .neq (.var 137) (.var 139)) (.tt true) (.cmp .neq (.len 138) (.len 140)))
      (.done (.bool (.tt false)) [])
      (.loop 1 [(.int .i64 (.lit 0))] [.int .i64] 
       (.ite (.cmp .lss (.var 141) (.len 138))
        (.need (.tt true) [(.cmp .geq (.var 141) (.lit 0)), (.cmp .lss (.var 141) (.len 138))] 
        (.load (.tt true) (.idx (.var 138) (.var 141) 1) [.int .i64] 
        (.need (.tt true) [(.cmp .geq (.var 141) (.lit 0)), (.cmp .lss (.var 141) (.len 140))] 
        (.load (.tt true) (.idx (.var 140) (.var 141) 1) [.int .i64] 
        (.ite (.cmp .neq (.var 142) (.var 143))
         (.done (.bool (.tt false)) [])
         (.again 1 [(.int .i64 (.op .add .i64 (.var 141) (.lit 1)))]))))))
        (.again 0 [(.int .i64 (.op .add .i64 (.var 136) (.lit 1)))]))))))))) 
     (.still (.tt true) (.idx (.var 70) (.var 136) 2) [(.int .i64 (.var 139)), (.val 140)] 
     (.still (.tt true) (.idx (.var 2) (.var 136) 2) [(.int .i64 (.var 137)), (.val 138)] 
     (.still (.tt true) (.idx (.var 70) (.var 136) 2) [(.int .i64 (.var 139)), (.val 140)] 
     (.still (.tt true) (.idx (.var 2) (.var 136) 2) [(.int .i64 (.var 137)), (.val 138)] 
     (.still (.tt true) (.idx (.var 70) (.var 136) 2) [(.int .i64 (.var 139)), (.val 140)] 
     (.ite (.ite (.cmp .neq (.var 137) (.var 139)) (.tt true) (.cmp .neq (.len 138) (.len 140)))
      (.done (.bool (.tt false)) [])
      (.loop 1 [(.int .i64 (.lit 0))] [.int .i64] 
       (.ite (.cmp .lss (.var 141) (.len 138))
        (.need (.tt true) [(.cmp .geq (.var 141) (.lit 0)), (.cmp .lss (.var 141) (.len 138))] 
        (.load (.tt true) (.idx (.var 138) (.var 141) 1) [.int .i64] 
        (.need (.tt true) [(.cmp .geq (.var 141) (.lit 0)), (.cmp .lss (.var 141) (.len 140))] 
        (.load (.tt true) (.idx (.var 140) (.var 141) 1) [.int .i64] 
        (.ite (.cmp .neq (.var 142) (.var 143))
         (.done (.bool (.tt false)) [])
         (.again 1 [(.int .i64 (.op .add .i64 (.var 141) (.lit 1)))]))))))
        (.again 0 [(.int .i64 (.op .add .i64 (.var 136) (.lit 1)))]))))))))))))))
    (.done (.bool (.tt true)) []))))
def l19 : List (Nat × List Nat × List (Nat × Nat) × List Nat) := [(4, [5], [], [44, 45, 46, 47, 48, 51, 52, 53, 54, 55, 56, 57, 58, 59, 60, 6, 7, 61, 62, 63, 64, 65, 66, 67, 68, 69, 70, 71, 72, 73, 74, 4, 8, 75, 76, 77, 78, 79, 82, 83, 84, 85, 86, 87, 88, 89, 90, 91, 92, 80, 81, 49, 50]), (10, [8], [], [75, 76, 77, 78, 79, 82, 83, 84, 85, 86, 87, 88, 89, 90, 91, 92, 4, 80, 81])]
theorem e19 : ev Try.prog ⟨allF, [], l19⟩ (bodyOf Try.f19) 0 (initSt [(.agg [(.int .i64 (.var 0)), (.int .i64 (.var 1)), (.val 2), (.int .i64 (.var 3)), (.int .i64 (.var 4)), (.int .i64 (.var 5)), (.int .i64 (.var 6)), (.int .i64 (.var 7)), (.int .i64 (.var 8)), (.int .i64 (.var 9)), (.int .i64 (.var 10)), (.int .i64 (.var 11)), (.int .i64 (.var 12)), (.int .i64 (.var 13)), (.int .i64 (.var 14)), (.int .i64 (.var 15)), (.int .i64 (.var 16)), (.int .i64 (.var 17)), (.int .i64 (.var 18)), (.int .i64 (.var 19)), (.int .i64 (.var 20)), (.int .i64 (.var 21)), (.int .i64 (.var 22)), (.int .i64 (.var 23)), (.int .i64 (.var 24)), (.int .i64 (.var 25)), (.int .i64 (.var 26)), (.int .i64 (.var 27)), (.int .i64 (.var 28)), (.int .i64 (.var 29)), (.int .i64 (.var 30)), (.int .i64 (.var 31)), (.int .i64 (.var 32)), (.int .i64 (.var 33)), (.int .i64 (.var 34)), (.int .i64 (.var 35)), (.int .i64 (.var 36)), (.int .i64 (.var 37)), (.int .i64 (.var 38)), (.int .i64 (.var 39)), (.int .i64 (.var 40)), (.int .i64 (.var 41)), (.int .i64 (.var 42)), (.int .i64 (.var 43)), (.int .i64 (.var 44)), (.int .i64 (.var 45)), (.int .i64 (.var 46)), (.int .i64 (.var 47)), (.int .i64 (.var 48)), (.int .i64 (.var 49)), (.int .i64 (.var 50)), (.int .i64 (.var 51)), (.int .i64 (.var 52)), (.int .i64 (.var 53)), (.int .i64 (.var 54)), (.int .i64 (.var 55)), (.int .i64 (.var 56)), (.int .i64 (.var 57)), (.int .i64 (.var 58)), (.int .i64 (.var 59)), (.int .i64 (.var 60)), (.int .i64 (.var 61)), (.int .i64 (.var 62)), (.int .i64 (.var 63)), (.int .i64 (.var 64)), (.int .i64 (.var 65)), (.int .i64 (.var 66)), (.int .i64 (.var 67))]), (.agg [(.int .i64 (.var 68)), (.int .i64 (.var 69)), (.val 70), (.int .i64 (.var 71)), (.int .i64 (.var 72)), (.int .i64 (.var 73)), (.int .i64 (.var 74)), (.int .i64 (.var 75)), (.int .i64 (.var 76)), (.int .i64 (.var 77)), (.int .i64 (.var 78)), (.int .i64 (.var 79)), (.int .i64 (.var 80)), (.int .i64 (.var 81)), (.int .i64 (.var 82)), (.int .i64 (.var 83)), (.int .i64 (.var 84)), (.int .i64 (.var 85)), (.int .i64 (.var 86)), (.int .i64 (.var 87)), (.int .i64 (.var 88)), (.int .i64 (.var 89)), (.int .i64 (.var 90)), (.int .i64 (.var 91)), (.int .i64 (.var 92)), (.int .i64 (.var 93)), (.int .i64 (.var 94)), (.int .i64 (.var 95)), (.int .i64 (.var 96)), (.int .i64 (.var 97)), (.int .i64 (.var 98)), (.int .i64 (.var 99)), (.int .i64 (.var 100)), (.int .i64 (.var 101)), (.int .i64 (.var 102)), (.int .i64 (.var 103)), (.int .i64 (.var 104)), (.int .i64 (.var 105)), (.int .i64 (.var 106)), (.int .i64 (.var 107)), (.int .i64 (.var 108)), (.int .i64 (.var 109)), (.int .i64 (.var 110)), (.int .i64 (.var 111)), (.int .i64 (.var 112)), (.int .i64 (.var 113)), (.int .i64 (.var 114)), (.int .i64 (.var 115)), (.int .i64 (.var 116)), (.int .i64 (.var 117)), (.int .i64 (.var 118)), (.int .i64 (.var 119)), (.int .i64 (.var 120)), (.int .i64 (.var 121)), (.int .i64 (.var 122)), (.int .i64 (.var 123)), (.int .i64 (.var 124)), (.int .i64 (.var 125)), (.int .i64 (.var 126)), (.int .i64 (.var 127)), (.int .i64 (.var 128)), (.int .i64 (.var 129)), (.int .i64 (.var 130)), (.int .i64 (.var 131)), (.int .i64 (.var 132)), (.int .i64 (.var 133)), (.int .i64 (.var 134)), (.int .i64 (.var 135))])] [] Try.f19.ntmps [.int .i64, .int .i64, .sl, .int .i64, .int .i64, .int .i64, .int .i64, .int .i64, .int .i64, .int .i64, .int .i64, .int .i64, .int .i64, .int .i64, .int .i64, .int .i64, .int .i64, .int .i64, .int .i64, .int .i64, .int .i64, .int .i64, .int .i64, .int .i64, .int .i64, .int .i64, .int .i64, .int .i64, .int .i64, .int .i64, .int .i64, .int .i64, .int .i64, .int .i64, .int .i64, .int .i64, .int .i64, .int .i64, .int .i64, .int .i64, .int .i64, .int .i64, .int .i64, .int .i64, .int .i64, .int .i64, .int .i64, .int .i64, .int .i64, .int .i64, .int .i64, .int .i64, .int .i64, .int .i64, .int .i64, .int .i64, .int .i64, .int .i64, .int .i64, .int .i64, .int .i64, .int .i64, .int .i64, .int .i64, .int .i64, .int .i64, .int .i64, .int .i64, .int .i64, .int .i64, .sl, .int .i64, .int .i64, .int .i64, .int .i64, .int .i64, .int .i64, .int .i64, .int .i64, .int .i64, .int .i64, .int .i64, .int .i64, .int .i64, .int .i64, .int .i64, .int .i64, .int .i64, .int .i64, .int .i64, .int .i64, .int .i64, .int .i64, .int .i64, .int .i64, .int .i64, .int .i64, .int .i64, .int .i64, .int .i64, .int .i64, .int .i64, .int .i64, .int .i64, .int .i64, .int .i64, .int .i64, .int .i64, .int .i64, .int .i64, .int .i64, .int .i64, .int .i64, .int .i64, .int .i64, .int .i64, .int .i64, .int .i64, .int .i64, .int .i64, .int .i64, .int .i64, .int .i64, .int .i64, .int .i64, .int .i64, .int .i64, .int .i64, .int .i64, .int .i64, .int .i64, .int .i64, .int .i64, .int .i64, .int .i64, .int .i64]) (finK Try.prog Try.f19.results []) = t19 := by kernel_rfl
theorem c19 {G : List Value} {h : H} {R : Value → List (List Value) → H → Prop} (hG : FitsL [.int .i64, .int .i64, .sl, .int .i64, .int .i64, .int .i64, .int .i64, .int .i64, .int .i64, .int .i64, .int .i64, .int .i64, .int .i64, .int .i64, .int .i64, .int .i64, .int .i64, .int .i64, .int .i64, .int .i64, .int .i64, .int .i64, .int .i64, .int .i64, .int .i64, .int .i64, .int .i64, .int .i64, .int .i64, .int .i64, .int .i64, .int .i64, .int .i64, .int .i64, .int .i64, .int .i64, .int .i64, .int .i64, .int .i64, .int .i64, .int .i64, .int .i64, .int .i64, .int .i64, .int .i64, .int .i64, .int .i64, .int .i64, .int .i64, .int .i64, .int .i64, .int .i64, .int .i64, .int .i64, .int .i64, .int .i64, .int .i64, .int .i64, .int .i64, .int .i64, .int .i64, .int .i64, .int .i64, .int .i64, .int .i64, .int .i64, .int .i64, .int .i64, .int .i64, .int .i64, .sl, .int .i64, .int .i64, .int .i64, .int .i64, .int .i64, .int .i64, .int .i64, .int .i64, .int .i64, .int .i64, .int .i64, .int .i64, .int .i64, .int .i64, .int .i64, .int .i64, .int .i64, .int .i64, .int .i64, .int .i64, .int .i64, .int .i64, .int .i64, .int .i64, .int .i64, .int .i64, .int .i64, .int .i64, .int .i64, .int .i64, .int .i64, .int .i64, .int .i64, .int .i64, .int .i64, .int .i64, .int .i64, .int .i64, .int .i64, .int .i64, .int .i64, .int .i64, .int .i64, .int .i64, .int .i64, .int .i64, .int .i64, .int .i64, .int .i64, .int .i64, .int .i64, .int .i64, .int .i64, .int .i64, .int .i64, .int .i64, .int .i64, .int .i64, .int .i64, .int .i64, .int .i64, .int .i64, .int .i64, .int .i64, .int .i64] G) (H : holds Try.prog R t19 G [] h) : CallsA Try.prog 19 (fun e => SV.denL G (fun k => e (k - 1000000)) [(.agg [(.int .i64 (.var 0)), (.int .i64 (.var 1)), (.val 2), (.int .i64 (.var 3)), (.int .i64 (.var 4)), (.int .i64 (.var 5)), (.int .i64 (.var 6)), (.int .i64 (.var 7)), (.int .i64 (.var 8)), (.int .i64 (.var 9)), (.int .i64 (.var 10)), (.int .i64 (.var 11)), (.int .i64 (.var 12)), (.int .i64 (.var 13)), (.int .i64 (.var 14)), (.int .i64 (.var 15)), (.int .i64 (.var 16)), (.int .i64 (.var 17)), (.int .i64 (.var 18)), (.int .i64 (.var 19)), (.int .i64 (.var 20)), (.int .i64 (.var 21)), (.int .i64 (.var 22)), (.int .i64 (.var 23)), (.int .i64 (.var 24)), (.int .i64 (.var 25)), (.int .i64 (.var 26)), (.int .i64 (.var 27)), (.int .i64 (.var 28)), (.int .i64 (.var 29)), (.int .i64 (.var 30)), (.int .i64 (.var 31)), (.int .i64 (.var 32)), (.int .i64 (.var 33)), (.int .i64 (.var 34)), (.int .i64 (.var 35)), (.int .i64 (.var 36)), (.int .i64 (.var 37)), (.int .i64 (.var 38)), (.int .i64 (.var 39)), (.int .i64 (.var 40)), (.int .i64 (.var 41)), (.int .i64 (.var 42)), (.int .i64 (.var 43)), (.int .i64 (.var 44)), (.int .i64 (.var 45)), (.int .i64 (.var 46)), (.int .i64 (.var 47)), (.int .i64 (.var 48)), (.int .i64 (.var 49)), (.int .i64 (.var 50)), (.int .i64 (.var 51)), (.int .i64 (.var 52)), (.int .i64 (.var 53)), (.int .i64 (.var 54)), (.int .i64 (.var 55)), (.int .i64 (.var 56)), (.int .i64 (.var 57)), (.int .i64 (.var 58)), (.int .i64 (.var 59)), (.int .i64 (.var 60)), (.int .i64 (.var 61)), (.int .i64 (.var 62)), (.int .i64 (.var 63)), (.int .i64 (.var 64)), (.int .i64 (.var 65)), (.int .i64 (.var 66)), (.int .i64 (.var 67))]), (.agg [(.int .i64 (.var 68)), (.int .i64 (.var 69)), (.val 70), (.int .i64 (.var 71)), (.int .i64 (.var 72)), (.int .i64 (.var 73)), (.int .i64 (.var 74)), (.int .i64 (.var 75)), (.int .i64 (.var 76)), (.int .i64 (.var 77)), (.int .i64 (.var 78)), (.int .i64 (.var 79)), (.int .i64 (.var 80)), (.int .i64 (.var 81)), (.int .i64 (.var 82)), (.int .i64 (.var 83)), (.int .i64 (.var 84)), (.int .i64 (.var 85)), (.int .i64 (.var 86)), (.int .i64 (.var 87)), (.int .i64 (.var 88)), (.int .i64 (.var 89)), (.int .i64 (.var 90)), (.int .i64 (.var 91)), (.int .i64 (.var 92)), (.int .i64 (.var 93)), (.int .i64 (.var 94)), (.int .i64 (.var 95)), (.int .i64 (.var 96)), (.int .i64 (.var 97)), (.int .i64 (.var 98)), (.int .i64 (.var 99)), (.int .i64 (.var 100)), (.int .i64 (.var 101)), (.int .i64 (.var 102)), (.int .i64 (.var 103)), (.int .i64 (.var 104)), (.int .i64 (.var 105)), (.int .i64 (.var 106)), (.int .i64 (.var 107)), (.int .i64 (.var 108)), (.int .i64 (.var 109)), (.int .i64 (.var 110)), (.int .i64 (.var 111)), (.int .i64 (.var 112)), (.int .i64 (.var 113)), (.int .i64 (.var 114)), (.int .i64 (.var 115)), (.int .i64 (.var 116)), (.int .i64 (.var 117)), (.int .i64 (.var 118)), (.int .i64 (.var 119)), (.int .i64 (.var 120)), (.int .i64 (.var 121)), (.int .i64 (.var 122)), (.int .i64 (.var 123)), (.int .i64 (.var 124)), (.int .i64 (.var 125)), (.int .i64 (.var 126)), (.int .i64 (.var 127)), (.int .i64 (.var 128)), (.int .i64 (.var 129)), (.int .i64 (.var 130)), (.int .i64 (.var 131)), (.int .i64 (.var 132)), (.int .i64 (.var 133)), (.int .i64 (.var 134)), (.int .i64 (.var 135))])]) ([].map (SV.denL G dE)) h R :=
  CallsA.of_ev (cf := ⟨allF, [], l19⟩) (fn := Try.f19) (c := bodyOf Try.f19) (pcs := []) Try.func19 (by rfl) callOK (by rfl) hG (by rfl) (by rw [show ([] : List (List SV)).map List.length = [] from rfl, e19]; exact H)
/-- What is left of outworker/outworkerref04.Play. -/
def t20 : Out :=
 (.mk 2 1 8 (.op .add .i64 (.var 1) (.var 2)) 
 (.loop 0 [(.int .i64 (.lit 0))] [.int .i64] 
  (.ite (.cmp .lss (.var 9) (.len 4))
   (.need (.tt true) [(.cmp .geq (.var 9) (.lit 0)), (.cmp .lss (.var 9) (.len 4))] 
   (.load (.tt true) (.idx (.var 4) (.var 9) 1) [.int .i64] 
   (.need (.tt true) [(.cmp .geq (.op .add .i64 (.var 3) (.var 9)) (.lit 0)), (.cmp .lss (.op .add .i64 (.var 3) (.var 9)) (.len 8))] 
   (.store (.idx (.var 8) (.op .add .i64 (.var 3) (.var 9)) 1) [(.int .i64 (.var 10))] 
   (.again 0 [(.int .i64 (.op .add .i64 (.var 9) (.lit 1)))])))))
   (.alloc 37 [(.int .i64 (.lit 0)), (.int .i64 (.lit 0)), (.cst (.slice none 0 0)), (.int .i64 (.lit 0)), (.int .i64 (.lit 0)), (.int .i64 (.lit 0)), (.int .i64 (.lit 0)), (.int .i64 (.lit 0)), (.int .i64 (.lit 0)), (.int .i64 (.lit 0)), (.int .i64 (.lit 0)), (.int .i64 (.lit 0)), (.int .i64 (.lit 0)), (.int .i64 (.lit 0)), (.int .i64 (.lit 0)), (.int .i64 (.lit 0)), (.int .i64 (.lit 0)), (.int .i64 (.lit 0)), (.int .i64 (.lit 0)), (.int .i64 (.lit 0)), (.int .i64 (.lit 0)), (.int .i64 (.lit 0)), (.int .i64 (.lit 0)), (.int .i64 (.lit 0)), (.int .i64 (.lit 0)), (.int .i64 (.lit 0)), (.int .i64 (.lit 0)), (.int .i64 (.lit 0)), (.int .i64 (.lit 0)), (.int .i64 (.lit 0)), (.int .i64 (.lit 0)), (.int .i64 (.lit 0)), (.int .i64 (.lit 0)), (.int .i64 (.lit 0)), (.int .i64 (.lit 0)), (.int .i64 (.lit 0)), (.int .i64 (.lit 0)), (.int .i64 (.lit 0)), (.int .i64 (.lit 0)), (.int .i64 (.lit 0)), (.int .i64 (.lit 0)), (.int .i64 (.lit 0)), (.int .i64 (.lit 0)), (.int .i64 (.lit 0)), (.int .i64 (.lit 0)), (.int .i64 (.lit 0)), (.int .i64 (.lit 0)), (.int .i64 (.lit 0)), (.int .i64 (.lit 0)), (.int .i64 (.lit 0)), (.int .i64 (.lit 0)), (.int .i64 (.lit 0)), (.int .i64 (.lit 0)), (.int .i64 (.lit 0)), (.int .i64 (.lit 0)), (.int .i64 (.lit 0)), (.int .i64 (.lit 0)), (.int .i64 (.lit 0)), (.int .i64 (.lit 0)), (.int .i64 (.lit 0)), (.int .i64 (.lit 0)), (.int .i64 (.lit 0)), (.int .i64 (.lit 0)), (.int .i64 (.lit 0)), (.int .i64 (.lit 0)), (.int .i64 (.lit 0)), (.int .i64 (.lit 0)), (.int .i64 (.lit 0))] .loc 
   (.store (.var 10) [(.int .i64 (.lit 0)), (.int .i64 (.lit 0)), (.cst (.slice none 0 0)), (.int .i64 (.lit 0)), (.int .i64 (.lit 0)), (.int .i64 (.lit 0)), (.int .i64 (.lit 0)), (.int .i64 (.lit 0)), (.int .i64 (.lit 0)), (.int .i64 (.lit 0)), (.int .i64 (.lit 0)), (.int .i64 (.lit 0)), (.int .i64 (.lit 0)), (.int .i64 (.lit 0)), (.int .i64 (.lit 0)), (.int .i64 (.lit 0)), (.int .i64 (.lit 0)), (.int .i64 (.lit 0)), (.int .i64 (.lit 0)), (.int .i64 (.lit 0)), (.int .i64 (.lit 0)), (.int .i64 (.lit 0)), (.int .i64 (.lit 0)), (.int .i64 (.lit 0)), (.int .i64 (.lit 0)), (.int .i64 (.lit 0)), (.int .i64 (.lit 0)), (.int .i64 (.lit 0)), (.int .i64 (.lit 0)), (.int .i64 (.lit 0)), (.int .i64 (.lit 0)), (.int .i64 (.lit 0)), (.int .i64 (.lit 0)), (.int .i64 (.lit 0)), (.int .i64 (.lit 0)), (.int .i64 (.lit 0)), (.int .i64 (.lit 0)), (.int .i64 (.lit 0)), (.int .i64 (.lit 0)), (.int .i64 (.lit 0)), (.int .i64 (.lit 0)), (.int .i64 (.lit 0)), (.int .i64 (.lit 0)), (.int .i64 (.lit 0)), (.int .i64 (.lit 0)), (.int .i64 (.lit 0)), (.int .i64 (.lit 0)), (.int .i64 (.lit 0)), (.int .i64 (.lit 0)), (.int .i64 (.lit 0)), (.int .i64 (.lit 0)), (.int .i64 (.lit 0)), (.int .i64 (.lit 0)), (.int .i64 (.lit 0)), (.int .i64 (.lit 0)), (.int .i64 (.lit 0)), (.int .i64 (.lit 0)), (.int .i64 (.lit 0)), (.int .i64 (.lit 0)), (.int .i64 (.lit 0)), (.int .i64 (.lit 0)), (.int .i64 (.lit 0)), (.int .i64 (.lit 0)), (.int .i64 (.lit 0)), (.int .i64 (.lit 0)), (.int .i64 (.lit 0)), (.int .i64 (.lit 0)), (.int .i64 (.var 7))] 
   (.loop 0 [(.int .i64 (.lit 0))] [.int .i64] 
    (.ite (.ite (.cmp .lss (.var 11) (.len 5)) (.cmp .lss (.var 11) (.lit 64)) (.tt false))
     (.need (.tt true) [(.cmp .geq (.var 11) (.lit 0)), (.cmp .lss (.var 11) (.len 5))] 
     (.load (.tt true) (.idx (.var 5) (.var 11) 1) [.int .i64] 
     (.need (.tt true) [(.cmp .geq (.var 11) (.lit 0)), (.cmp .lss (.var 11) (.lit 64))] 
     (.store (.idx (.fld (.var 10) 3) (.var 11) 1) [(.int .i64 (.var 12))] 
     (.again 0 [(.int .i64 (.op .add .i64 (.var 11) (.lit 1)))])))))
     (.loop 0 [(.int .i64 (.lit 0)), (.int .i64 (.lit 0)), (.int .i64 (.lit 0))] [.int .i64, .int .i64, .int .i64] 
      (.need (.tt true) [(.cmp .geq (.var 14) (.lit 0)), (.cmp .lss (.var 14) (.len 0))] 
      (.load (.tt true) (.fld (.idx (.var 0) (.var 14) 5) 0) [.sl] 
      (.ite (.cmp .lss (.var 12) (.len 15))
       (.need (.tt true) [(.cmp .geq (.var 14) (.lit 0)), (.cmp .lss (.var 14) (.len 0))] 
       (.load (.tt true) (.fld (.idx (.var 0) (.var 14) 5) 0) [.sl] 
       (.need (.tt true) [(.cmp .geq (.var 12) (.lit 0)), (.cmp .lss (.var 12) (.len 16))] 
       (.load (.tt true) (.idx (.var 16) (.var 12) 7) [.int .u8, .int .u8, .int .i64, .int .i64, .int .i64, .int .i64, .sl] 
       (.ite (.cmp .eql (.var 17) (.lit 2))
        (.need (.tt true) [(.cmp .geq (.var 20) (.lit 0)), (.cmp .lss (.var 20) (.len 8))] 
        (.load (.tt true) (.idx (.var 8) (.var 20) 1) [.int .i64] 
        (.need (.tt true) [(.cmp .geq (.var 19) (.lit 0)), (.cmp .lss (.var 19) (.len 8))] 
        (.store (.idx (.var 8) (.var 19) 1) [(.int .i64 (.var 24))] 
        (.again 0 [(.int .i64 (.op .add .i64 (.var 12) (.lit 1))), (.int .i64 (.var 13)), (.int .i64 (.var 14))])))))
        (.ite (.cmp .eql (.var 17) (.lit 7))
         (.need (.tt true) [(.cmp .geq (.var 20) (.lit 0)), (.cmp .lss (.var 20) (.len 8))] 
         (.load (.tt true) (.idx (.var 8) (.var 20) 1) [.int .i64] 
         (.need (.tt true) [(.cmp .geq (.op .add .i64 (.var 1) (.var 19)) (.lit 0)), (.cmp .lss (.op .add .i64 (.var 1) (.var 19)) (.len 8))] 
         (.store (.idx (.var 8) (.op .add .i64 (.var 1) (.var 19)) 1) [(.int .i64 (.var 24))] 
         (.again 0 [(.int .i64 (.op .add .i64 (.var 12) (.lit 1))), (.int .i64 (.var 13)), (.int .i64 (.var 14))])))))
         (.ite (.cmp .eql (.var 17) (.lit 8))
          (.need (.tt true) [(.cmp .geq (.op .add .i64 (.var 1) (.var 20)) (.lit 0)), (.cmp .lss (.op .add .i64 (.var 1) (.var 20)) (.len 8))] 
          (.load (.tt true) (.idx (.var 8) (.op .add .i64 (.var 1) (.var 20)) 1) [.int .i64] 
          (.need (.tt true) [(.cmp .geq (.var 19) (.lit 0)), (.cmp .lss (.var 19) (.len 8))] 
          (.store (.idx (.var 8) (.var 19) 1) [(.int .i64 (.var 24))] 
          (.again 0 [(.int .i64 (.op .add .i64 (.var 12) (.lit 1))), (.int .i64 (.var 13)), (.int .i64 (.var 14))])))))
          (.load (.tt true) (.fld (.var 10) 67) [.int .i64] 
          (.ite (.cmp .eql (.var 24) (.lit 0))
           (.store (.fld (.var 10) 0) [(.int .i64 (.lit 3))] 
           (.load (.tt true) (.var 10) [.int .i64, .int .i64, .sl, .int .i64, .int .i64, .int .i64, .int .i64, .int .i64, .int .i64, .int .i64, .int .i64, .int .i64, .int .i64, .int .i64, .int .i64, .int .i64, .int .i64, .int .i64, .int .i64, .int .i64, .int .i64, .int .i64, .int .i64, .int .i64, .int .i64, .int .i64, .int .i64, .int .i64, .int .i64, .int .i64, .int .i64, .int .i64, .int .i64, .int .i64, .int .i64, .int .i64, .int .i64, .int .i64, .int .i64, .int .i64, .int .i64, .int .i64, .int .i64, .int .i64, .int .i64, .int .i64, .int .i64, .int .i64, .int .i64, .int .i64, .int .i64, .int .i64, .int .i64, .int .i64, .int .i64, .int .i64, .int .i64, .int .i64, .int .i64, .int .i64, .int .i64, .int .i64, .int .i64, .int .i64, .int .i64, .int .i64, .int .i64, .int .i64] 
           (.done (.agg [(.int .i64 (.var 25)), (.int .i64 (.var 26)), (.val 27), (.int .i64 (.var 28)), (.int .i64 (.var 29)), (.int .i64 (.var 30)), (.int .i64 (.var 31)), (.int .i64 (.var 32)), (.int .i64 (.var 33)), (.int .i64 (.var 34)), (.int .i64 (.var 35)), (.int .i64 (.var 36)), (.int .i64 (.var 37)), (.int .i64 (.var 38)), (.int .i64 (.var 39)), (.int .i64 (.var 40)), (.int .i64 (.var 41)), (.int .i64 (.var 42)), (.int .i64 (.var 43)), (.int .i64 (.var 44)), (.int .i64 (.var 45)), (.int .i64 (.var 46)), (.int .i64 (.var 47)), (.int .i64 (.var 48)), (.int .i64 (.var 49)), (.int .i64 (.var 50)), (.int .i64 (.var 51)), (.int .i64 (.var 52)), (.int .i64 (.var 53)), (.int .i64 (.var 54)), (.int .i64 (.var 55)), (.int .i64 (.var 56)), (.int .i64 (.var 57)), (.int .i64 (.var 58)), (.int .i64 (.var 59)), (.int .i64 (.var 60)), (.int .i64 (.var 61)), (.int .i64 (.var 62)), (.int .i64 (.var 63)), (.int .i64 (.var 64)), (.int .i64 (.var 65)), (.int .i64 (.var 66)), (.int .i64 (.var 67)), (.int .i64 (.var 68)), (.int .i64 (.var 69)), (.int .i64 (.var 70)), (.int .i64 (.var 71)), (.int .i64 (.var 72)), (.int .i64 (.var 73)), (.int .i64 (.var 74)), (.int .i64 (.var 75)), (.int .i64 (.var 76)), (.int .i64 (.var 77)), (.int .i64 (.var 78)), (.int .i64 (.var 79)), (.int .i64 (.var 80)), (.int .i64 (.var 81)), (.int .i64 (.var 82)), (.int .i64 (.var 83)), (.int .i64 (.var 84)), (.int .i64 (.var 85)), (.int .i64 (.var 86)), (.int .i64 (.var 87)), (.int .i64 (.var 88)), (.int .i64 (.var 89)), (.int .i64 (.var 90)), (.int .i64 (.var 91)), (.int .i64 (.var 92))]) [])))
           (.load (.tt true) (.fld (.var 10) 67) [.int .i64] 
           (.store (.fld (.var 10) 67) [(.int .i64 (.op .sub .i64 (.var 25) (.lit 1)))] 
           (.ite (.cmp .eql (.var 17) (.lit 1))
            (.need (.tt true) [(.cmp .geq (.var 19) (.lit 0)), (.cmp .lss (.var 19) (.len 8))] 
            (.store (.idx (.var 8) (.var 19) 1) [(.int .i64 (.var 22))] 
            (.again 0 [(.int .i64 (.op .add .i64 (.var 12) (.lit 1))), (.int .i64 (.var 13)), (.int .i64 (.var 14))])))
            (.ite (.cmp .eql (.var 17) (.lit 3))
             (.need (.tt true) [(.cmp .geq (.var 20) (.lit 0)), (.cmp .lss (.var 20) (.len 8))] 
             (.load (.tt true) (.idx (.var 8) (.var 20) 1) [.int .i64] 
             (.need (.tt true) [(.cmp .geq (.var 21) (.lit 0)), (.cmp .lss (.var 21) (.len 8))] 
             (.load (.tt true) (.idx (.var 8) (.var 21) 1) [.int .i64] 
             (.still (.tt true) (.idx (.var 8) (.var 21) 1) [(.int .i64 (.var 27))] 
             (.ite (.ite (.cmp .eql (.var 18) (.lit 7)) (.cmp .eql (.var 27) (.lit 0)) (.tt false))
              (.store (.fld (.var 10) 0) [(.int .i64 (.lit 2))] 
              (.load (.tt true) (.var 10) [.int .i64, .int .i64, .sl, .int .i64, .int .i64, .int .i64, .int .i64, .int .i64, .int .i64, .int .i64, .int .i64, .int .i64, .int .i64, .int .i64, .int .i64, .int .i64, .int .i64, .int .i64, .int .i64, .int .i64, .int .i64, .int .i64, .int .i64, .int .i64, .int .i64, .int .i64, .int .i64, .int .i64, .int .i64, .int .i64, .int .i64, .int .i64, .int .i64, .int .i64, .int .i64, .int .i64, .int .i64, .int .i64, .int .i64, .int .i64, .int .i64, .int .i64, .int .i64, .int .i64, .int .i64, .int .i64, .int .i64, .int .i64, .int .i64, .int .i64, .int .i64, .int .i64, .int .i64, .int .i64, .int .i64, .int .i64, .int .i64, .int .i64, .int .i64, .int .i64, .int .i64, .int .i64, .int .i64, .int .i64, .int .i64, .int .i64, .int .i64, .int .i64] 
              (.done (.agg [(.int .i64 (.var 28)), (.int .i64 (.var 29)), (.val 30), (.int .i64 (.var 31)), (.int .i64 (.var 32)), (.int .i64 (.var 33)), (.int .i64 (.var 34)), (.int .i64 (.var 35)), (.int .i64 (.var 36)), (.int .i64 (.var 37)), (.int .i64 (.var 38)), (.int .i64 (.var 39)), (.int .i64 (.var 40)), (.int .i64 (.var 41)), (.int .i64 (.var 42)), (.int .i64 (.var 43)), (.int .i64 (.var 44)), (.int .i64 (.var 45)), (.int .i64 (.var 46)), (.int .i64 (.var 47)), (.int .i64 (.var 48)), (.int .i64 (.var 49)), (.int .i64 (.var 50)), (.int .i64 (.var 51)), (.int .i64 (.var 52)), (.int .i64 (.var 53)), (.int .i64 (.var 54)), (.int .i64 (.var 55)), (.int .i64 (.var 56)), (.int .i64 (.var 57)), (.int .i64 (.var 58)), (.int .i64 (.var 59)), (.int .i64 (.var 60)), (.int .i64 (.var 61)), (.int .i64 (.var 62)), (.int .i64 (.var 63)), (.int .i64 (.var 64)), (.int .i64 (.var 65)), (.int .i64 (.var 66)), (.int .i64 (.var 67)), (.int .i64 (.var 68)), (.int .i64 (.var 69)), (.int .i64 (.var 70)), (.int .i64 (.var 71)), (.int .i64 (.var 72)), (.int .i64 (.var 73)), (.int .i64 (.var 74)), (.int .i64 (.var 75)), (.int .i64 (.var 76)), (.int .i64 (.var 77)), (.int .i64 (.var 78)), (.int .i64 (.var 79)), (.int .i64 (.var 80)), (.int .i64 (.var 81)), (.int .i64 (.var 82)), (.int .i64 (.var 83)), (.int .i64 (.var 84)), (.int .i64 (.var 85)), (.int .i64 (.var 86)), (.int .i64 (.var 87)), (.int .i64 (.var 88)), (.int .i64 (.var 89)), (.int .i64 (.var 90)), (.int .i64 (.var 91)), (.int .i64 (.var 92)), (.int .i64 (.var 93)), (.int .i64 (.var 94)), (.int .i64 (.var 95))]) [])))
              (.call 36 [(.int .u8 (.var 18)), (.int .i64 (.var 26)), (.int .i64 (.var 27))] [] [] [] [(false, [.int .i64])] 
              (.need (.tt true) [(.cmp .geq (.var 19) (.lit 0)), (.cmp .lss (.var 19) (.len 8))] 
              (.store (.idx (.var 8) (.var 19) 1) [(.int .i64 (.var 28))] 
              (.again 0 [(.int .i64 (.op .add .i64 (.var 12) (.lit 1))), (.int .i64 (.var 13)), (.int .i64 (.var 14))]))))))))))
             (.ite (.cmp .eql (.var 17) (.lit 4))
              (.need (.tt true) [(.cmp .geq (.var 20) (.lit 0)), (.cmp .lss (.var 20) (.len 8))] 
              (.load (.tt true) (.idx (.var 8) (.var 20) 1) [.int .i64] 
              (.need (.tt true) [(.cmp .geq (.op .rem .u64 (.conv .u64 (.var 26)) (.lit 64)) (.lit 0)), (.cmp .lss (.op .rem .u64 (.conv .u64 (.var 26)) (.lit 64)) (.lit 64))] 
              (.load (.tt true) (.idx (.fld (.var 10) 3) (.op .rem .u64 (.conv .u64 (.var 26)) (.lit 64)) 1) [.int .i64] 
              (.need (.tt true) [(.cmp .geq (.var 19) (.lit 0)), (.cmp .lss (.var 19) (.len 8))] 
              (.store (.idx (.var 8) (.var 19) 1) [(.int .i64 (.var 27))] 
              (.again 0 [(.int .i64 (.op .add .i64 (.var 12) (.lit 1))), (.int .i64 (.var 13)), (.int .i64 (.var 14))])))))))
              (.ite (.cmp .eql (.var 17) (.lit 5))
               (.need (.tt true) [(.cmp .geq (.var 20) (.lit 0)), (.cmp .lss (.var 20) (.len 8))] 
               (.load (.tt true) (.idx (.var 8) (.var 20) 1) [.int .i64] 
               (.need (.tt true) [(.cmp .geq (.var 21) (.lit 0)), (.cmp .lss (.var 21) (.len 8))] 
               (.load (.tt true) (.idx (.var 8) (.var 21) 1) [.int .i64] 
               (.need (.tt true) [(.cmp .geq (.op .rem .u64 (.conv .u64 (.var 26)) (.lit 64)) (.lit 0)), (.cmp .lss (.op .rem .u64 (.conv .u64 (.var 26)) (.lit 64)) (.lit 64))] 
               (.store (.idx (.fld (.var 10) 3) (.op .rem .u64 (.conv .u64 (.var 26)) (.lit 64)) 1) [(.int .i64 (.var 27))] 
               (.again 0 [(.int .i64 (.op .add .i64 (.var 12) (.lit 1))), (.int .i64 (.var 13)), (.int .i64 (.var 14))])))))))
               (.ite (.cmp .eql (.var 17) (.lit 6))
                (.loop 1 [(.int .i64 (.lit 0)), (.cst (.slice none 0 0))] [.int .i64, .sl] 
                 (.ite (.cmp .lss (.var 26) (.len 23))
                  (.need (.tt true) [(.cmp .geq (.var 26) (.lit 0)), (.cmp .lss (.var 26) (.len 23))] 
                  (.load (.tt true) (.idx (.var 23) (.var 26) 1) [.int .i64] 
                  (.need (.tt true) [(.cmp .geq (.var 28) (.lit 0)), (.cmp .lss (.var 28) (.len 8))] 
                  (.load (.tt true) (.idx (.var 8) (.var 28) 1) [.int .i64] 
                  (.still (.tt true) (.idx (.var 23) (.var 26) 1) [(.int .i64 (.var 28))] 
                  (.app 2 1 8 (.val 27) (.cells [(.int .i64 (.var 29))] 1) 
                  (.still (.tt true) (.idx (.var 23) (.var 26) 1) [(.int .i64 (.var 28))] 
                  (.again 1 [(.int .i64 (.op .add .i64 (.var 26) (.lit 1))), (.val 30)]))))))))
                  (.load (.tt true) (.fld (.var 10) 2) [.sl] 
                  (.app 58 2 32 (.val 28) (.cells [(.int .i64 (.var 22)), (.val 27)] 1) 
                  (.store (.fld (.var 10) 2) [(.val 29)] 
                  (.need (.tt true) [(.cmp .geq (.var 19) (.lit 0)), (.cmp .lss (.var 19) (.len 8))] 
                  (.store (.idx (.var 8) (.var 19) 1) [(.int .i64 (.lit 0))] 
                  (.ite (.cmp .lss (.var 13) (.len 6))
                   (.need (.tt true) [(.cmp .geq (.var 13) (.lit 0)), (.cmp .lss (.var 13) (.len 6))] 
                   (.load (.tt true) (.idx (.var 6) (.var 13) 1) [.int .i64] 
                   (.need (.tt true) [(.cmp .geq (.var 19) (.lit 0)), (.cmp .lss (.var 19) (.len 8))] 
                   (.store (.idx (.var 8) (.var 19) 1) [(.int .i64 (.var 30))] 
                   (.again 0 [(.int .i64 (.op .add .i64 (.var 12) (.lit 1))), (.int .i64 (.op .add .i64 (.var 13) (.lit 1))), (.int .i64 (.var 14))])))))
                   (.again 0 [(.int .i64 (.op .add .i64 (.var 12) (.lit 1))), (.int .i64 (.op .add .i64 (.var 13) (.lit 1))), (.int .i64 (.var 14))])))))))))
                (.again 0 [(.int .i64 (.op .add .i64 (.var 12) (.lit 1))), (.int .i64 (.var 13)), (.int .i64 (.var 14))])))))))))))))))))
       (.load (.tt true) (.fld (.var 10) 67) [.int .i64] 
       (.ite (.cmp .eql (.var 16) (.lit 0))
        (.store (.fld (.var 10) 0) [(.int .i64 (.lit 3))] 
        (.load (.tt true) (.var 10) [.int .i64, .int .i64, .sl, .int .i64, .int .i64, .int .i64, .int .i64, .int .i64, .int .i64, .int .i64, .int .i64, .int .i64, .int .i64, .int .i64, .int .i64, .int .i64, .int .i64, .int .i64, .int .i64, .int .i64, .int .i64, .int .i64, .int .i64, .int .i64, .int .i64, .int .i64, .int .i64, .int .i64, .int .i64, .int .i64, .int .i64, .int .i64, .int .i64, .int .i64, .int .i64, .int .i64, .int .i64, .int .i64, .int .i64, .int .i64, .int .i64, .int .i64, .int .i64, .int .i64, .int .i64, .int .i64, .int .i64, .int .i64, .int .i64, .int .i64, .int .i64, .int .i64, .int .i64, .int .i64, .int .i64, .int .i64, .int .i64, .int .i64, .int .i64, .int .i64, .int .i64, .int .i64, .int .i64, .int .i64, .int .i64, .int .i64, .int .i64, .int .i64] 
        (.done (.agg [(.int .i64 (.var 17)), (.int .i64 (.var 18)), (.val 19), (.int .i64 (.var 20)), (.int .i64 (.var 21)), (.int .i64 (.var 22)), (.int .i64 (.var 23)), (.int .i64 (.var 24)), (.int .i64 (.var 25)), (.int .i64 (.var 26)), (.int .i64 (.var 27)), (.int .i64 (.var 28)), (.int .i64 (.var 29)), (.int .i64 (.var 30)), (.int .i64 (.var 31)), (.int .i64 (.var 32)), (.int .i64 (.var 33)), (.int .i64 (.var 34)), (.int .i64 (.var 35)), (.int .i64 (.var 36)), (.int .i64 (.var 37)), (.int .i64 (.var 38)), (.int .i64 (.var 39)), (.int .i64 (.var 40)), (.int .i64 (.var 41)), (.int .i64 (.var 42)), (.int .i64 (.var 43)), (.int .i64 (.var 44)), (.int .i64 (.var 45)), (.int .i64 (.var 46)), (.int .i64 (.var 47)), (.int .i64 (.var 48)), (.int .i64 (.var 49)), (.int .i64 (.var 50)), (.int .i64 (.var 51)), (.int .i64 (.var 52)), (.int .i64 (.var 53)), (.int .i64 (.var 54)), (.int .i64 (.var 55)), (.int .i64 (.var 56)), (.int .i64 (.var 57)), (.int .i64 (.var 58)), (.int .i64 (.var 59)), (.int .i64 (.var 60)), (.int .i64 (.var 61)), (.int .i64 (.var 62)), (.int .i64 (.var 63)), (.int .i64 (.var 64)), (.int .i64 (.var 65)), (.int .i64 (.var 66)), (.int .i64 (.var 67)), (.int .i64 (.var 68)), (.int .i64 (.var 69)), (.int .i64 (.var 70)), (.int .i64 (.var 71)), (.int .i64 (.var 72)), (.int .i64 (.var 73)), (.int .i64 (.var 74)), (.int .i64 (.var 75)), (.int .i64 (.var 76)), (.int .i64 (.var 77)), (.int .i64 (.var 78)), (.int .i64 (.var 79)), (.int .i64 (.var 80)), (.int .i64 (.var 81)), (.int .i64 (.var 82)), (.int .i64 (.var 83)), (.int .i64 (.var 84))]) [])))
        (.load (.tt true) (.fld (.var 10) 67) [.int .i64] 
        (.store (.fld (.var 10) 67) [(.int .i64 (.op .sub .i64 (.var 17) (.lit 1)))] 
        (.need (.tt true) [(.cmp .geq (.var 14) (.lit 0)), (.cmp .lss (.var 14) (.len 0))] 
        (.load (.tt true) (.fld (.idx (.var 0) (.var 14) 5) 1) [.int .u8, .int .i64, .int .i64, .int .i64] 
        (.ite (.cmp .eql (.var 18) (.lit 3))
         (.need (.tt true) [(.cmp .geq (.var 19) (.lit 0)), (.cmp .lss (.var 19) (.len 8))] 
         (.load (.tt true) (.idx (.var 8) (.var 19) 1) [.int .i64] 
         (.store (.fld (.var 10) 0) [(.int .i64 (.lit 1))] 
         (.still (.tt true) (.idx (.var 8) (.var 19) 1) [(.int .i64 (.var 22))] 
         (.store (.fld (.var 10) 1) [(.int .i64 (.var 22))] 
         (.load (.tt true) (.var 10) [.int .i64, .int .i64, .sl, .int .i64, .int .i64, .int .i64, .int .i64, .int .i64, .int .i64, .int .i64, .int .i64, .int .i64, .int .i64, .int .i64, .int .i64, .int .i64, .int .i64, .int .i64, .int .i64, .int .i64, .int .i64, .int .i64, .int .i64, .int .i64, .int .i64, .int .i64, .int .i64, .int .i64, .int .i64, .int .i64, .int .i64, .int .i64, .int .i64, .int .i64, .int .i64, .int .i64, .int .i64, .int .i64, .int .i64, .int .i64, .int .i64, .int .i64, .int .i64, .int .i64, .int .i64, .int .i64, .int .i64, .int .i64, .int .i64, .int .i64, .int .i64, .int .i64, .int .i64, .int .i64, .int .i64, .int .i64, .int .i64, .int .i64, .int .i64, .int .i64, .int .i64, .int .i64, .int .i64, .int .i64, .int .i64, .int .i64, .int .i64, .int .i64] 
         (.done (.agg [(.int .i64 (.var 23)), (.int .i64 (.var 24)), (.val 25), (.int .i64 (.var 26)), (.int .i64 (.var 27)), (.int .i64 (.var 28)), (.int .i64 (.var 29)), (.int .i64 (.var 30)), (.int .i64 (.var 31)), (.int .i64 (.var 32)), (.int .i64 (.var 33)), (.int .i64 (.var 34)), (.int .i64 (.var 35)), (.int .i64 (.var 36)), (.int .i64 (.var 37)), (.int .i64 (.var 38)), (.int .i64 (.var 39)), (.int .i64 (.var 40)), (.int .i64 (.var 41)), (.int .i64 (.var 42)), (.int .i64 (.var 43)), (.int .i64 (.var 44)), (.int .i64 (.var 45)), (.int .i64 (.var 46)), (.int .i64 (.var 47)), (.int .i64 (.var 48)), (.int .i64 (.var 49)), (.int .i64 (.var 50)), (.int .i64 (.var 51)), (.int .i64 (.var 52)), (.int .i64 (.var 53)), (.int .i64 (.var 54)), (.int .i64 (.var 55)), (.int .i64 (.var 56)), (.int .i64 (.var 57)), (.int .i64 (.var 58)), (.int .i64 (.var 59)), (.int .i64 (.var 60)), (.int .i64 (.var 61)), (.int .i64 (.var 62)), (.int .i64 (.var 63)), (.int .i64 (.var 64)), (.int .i64 (.var 65)), (.int .i64 (.var 66)), (.int .i64 (.var 67)), (.int .i64 (.var 68)), (.int .i64 (.var 69)), (.int .i64 (.var 70)), (.int .i64 (.var 71)), (.int .i64 (.var 72)), (.int .i64 (.var 73)), (.int .i64 (.var 74)), (.int .i64 (.var 75)), (.int .i64 (.var 76)), (.int .i64 (.var 77)), (.int .i64 (.var 78)), (.int .i64 (.var 79)), (.int .i64 (.var 80)), (.int .i64 (.var 81)), (.int .i64 (.var 82)), (.int .i64 (.var 83)), (.int .i64 (.var 84)), (.int .i64 (.var 85)), (.int .i64 (.var 86)), (.int .i64 (.var 87)), (.int .i64 (.var 88)), (.int .i64 (.var 89)), (.int .i64 (.var 90))]) [])))))))
         (.need (.cmp .eql (.var 18) (.lit 2)) [(.cmp .geq (.var 19) (.lit 0)), (.cmp .lss (.var 19) (.len 8))] 
         (.load (.cmp .eql (.var 18) (.lit 2)) (.idx (.var 8) (.var 19) 1) [.int .i64] 
         (.again 0 [(.int .i64 (.lit 0)), (.int .i64 (.var 13)), (.int .i64 (.ite (.ite (.cmp .eql (.var 18) (.lit 2)) (.cmp .eql (.var 22) (.lit 0)) (.tt false)) (.var 21) (.var 20)))])))))))))))))))))))))
def l20 : List (Nat × List Nat × List (Nat × Nat) × List Nat) := [(3, [12], [], [28, 29, 30, 31, 32, 35, 36, 37, 38, 39, 40, 41, 42, 43, 44, 33, 34]), (8, [14], [], [48, 49, 50, 51, 52, 53, 54, 55, 56, 59, 60, 61, 62, 63, 64, 65, 66, 57, 58]), (12, [16, 17, 15], [], [67, 68, 69, 70, 71, 72, 73, 74, 75, 76, 77, 78, 79, 80, 81, 82, 18, 83, 84, 85, 86, 87, 88, 89, 90, 91, 92, 93, 94, 95, 96, 97, 98, 99, 100, 101, 102, 103, 104, 105, 106, 107, 108, 109, 110, 111, 112, 113, 114, 115, 116, 117, 118, 119, 120, 121, 122, 123, 124, 125, 126, 127, 128, 129, 130, 131, 132, 133, 134, 135, 137, 136, 138, 139, 140, 141, 142, 143, 145, 144, 146, 147, 148, 149, 150, 151, 152, 153, 154, 155, 19, 20, 156, 157, 158, 159, 160, 161, 162, 163, 164, 165, 166, 167, 168, 169, 170, 171, 172, 173, 175, 174, 176, 177, 178, 179, 180, 181, 182, 183, 184, 185, 186, 187, 188, 189, 191, 190, 192, 193, 194, 195, 196, 197, 198, 199, 200, 201, 202, 203, 204, 205, 207, 206, 208, 209, 210, 21, 22, 211, 212, 213, 214, 215, 218, 219, 220, 221, 222, 223, 224, 225, 226, 227, 228, 229, 230, 216, 217, 231, 232, 233, 234, 235, 236, 237, 238, 239, 240, 241, 242, 243, 244, 245, 246, 247, 248, 249, 250, 251, 252, 253, 254, 255, 256, 257, 258, 259, 260, 261, 262, 263, 264, 265, 266, 267, 268, 269, 270, 23, 271, 272, 273, 274, 275, 276, 277, 278, 279, 280, 281, 282, 283, 284, 285, 286, 287, 288, 289, 290, 291, 292, 293, 294, 295, 296]), (41, [22], [(21, 1)], [211, 212, 213, 214, 215, 218, 219, 220, 221, 222, 223, 224, 225, 226, 227, 228, 229, 230, 216, 217])]
theorem e20 : ev Try.prog ⟨allF, [13], l20⟩ (bodyOf Try.f20) 0 (initSt [(.val 0), (.int .i64 (.var 1)), (.int .i64 (.var 2)), (.int .i64 (.var 3)), (.agg [(.val 4), (.val 5), (.val 6), (.int .i64 (.var 7))])] [] Try.f20.ntmps [.sl, .int .i64, .int .i64, .int .i64, .sl, .sl, .sl, .int .i64]) (finK Try.prog Try.f20.results []) = t20 := by kernel_rfl
theorem c20 {G : List Value} {h : H} {R : Value → List (List Value) → H → Prop} (hG : FitsL [.sl, .int .i64, .int .i64, .int .i64, .sl, .sl, .sl, .int .i64] G) (H : holds Try.prog R t20 G [] h) : CallsA Try.prog 20 (fun e => SV.denL G (fun k => e (k - 1000000)) [(.val 0), (.int .i64 (.var 1)), (.int .i64 (.var 2)), (.int .i64 (.var 3)), (.agg [(.val 4), (.val 5), (.val 6), (.int .i64 (.var 7))])]) ([].map (SV.denL G dE)) h R :=
  CallsA.of_ev (cf := ⟨allF, [13], l20⟩) (fn := Try.f20) (c := bodyOf Try.f20) (pcs := []) Try.func20 (by rfl) callOK (by rfl) hG (by rfl) (by rw [show ([] : List (List SV)).map List.length = [] from rfl, e20]; exact H)
/-- What is left of outworker/outworkerref04.SameFuncs. -/
def t21 : Out :=
 (.ite (.ite (.cmp .eql (.var 0) (.var 3)) (.cmp .eql (.var 1) (.var 4)) (.tt false))
  (.call 37 [(.val 2), (.val 5)] [] [] [] [(false, [.bool])] 
  (.done (.bool (.var 6)) []))
  (.done (.bool (.tt false)) []))
def l21 : List (Nat × List Nat × List (Nat × Nat) × List Nat) := []
theorem e21 : ev Try.prog ⟨allF, [], l21⟩ (bodyOf Try.f21) 0 (initSt [(.agg [(.int .i64 (.var 0)), (.int .i64 (.var 1)), (.val 2)]), (.agg [(.int .i64 (.var 3)), (.int .i64 (.var 4)), (.val 5)])] [] Try.f21.ntmps [.int .i64, .int .i64, .sl, .int .i64, .int .i64, .sl]) (finK Try.prog Try.f21.results []) = t21 := by kernel_rfl
theorem c21 {G : List Value} {h : H} {R : Value → List (List Value) → H → Prop} (hG : FitsL [.int .i64, .int .i64, .sl, .int .i64, .int .i64, .sl] G) (H : holds Try.prog R t21 G [] h) : CallsA Try.prog 21 (fun e => SV.denL G (fun k => e (k - 1000000)) [(.agg [(.int .i64 (.var 0)), (.int .i64 (.var 1)), (.val 2)]), (.agg [(.int .i64 (.var 3)), (.int .i64 (.var 4)), (.val 5)])]) ([].map (SV.denL G dE)) h R :=
  CallsA.of_ev (cf := ⟨allF, [], l21⟩) (fn := Try.f21) (c := bodyOf Try.f21) (pcs := []) Try.func21 (by rfl) callOK (by rfl) hG (by rfl) (by rw [show ([] : List (List SV)).map List.length = [] from rfl, e21]; exact H)
/-- What is left of outworker/outworkerlaw04.Long. -/
def t22 : Out :=
 (.loop 0 [(.int .i64 (.lit 0)), (.int .i64 (.lit 0))] [.int .i64, .int .i64] 
  (.ite (.cmp .lss (.var 2) (.len 0))
   (.need (.tt true) [(.cmp .geq (.var 2) (.lit 0)), (.cmp .lss (.var 2) (.len 0))] 
   (.load (.tt true) (.idx (.var 0) (.var 2) 5) [.sl, .int .u8, .int .i64, .int .i64, .int .i64] 
   (.loop 1 [(.int .i64 (.var 1)), (.int .i64 (.lit 0))] [.int .i64, .int .i64] 
    (.ite (.cmp .lss (.var 9) (.len 3))
     (.need (.tt true) [(.cmp .geq (.var 9) (.lit 0)), (.cmp .lss (.var 9) (.len 3))] 
     (.load (.tt true) (.idx (.var 3) (.var 9) 7) [.int .u8, .int .u8, .int .i64, .int .i64, .int .i64, .int .i64, .sl] 
     (.ite (.cmp .gtr (.op .add .i64 (.var 8) (.op .add .i64 (.lit 1) (.ite (.cmp .lss (.lit 10000) (.len 16)) (.lit 10000) (.len 16)))) (.lit 5000))
      (.done (.bool (.tt true)) [])
      (.again 1 [(.int .i64 (.op .add .i64 (.var 8) (.op .add .i64 (.lit 1) (.ite (.cmp .lss (.lit 10000) (.len 16)) (.lit 10000) (.len 16))))), (.int .i64 (.op .add .i64 (.var 9) (.lit 1)))]))))
     (.ite (.ite (.cmp .gtr (.var 2) (.lit 100)) (.tt true) (.cmp .gtr (.len 3) (.lit 2000)))
      (.done (.bool (.tt true)) [])
      (.again 0 [(.int .i64 (.var 8)), (.int .i64 (.op .add .i64 (.var 2) (.lit 1)))]))))))
   (.done (.bool (.tt false)) [])))
def l22 : List (Nat × List Nat × List (Nat × Nat) × List Nat) := [(3, [3, 10], [], [11, 12, 13, 14, 5, 4, 15, 16, 17, 18, 19, 20, 21, 7, 22, 23, 24, 25, 26, 27, 28, 29, 30, 2, 31, 32, 33, 34, 35, 36, 37, 38, 39, 40]), (6, [3, 18], [], [19, 20, 21, 7, 22, 23, 24, 25, 26, 27, 28, 29, 30, 2, 31])]
theorem e22 : ev Try.prog ⟨allF, [], l22⟩ (bodyOf Try.f22) 0 (initSt [(.val 0)] [] Try.f22.ntmps [.sl]) (finK Try.prog Try.f22.results []) = t22 := by kernel_rfl
theorem c22 {G : List Value} {h : H} {R : Value → List (List Value) → H → Prop} (hG : FitsL [.sl] G) (H : holds Try.prog R t22 G [] h) : CallsA Try.prog 22 (fun e => SV.denL G (fun k => e (k - 1000000)) [(.val 0)]) ([].map (SV.denL G dE)) h R :=
  CallsA.of_ev (cf := ⟨allF, [], l22⟩) (fn := Try.f22) (c := bodyOf Try.f22) (pcs := []) Try.func22 (by rfl) callOK (by rfl) hG (by rfl) (by rw [show ([] : List (List SV)).map List.length = [] from rfl, e22]; exact H)
/-- What is left of outworker/run.Check. -/
def t23 : Out :=
 (.ite (.cmp .neq (.len 1) (.var 0))
  (.done (.int .i64 (.lit 25)) [])
  (.ite (.ite (.cmp .lss (.var 4) (.lit 0)) (.tt true) (.cmp .gtr (.var 4) (.lit 1048576)))
   (.done (.int .i64 (.lit 2)) [])
   (.done (.int .i64 (.lit 0)) [])))
def l23 : List (Nat × List Nat × List (Nat × Nat) × List Nat) := []
theorem e23 : ev Try.prog ⟨allF, [], l23⟩ (bodyOf Try.f23) 0 (initSt [(.int .i64 (.var 0)), (.agg [(.val 1), (.val 2), (.val 3), (.int .i64 (.var 4))])] [] Try.f23.ntmps [.int .i64, .sl, .sl, .sl, .int .i64]) (finK Try.prog Try.f23.results []) = t23 := by kernel_rfl
theorem c23 {G : List Value} {h : H} {R : Value → List (List Value) → H → Prop} (hG : FitsL [.int .i64, .sl, .sl, .sl, .int .i64] G) (H : holds Try.prog R t23 G [] h) : CallsA Try.prog 23 (fun e => SV.denL G (fun k => e (k - 1000000)) [(.int .i64 (.var 0)), (.agg [(.val 1), (.val 2), (.val 3), (.int .i64 (.var 4))])]) ([].map (SV.denL G dE)) h R :=
  CallsA.of_ev (cf := ⟨allF, [], l23⟩) (fn := Try.f23) (c := bodyOf Try.f23) (pcs := []) Try.func23 (by rfl) callOK (by rfl) hG (by rfl) (by rw [show ([] : List (List SV)).map List.length = [] from rfl, e23]; exact H)
/-- What is left of outworker/outworkerref04.Input. -/
def t24 : Out :=
 (.ite (.cmp .neq (.len 1) (.var 0))
  (.done (.int .i64 (.lit 25)) [])
  (.ite (.ite (.cmp .lss (.var 4) (.lit 0)) (.tt true) (.cmp .gtr (.var 4) (.lit 1048576)))
   (.done (.int .i64 (.lit 2)) [])
   (.done (.int .i64 (.lit 0)) [])))
def l24 : List (Nat × List Nat × List (Nat × Nat) × List Nat) := []
theorem e24 : ev Try.prog ⟨allF, [], l24⟩ (bodyOf Try.f24) 0 (initSt [(.int .i64 (.var 0)), (.agg [(.val 1), (.val 2), (.val 3), (.int .i64 (.var 4))])] [] Try.f24.ntmps [.int .i64, .sl, .sl, .sl, .int .i64]) (finK Try.prog Try.f24.results []) = t24 := by kernel_rfl
theorem c24 {G : List Value} {h : H} {R : Value → List (List Value) → H → Prop} (hG : FitsL [.int .i64, .sl, .sl, .sl, .int .i64] G) (H : holds Try.prog R t24 G [] h) : CallsA Try.prog 24 (fun e => SV.denL G (fun k => e (k - 1000000)) [(.int .i64 (.var 0)), (.agg [(.val 1), (.val 2), (.val 3), (.int .i64 (.var 4))])]) ([].map (SV.denL G dE)) h R :=
  CallsA.of_ev (cf := ⟨allF, [], l24⟩) (fn := Try.f24) (c := bodyOf Try.f24) (pcs := []) Try.func24 (by rfl) callOK (by rfl) hG (by rfl) (by rw [show ([] : List (List SV)).map List.length = [] from rfl, e24]; exact H)
/-- What is left of outworker/outworkerref04.Func. -/
def t25 : Out :=
 (.ite (.ite (.ite (.ite (.ite (.ite (.cmp .lss (.var 0) (.lit 0)) (.tt true) (.cmp .gtr (.var 0) (.lit 4))) (.tt true) (.cmp .lss (.var 1) (.var 0))) (.tt true) (.cmp .gtr (.var 1) (.lit 32))) (.tt true) (.cmp .eql (.len 2) (.lit 0))) (.tt true) (.cmp .gtr (.len 2) (.lit 16)))
  (.done (.agg [(.int .i64 (.lit 2)), (.int .i64 (.lit (-1))), (.int .i64 (.lit (-1)))]) [])
  (.call 38 [(.val 2), (.int .i64 (.var 1)), (.int .i64 (.lit (-1))), (.int .i64 (.lit 32))] [] [] [] [(true, [.int .i64, .int .i64, .int .i64])] 
  (.done (.agg [(.int .i64 (.var 3)), (.int .i64 (.var 4)), (.int .i64 (.var 5))]) [])))
def l25 : List (Nat × List Nat × List (Nat × Nat) × List Nat) := []
theorem e25 : ev Try.prog ⟨allF, [], l25⟩ (bodyOf Try.f25) 0 (initSt [(.agg [(.int .i64 (.var 0)), (.int .i64 (.var 1)), (.val 2)])] [] Try.f25.ntmps [.int .i64, .int .i64, .sl]) (finK Try.prog Try.f25.results []) = t25 := by kernel_rfl
theorem c25 {G : List Value} {h : H} {R : Value → List (List Value) → H → Prop} (hG : FitsL [.int .i64, .int .i64, .sl] G) (H : holds Try.prog R t25 G [] h) : CallsA Try.prog 25 (fun e => SV.denL G (fun k => e (k - 1000000)) [(.agg [(.int .i64 (.var 0)), (.int .i64 (.var 1)), (.val 2)])]) ([].map (SV.denL G dE)) h R :=
  CallsA.of_ev (cf := ⟨allF, [], l25⟩) (fn := Try.f25) (c := bodyOf Try.f25) (pcs := []) Try.func25 (by rfl) callOK (by rfl) hG (by rfl) (by rw [show ([] : List (List SV)).map List.length = [] from rfl, e25]; exact H)
/-- What is left of outworker/outworkerlaw05.Made. -/
def t26 : Out :=
 (.call 16 [(.agg [(.int .u8 (.var 0)), (.int .u8 (.lit 0)), (.int .u8 (.var 2)), (.val 3)])] [] [] [] [(true, [.int .i64, .int .i64, .sl])] 
 (.loop 0 [(.int .i64 (.lit 0)), (.int .i64 (.var 7)), (.int .i64 (.op .add .i64 (.lit 3) (.conv .i64 (.op .rem .u8 (.var 4) (.lit 6))))), (.int .i64 (.op .add .i64 (.ite (.cmp .gtr (.lit 1) (.var 7)) (.lit 1) (.var 7)) (.conv .i64 (.op .rem .u8 (.var 5) (.lit 8))))), (.val 9)] [.int .i64, .int .i64, .int .i64, .int .i64, .sl] 
  (.ite (.cmp .lss (.var 10) (.len 9))
   (.need (.tt true) [(.cmp .geq (.var 10) (.lit 0)), (.cmp .lss (.var 10) (.len 14))] 
   (.load (.tt true) (.fld (.idx (.var 14) (.var 10) 5) 0) [.sl] 
   (.loop 1 [(.int .i64 (.lit 0)), (.int .i64 (.var 11)), (.int .i64 (.var 12)), (.int .i64 (.var 13)), (.val 14)] [.int .i64, .int .i64, .int .i64, .int .i64, .sl] 
    (.ite (.cmp .lss (.var 16) (.len 15))
     (.load (.tt true) (.fld (.idx (.var 14) (.var 10) 5) 0) [.sl] 
     (.need (.tt true) [(.cmp .geq (.var 16) (.lit 0)), (.cmp .lss (.var 16) (.len 21))] 
     (.load (.tt true) (.fld (.idx (.var 21) (.var 16) 7) 2) [.int .i64] 
     (.load (.tt true) (.fld (.idx (.var 21) (.var 16) 7) 3) [.int .i64] 
     (.load (.tt true) (.fld (.idx (.var 21) (.var 16) 7) 4) [.int .i64] 
     (.call 39 [(.int .i64 (.var 22)), (.loc 9 0)] [9] [[(.int .i64 (.var 17)), (.int .i64 (.var 18)), (.int .i64 (.var 19)), (.val 20)]] [[.int .i64, .int .i64, .int .i64, .sl]] [(false, [.int .i64])] 
     (.still (.tt true) (.fld (.idx (.var 21) (.var 16) 7) 4) [(.int .i64 (.var 24))] 
     (.still (.tt true) (.fld (.idx (.var 21) (.var 16) 7) 3) [(.int .i64 (.var 23))] 
     (.call 39 [(.int .i64 (.var 23)), (.loc 9 0)] [9] [[(.int .i64 (.var 25)), (.int .i64 (.var 26)), (.int .i64 (.var 27)), (.val 28)]] [[.int .i64, .int .i64, .int .i64, .sl]] [(false, [.int .i64])] 
     (.still (.tt true) (.fld (.idx (.var 21) (.var 16) 7) 4) [(.int .i64 (.var 24))] 
     (.call 39 [(.int .i64 (.var 24)), (.loc 9 0)] [9] [[(.int .i64 (.var 30)), (.int .i64 (.var 31)), (.int .i64 (.var 32)), (.val 33)]] [[.int .i64, .int .i64, .int .i64, .sl]] [(false, [.int .i64])] 
     (.store (.fld (.idx (.var 21) (.var 16) 7) 2) [(.int .i64 (.var 29))] 
     (.store (.fld (.idx (.var 21) (.var 16) 7) 3) [(.int .i64 (.var 34))] 
     (.store (.fld (.idx (.var 21) (.var 16) 7) 4) [(.int .i64 (.var 39))] 
     (.load (.tt true) (.fld (.idx (.var 21) (.var 16) 7) 6) [.sl] 
     (.loop 2 [(.int .i64 (.lit 0)), (.int .i64 (.var 35)), (.int .i64 (.var 36)), (.int .i64 (.var 37)), (.val 38)] [.int .i64, .int .i64, .int .i64, .int .i64, .sl] 
      (.ite (.cmp .lss (.var 41) (.len 40))
       (.load (.tt true) (.fld (.idx (.var 21) (.var 16) 7) 6) [.sl] 
       (.load (.tt true) (.fld (.idx (.var 21) (.var 16) 7) 6) [.sl] 
       (.need (.tt true) [(.cmp .geq (.var 41) (.lit 0)), (.cmp .lss (.var 41) (.len 47))] 
       (.load (.tt true) (.idx (.var 47) (.var 41) 1) [.int .i64] 
       (.call 39 [(.int .i64 (.var 48)), (.loc 9 0)] [9] [[(.int .i64 (.var 42)), (.int .i64 (.var 43)), (.int .i64 (.var 44)), (.val 45)]] [[.int .i64, .int .i64, .int .i64, .sl]] [(false, [.int .i64])] 
       (.still (.tt true) (.fld (.idx (.var 21) (.var 16) 7) 6) [(.val 47)] 
       (.still (.tt true) (.fld (.idx (.var 21) (.var 16) 7) 6) [(.val 46)] 
       (.need (.tt true) [(.cmp .geq (.var 41) (.lit 0)), (.cmp .lss (.var 41) (.len 46))] 
       (.store (.idx (.var 46) (.var 41) 1) [(.int .i64 (.var 53))] 
       (.again 2 [(.int .i64 (.op .add .i64 (.var 41) (.lit 1))), (.int .i64 (.var 49)), (.int .i64 (.var 50)), (.int .i64 (.var 51)), (.val 52)]))))))))))
       (.again 1 [(.int .i64 (.op .add .i64 (.var 16) (.lit 1))), (.int .i64 (.var 42)), (.int .i64 (.var 43)), (.int .i64 (.var 44)), (.val 45)]))))))))))))))))))
     (.load (.tt true) (.fld (.fld (.idx (.var 14) (.var 10) 5) 1) 1) [.int .i64] 
     (.call 39 [(.int .i64 (.var 21)), (.loc 9 0)] [9] [[(.int .i64 (.var 17)), (.int .i64 (.var 18)), (.int .i64 (.var 19)), (.val 20)]] [[.int .i64, .int .i64, .int .i64, .sl]] [(false, [.int .i64])] 
     (.store (.fld (.fld (.idx (.var 14) (.var 10) 5) 1) 1) [(.int .i64 (.var 26))] 
     (.again 0 [(.int .i64 (.op .add .i64 (.var 10) (.lit 1))), (.int .i64 (.var 22)), (.int .i64 (.var 23)), (.int .i64 (.var 24)), (.val 25)]))))))))
   (.loop 0 [(.int .i64 (.lit 0))] [.int .i64] 
    (.ite (.ite (.cmp .lss (.op .add .i64 (.var 15) (.lit 2)) (.len 6)) (.cmp .lss (.var 15) (.lit 60)) (.tt false))
     (.need (.tt true) [(.cmp .geq (.var 15) (.lit 0)), (.cmp .lss (.var 15) (.len 6))] 
     (.load (.tt true) (.idx (.var 6) (.var 15) 1) [.int .u8] 
     (.need (.tt true) [(.cmp .neq (.len 14) (.lit 0))] 
     (.need (.tt true) [(.cmp .geq (.op .rem .i64 (.conv .i64 (.var 16)) (.len 14)) (.lit 0)), (.cmp .lss (.op .rem .i64 (.conv .i64 (.var 16)) (.len 14)) (.len 14))] 
     (.need (.tt true) [(.cmp .geq (.op .add .i64 (.var 15) (.lit 1)) (.lit 0)), (.cmp .lss (.op .add .i64 (.var 15) (.lit 1)) (.len 6))] 
     (.load (.tt true) (.idx (.var 6) (.op .add .i64 (.var 15) (.lit 1)) 1) [.int .u8] 
     (.need (.tt true) [(.cmp .neq (.var 13) (.lit 0))] 
     (.need (.tt true) [(.cmp .geq (.op .add .i64 (.var 15) (.lit 2)) (.lit 0)), (.cmp .lss (.op .add .i64 (.var 15) (.lit 2)) (.len 6))] 
     (.load (.tt true) (.idx (.var 6) (.op .add .i64 (.var 15) (.lit 2)) 1) [.int .u8] 
     (.need (.tt true) [(.cmp .neq (.var 12) (.lit 0))] 
     (.still (.tt true) (.idx (.var 6) (.op .add .i64 (.var 15) (.lit 2)) 1) [(.int .u8 (.var 18))] 
     (.still (.tt true) (.idx (.var 6) (.op .add .i64 (.var 15) (.lit 1)) 1) [(.int .u8 (.var 17))] 
     (.need (.tt true) [(.cmp .geq (.var 15) (.lit 0)), (.cmp .lss (.var 15) (.len 6))] 
     (.load (.tt true) (.idx (.var 6) (.var 15) 1) [.int .u8] 
     (.ite (.cmp .eql (.op .rem .u8 (.var 19) (.lit 2)) (.lit 1))
      (.need (.tt true) [(.cmp .geq (.op .add .i64 (.var 15) (.lit 1)) (.lit 0)), (.cmp .lss (.op .add .i64 (.var 15) (.lit 1)) (.len 6))] 
      (.load (.tt true) (.idx (.var 6) (.op .add .i64 (.var 15) (.lit 1)) 1) [.int .u8] 
      (.need (.tt true) [(.cmp .neq (.var 12) (.lit 0))] 
      (.need (.tt true) [(.cmp .geq (.op .add .i64 (.var 15) (.lit 2)) (.lit 0)), (.cmp .lss (.op .add .i64 (.var 15) (.lit 2)) (.len 6))] 
      (.load (.tt true) (.idx (.var 6) (.op .add .i64 (.var 15) (.lit 2)) 1) [.int .u8] 
      (.need (.tt true) [(.cmp .neq (.var 13) (.lit 0))] 
      (.need (.tt true) [(.cmp .geq (.var 15) (.lit 0)), (.cmp .lss (.var 15) (.len 6))] 
      (.load (.tt true) (.idx (.var 6) (.var 15) 1) [.int .u8] 
      (.load (.tt true) (.fld (.idx (.var 14) (.op .rem .i64 (.conv .i64 (.var 16)) (.len 14)) 5) 0) [.sl] 
      (.need (.tt true) [(.cmp .neq (.op .add .i64 (.len 23) (.lit 1)) (.lit 0))] 
      (.load (.tt true) (.fld (.idx (.var 14) (.op .rem .i64 (.conv .i64 (.var 16)) (.len 14)) 5) 0) [.sl] 
      (.need (.tt true) [(.cmp .geq (.op .rem .i64 (.conv .i64 (.op .quo .u8 (.var 22) (.lit 8))) (.op .add .i64 (.len 23) (.lit 1))) (.lit 0)), (.cmp .leq (.op .rem .i64 (.conv .i64 (.op .quo .u8 (.var 22) (.lit 8))) (.op .add .i64 (.len 23) (.lit 1))) (.cap 24))] 
      (.bnd (.slice (.val 24) none (some (.op .rem .i64 (.conv .i64 (.op .quo .u8 (.var 22) (.lit 8))) (.op .add .i64 (.len 23) (.lit 1)))) 7) 
      (.load (.tt true) (.fld (.idx (.var 14) (.op .rem .i64 (.conv .i64 (.var 16)) (.len 14)) 5) 0) [.sl] 
      (.need (.tt true) [(.cmp .geq (.op .rem .i64 (.conv .i64 (.op .quo .u8 (.var 22) (.lit 8))) (.op .add .i64 (.len 23) (.lit 1))) (.lit 0)), (.cmp .leq (.op .rem .i64 (.conv .i64 (.op .quo .u8 (.var 22) (.lit 8))) (.op .add .i64 (.len 23) (.lit 1))) (.len 26))] 
      (.bnd (.slice (.val 26) (some (.op .rem .i64 (.conv .i64 (.op .quo .u8 (.var 22) (.lit 8))) (.op .add .i64 (.len 23) (.lit 1)))) none 7) 
      (.both 
       (.alloc 71 [] (.lsl 0) 
       (.still (.tt true) (.fld (.idx (.var 14) (.op .rem .i64 (.conv .i64 (.var 16)) (.len 14)) 5) 0) [(.val 26)] 
       (.still (.tt true) (.fld (.idx (.var 14) (.op .rem .i64 (.conv .i64 (.var 16)) (.len 14)) 5) 0) [(.val 24)] 
       (.both 
        (.app 71 7 64 (.val 28) (.sl (.val 25)) 
        (.still (.tt true) (.fld (.idx (.var 14) (.op .rem .i64 (.conv .i64 (.var 16)) (.len 14)) 5) 0) [(.val 26)] 
        (.still (.tt true) (.fld (.idx (.var 14) (.op .rem .i64 (.conv .i64 (.var 16)) (.len 14)) 5) 0) [(.val 24)] 
        (.still (.tt true) (.fld (.idx (.var 14) (.op .rem .i64 (.conv .i64 (.var 16)) (.len 14)) 5) 0) [(.val 26)] 
        (.still (.tt true) (.fld (.idx (.var 14) (.op .rem .i64 (.conv .i64 (.var 16)) (.len 14)) 5) 0) [(.val 24)] 
        (.app 71 7 64 (.val 29) (.cells [(.int .u8 (.lit 8)), (.int .u8 (.lit 0)), (.int .i64 (.op .rem .i64 (.conv .i64 (.var 20)) (.var 12))), (.int .i64 (.op .rem .i64 (.conv .i64 (.var 21)) (.var 13))), (.int .i64 (.lit 0)), (.int .i64 (.lit 0)), (.cst (.slice none 0 0))] 1) 
        (.still (.tt true) (.fld (.idx (.var 14) (.op .rem .i64 (.conv .i64 (.var 16)) (.len 14)) 5) 0) [(.val 26)] 
        (.still (.tt true) (.fld (.idx (.var 14) (.op .rem .i64 (.conv .i64 (.var 16)) (.len 14)) 5) 0) [(.val 24)] 
        (.app 71 7 64 (.val 30) (.sl (.val 27)) 
        (.still (.tt true) (.fld (.idx (.var 14) (.op .rem .i64 (.conv .i64 (.var 16)) (.len 14)) 5) 0) [(.val 26)] 
        (.still (.tt true) (.fld (.idx (.var 14) (.op .rem .i64 (.conv .i64 (.var 16)) (.len 14)) 5) 0) [(.val 24)] 
        (.store (.fld (.idx (.var 14) (.op .rem .i64 (.conv .i64 (.var 16)) (.len 14)) 5) 0) [(.val 31)] 
        (.again 0 [(.int .i64 (.op .add .i64 (.var 15) (.lit 3)))]))))))))))))) 
        (.still (.tt true) (.fld (.idx (.var 14) (.op .rem .i64 (.conv .i64 (.var 16)) (.len 14)) 5) 0) [(.val 26)] 
        (.still (.tt true) (.fld (.idx (.var 14) (.op .rem .i64 (.conv .i64 (.var 16)) (.len 14)) 5) 0) [(.val 24)] 
        (.app 71 7 64 (.val 28) (.sl (.val 25)) 
        (.still (.tt true) (.fld (.idx (.var 14) (.op .rem .i64 (.conv .i64 (.var 16)) (.len 14)) 5) 0) [(.val 26)] 
        (.still (.tt true) (.fld (.idx (.var 14) (.op .rem .i64 (.conv .i64 (.var 16)) (.len 14)) 5) 0) [(.val 24)] 
        (.app 71 7 64 (.val 29) (.cells [(.int .u8 (.lit 8)), (.int .u8 (.lit 0)), (.int .i64 (.op .rem .i64 (.conv .i64 (.var 20)) (.var 12))), (.int .i64 (.op .rem .i64 (.conv .i64 (.var 21)) (.var 13))), (.int .i64 (.lit 0)), (.int .i64 (.lit 0)), (.cst (.slice none 0 0))] 1) 
        (.still (.tt true) (.fld (.idx (.var 14) (.op .rem .i64 (.conv .i64 (.var 16)) (.len 14)) 5) 0) [(.val 26)] 
        (.still (.tt true) (.fld (.idx (.var 14) (.op .rem .i64 (.conv .i64 (.var 16)) (.len 14)) 5) 0) [(.val 24)] 
        (.app 71 7 64 (.val 30) (.sl (.val 27)) 
        (.still (.tt true) (.fld (.idx (.var 14) (.op .rem .i64 (.conv .i64 (.var 16)) (.len 14)) 5) 0) [(.val 26)] 
        (.still (.tt true) (.fld (.idx (.var 14) (.op .rem .i64 (.conv .i64 (.var 16)) (.len 14)) 5) 0) [(.val 24)] 
        (.store (.fld (.idx (.var 14) (.op .rem .i64 (.conv .i64 (.var 16)) (.len 14)) 5) 0) [(.val 31)] 
        (.again 0 [(.int .i64 (.op .add .i64 (.var 15) (.lit 3)))]))))))))))))))))) 
       (.still (.tt true) (.fld (.idx (.var 14) (.op .rem .i64 (.conv .i64 (.var 16)) (.len 14)) 5) 0) [(.val 26)] 
       (.still (.tt true) (.fld (.idx (.var 14) (.op .rem .i64 (.conv .i64 (.var 16)) (.len 14)) 5) 0) [(.val 24)] 
       (.alloc 71 [] (.lsl 0) 
       (.still (.tt true) (.fld (.idx (.var 14) (.op .rem .i64 (.conv .i64 (.var 16)) (.len 14)) 5) 0) [(.val 26)] 
       (.still (.tt true) (.fld (.idx (.var 14) (.op .rem .i64 (.conv .i64 (.var 16)) (.len 14)) 5) 0) [(.val 24)] 
       (.app 71 7 64 (.val 28) (.sl (.val 25)) 
       (.still (.tt true) (.fld (.idx (.var 14) (.op .rem .i64 (.conv .i64 (.var 16)) (.len 14)) 5) 0) [(.val 26)] 
       (.still (.tt true) (.fld (.idx (.var 14) (.op .rem .i64 (.conv .i64 (.var 16)) (.len 14)) 5) 0) [(.val 24)] 
       (.app 71 7 64 (.val 29) (.cells [(.int .u8 (.lit 8)), (.int .u8 (.lit 0)), (.int .i64 (.op .rem .i64 (.conv .i64 (.var 20)) (.var 12))), (.int .i64 (.op .rem .i64 (.conv .i64 (.var 21)) (.var 13))), (.int .i64 (.lit 0)), (.int .i64 (.lit 0)), (.cst (.slice none 0 0))] 1) 
       (.still (.tt true) (.fld (.idx (.var 14) (.op .rem .i64 (.conv .i64 (.var 16)) (.len 14)) 5) 0) [(.val 26)] 
       (.still (.tt true) (.fld (.idx (.var 14) (.op .rem .i64 (.conv .i64 (.var 16)) (.len 14)) 5) 0) [(.val 24)] 
       (.app 71 7 64 (.val 30) (.sl (.val 27)) 
       (.still (.tt true) (.fld (.idx (.var 14) (.op .rem .i64 (.conv .i64 (.var 16)) (.len 14)) 5) 0) [(.val 26)] 
       (.still (.tt true) (.fld (.idx (.var 14) (.op .rem .i64 (.conv .i64 (.var 16)) (.len 14)) 5) 0) [(.val 24)] 
       (.store (.fld (.idx (.var 14) (.op .rem .i64 (.conv .i64 (.var 16)) (.len 14)) 5) 0) [(.val 31)] 
       (.again 0 [(.int .i64 (.op .add .i64 (.var 15) (.lit 3)))])))))))))))))))))))))))))))))))))
      (.need (.tt true) [(.cmp .geq (.var 15) (.lit 0)), (.cmp .lss (.var 15) (.len 6))] 
      (.load (.tt true) (.idx (.var 6) (.var 15) 1) [.int .u8] 
      (.load (.tt true) (.fld (.idx (.var 14) (.op .rem .i64 (.conv .i64 (.var 16)) (.len 14)) 5) 0) [.sl] 
      (.need (.tt true) [(.cmp .neq (.op .add .i64 (.len 21) (.lit 1)) (.lit 0))] 
      (.load (.tt true) (.fld (.idx (.var 14) (.op .rem .i64 (.conv .i64 (.var 16)) (.len 14)) 5) 0) [.sl] 
      (.need (.tt true) [(.cmp .geq (.op .rem .i64 (.conv .i64 (.op .quo .u8 (.var 20) (.lit 8))) (.op .add .i64 (.len 21) (.lit 1))) (.lit 0)), (.cmp .leq (.op .rem .i64 (.conv .i64 (.op .quo .u8 (.var 20) (.lit 8))) (.op .add .i64 (.len 21) (.lit 1))) (.cap 22))] 
      (.bnd (.slice (.val 22) none (some (.op .rem .i64 (.conv .i64 (.op .quo .u8 (.var 20) (.lit 8))) (.op .add .i64 (.len 21) (.lit 1)))) 7) 
      (.load (.tt true) (.fld (.idx (.var 14) (.op .rem .i64 (.conv .i64 (.var 16)) (.len 14)) 5) 0) [.sl] 
      (.need (.tt true) [(.cmp .geq (.op .rem .i64 (.conv .i64 (.op .quo .u8 (.var 20) (.lit 8))) (.op .add .i64 (.len 21) (.lit 1))) (.lit 0)), (.cmp .leq (.op .rem .i64 (.conv .i64 (.op .quo .u8 (.var 20) (.lit 8))) (.op .add .i64 (.len 21) (.lit 1))) (.len 24))] 
      (.bnd (.slice (.val 24) (some (.op .rem .i64 (.conv .i64 (.op .quo .u8 (.var 20) (.lit 8))) (.op .add .i64 (.len 21) (.lit 1)))) none 7) 
      (.both 
       (.alloc 71 [] (.lsl 0) 
       (.still (.tt true) (.fld (.idx (.var 14) (.op .rem .i64 (.conv .i64 (.var 16)) (.len 14)) 5) 0) [(.val 24)] 
       (.still (.tt true) (.fld (.idx (.var 14) (.op .rem .i64 (.conv .i64 (.var 16)) (.len 14)) 5) 0) [(.val 22)] 
       (.both 
        (.app 71 7 64 (.val 26) (.sl (.val 23)) 
        (.still (.tt true) (.fld (.idx (.var 14) (.op .rem .i64 (.conv .i64 (.var 16)) (.len 14)) 5) 0) [(.val 24)] 
        (.still (.tt true) (.fld (.idx (.var 14) (.op .rem .i64 (.conv .i64 (.var 16)) (.len 14)) 5) 0) [(.val 22)] 
        (.still (.tt true) (.fld (.idx (.var 14) (.op .rem .i64 (.conv .i64 (.var 16)) (.len 14)) 5) 0) [(.val 24)] 
        (.still (.tt true) (.fld (.idx (.var 14) (.op .rem .i64 (.conv .i64 (.var 16)) (.len 14)) 5) 0) [(.val 22)] 
        (.app 71 7 64 (.val 27) (.cells [(.int .u8 (.lit 7)), (.int .u8 (.lit 0)), (.int .i64 (.op .rem .i64 (.conv .i64 (.var 17)) (.var 13))), (.int .i64 (.op .rem .i64 (.conv .i64 (.var 18)) (.var 12))), (.int .i64 (.lit 0)), (.int .i64 (.lit 0)), (.cst (.slice none 0 0))] 1) 
        (.still (.tt true) (.fld (.idx (.var 14) (.op .rem .i64 (.conv .i64 (.var 16)) (.len 14)) 5) 0) [(.val 24)] 
        (.still (.tt true) (.fld (.idx (.var 14) (.op .rem .i64 (.conv .i64 (.var 16)) (.len 14)) 5) 0) [(.val 22)] 
        (.app 71 7 64 (.val 28) (.sl (.val 25)) 
        (.still (.tt true) (.fld (.idx (.var 14) (.op .rem .i64 (.conv .i64 (.var 16)) (.len 14)) 5) 0) [(.val 24)] 
        (.still (.tt true) (.fld (.idx (.var 14) (.op .rem .i64 (.conv .i64 (.var 16)) (.len 14)) 5) 0) [(.val 22)] 
        (.store (.fld (.idx (.var 14) (.op .rem .i64 (.conv .i64 (.var 16)) (.len 14)) 5) 0) [(.val 29)] 
        (.again 0 [(.int .i64 (.op .add .i64 (.var 15) (.lit 3)))]))))))))))))) 
        (.still (.tt true) (.fld (.idx (.var 14) (.op .rem .i64 (.conv .i64 (.var 16)) (.len 14)) 5) 0) [(.val 24)] 
        (.still (.tt true) (.fld (.idx (.var 14) (.op .rem .i64 (.conv .i64 (.var 16)) (.len 14)) 5) 0) [(.val 22)] 
        (.app 71 7 64 (.val 26) (.sl (.val 23)) 
        (.still (.tt true) (.fld (.idx (.var 14) (.op .rem .i64 (.conv .i64 (.var 16)) (.len 14)) 5) 0) [(.val 24)] 
        (.still (.tt true) (.fld (.idx (.var 14) (.op .rem .i64 (.conv .i64 (.var 16)) (.len 14)) 5) 0) [(.val 22)] 
        (.app 71 7 64 (.val 27) (.cells [(.int .u8 (.lit 7)), (.int .u8 (.lit 0)), (.int .i64 (.op .rem .i64 (.conv .i64 (.var 17)) (.var 13))), (.int .i64 (.op .rem .i64 (.conv .i64 (.var 18)) (.var 12))), (.int .i64 (.lit 0)), (.int .i64 (.lit 0)), (.cst (.slice none 0 0))] 1) 
        (.still (.tt true) (.fld (.idx (.var 14) (.op .rem .i64 (.conv .i64 (.var 16)) (.len 14)) 5) 0) [(.val 24)] 
        (.still (.tt true) (.fld (.idx (.var 14) (.op .rem .i64 (.conv .i64 (.var 16)) (.len 14)) 5) 0) [(.val 22)] 
        (.app 71 7 64 (.val 28) (.sl (.val 25)) 
        (.still (.tt true) (.fld (.idx (.var 14) (.op .rem .i64 (.conv .i64 (.var 16)) (.len 14)) 5) 0) [(.val 24)] 
        (.still (.tt true) (.fld (.idx (.var 14) (.op .rem .i64 (.conv .i64 (.var 16)) (.len 14)) 5) 0) [(.val 22)] 
        (.store (.fld (.idx (.var 14) (.op .rem .i64 (.conv .i64 (.var 16)) (.len 14)) 5) 0) [(.val 29)] 
        (.again 0 [(.int .i64 (.op .add .i64 (.var 15) (.lit 3)))]))))))))))))))))) 
       (.still (.tt true) (.fld (.idx (.var 14) (.op .rem .i64 (.conv .i64 (.var 16)) (.len 14)) 5) 0) [(.val 24)] 
       (.still (.tt true) (.fld (.idx (.var 14) (.op .rem .i64 (.conv .i64 (.var 16)) (.len 14)) 5) 0) [(.val 22)] 
       (.alloc 71 [] (.lsl 0) 
       (.still (.tt true) (.fld (.idx (.var 14) (.op .rem .i64 (.conv .i64 (.var 16)) (.len 14)) 5) 0) [(.val 24)] 
       (.still (.tt true) (.fld (.idx (.var 14) (.op .rem .i64 (.conv .i64 (.var 16)) (.len 14)) 5) 0) [(.val 22)] 
       (.app 71 7 64 (.val 26) (.sl (.val 23)) 
       (.still (.tt true) (.fld (.idx (.var 14) (.op .rem .i64 (.conv .i64 (.var 16)) (.len 14)) 5) 0) [(.val 24)] 
       (.still (.tt true) (.fld (.idx (.var 14) (.op .rem .i64 (.conv .i64 (.var 16)) (.len 14)) 5) 0) [(.val 22)] 
       (.app 71 7 64 (.val 27) (.cells [(.int .u8 (.lit 7)), (.int .u8 (.lit 0)), (.int .i64 (.op .rem .i64 (.conv .i64 (.var 17)) (.var 13))), (.int .i64 (.op .rem .i64 (.conv .i64 (.var 18)) (.var 12))), (.int .i64 (.lit 0)), (.int .i64 (.lit 0)), (.cst (.slice none 0 0))] 1) 
       (.still (.tt true) (.fld (.idx (.var 14) (.op .rem .i64 (.conv .i64 (.var 16)) (.len 14)) 5) 0) [(.val 24)] 
       (.still (.tt true) (.fld (.idx (.var 14) (.op .rem .i64 (.conv .i64 (.var 16)) (.len 14)) 5) 0) [(.val 22)] 
       (.app 71 7 64 (.val 28) (.sl (.val 25)) 
       (.still (.tt true) (.fld (.idx (.var 14) (.op .rem .i64 (.conv .i64 (.var 16)) (.len 14)) 5) 0) [(.val 24)] 
       (.still (.tt true) (.fld (.idx (.var 14) (.op .rem .i64 (.conv .i64 (.var 16)) (.len 14)) 5) 0) [(.val 22)] 
       (.store (.fld (.idx (.var 14) (.op .rem .i64 (.conv .i64 (.var 16)) (.len 14)) 5) 0) [(.val 29)] 
       (.again 0 [(.int .i64 (.op .add .i64 (.var 15) (.lit 3)))]))))))))))))))))))))))))))))))))))))))))))
     (.done (.agg [(.int .i64 (.var 11)), (.int .i64 (.var 12)), (.int .i64 (.var 13)), (.val 14)]) []))))))
def l26 : List (Nat × List Nat × List (Nat × Nat) × List Nat) := [(8, [47], [(9, 0), (9, 1), (9, 2), (9, 3)], [48, 49, 12, 50, 51, 52, 53, 13, 54, 55, 56, 57, 58, 59, 60, 61, 14, 62, 63, 64, 65, 66, 67, 15, 68, 69, 70, 71, 72, 73, 74, 75, 76, 77, 78, 79, 80, 81, 82, 83, 84, 85, 86, 87, 88, 89, 90, 91, 92, 93, 94, 95, 96, 97, 98, 99, 100, 101, 102, 16, 103, 104, 105, 106, 107, 108, 109, 110, 111, 112, 113, 114, 115, 116, 117, 118, 119, 120, 121, 122, 123, 124, 125, 126, 127, 128, 129, 130, 131]), (12, [59], [(9, 0), (9, 1), (9, 2), (9, 3)], [60, 61, 14, 62, 63, 64, 65, 66, 67, 15, 68, 69, 70, 71, 72, 73, 74, 75, 76, 77, 78, 79, 80, 81, 82, 83, 84, 85, 86, 87, 88, 89, 90, 91, 92, 93, 94, 95, 96, 97, 98, 99, 100, 101, 102, 16, 103, 104, 105, 106, 107, 108, 109, 110, 111, 112, 113, 114, 115, 116, 117, 118, 119]), (17, [100], [(9, 0), (9, 1), (9, 2), (9, 3)], [101, 102, 16, 103, 104, 105, 106, 107, 108, 109, 110, 111, 112, 113, 114, 115, 116, 117, 118]), (25, [17], [], [132, 133, 134, 135, 136, 137, 138, 139, 140, 143, 144, 145, 146, 147, 148, 149, 150, 151, 152, 153, 154, 18, 155, 156, 157, 158, 159, 160, 161, 162, 163, 164, 165, 166, 167, 168, 169, 170, 171, 172, 173, 19, 174, 175, 176, 177, 178, 179, 180, 181, 182, 183, 184, 185, 186, 187, 188, 189, 190, 191, 192, 193, 194, 195, 196, 197, 198, 199, 200, 201, 202, 203, 204, 205, 206, 207, 208, 209, 210, 211, 20, 212, 213, 214, 215, 216, 217, 218, 219, 220, 221, 222, 223, 224, 225, 226, 227, 228, 229, 230, 231, 232, 141, 142])]
theorem e26 : ev Try.prog ⟨allF, [213], l26⟩ (bodyOf Try.f26) 0 (initSt [(.agg [(.int .u8 (.var 0)), (.int .u8 (.var 1)), (.int .u8 (.var 2)), (.val 3)]), (.int .u8 (.var 4)), (.int .u8 (.var 5)), (.val 6)] [] Try.f26.ntmps [.int .u8, .int .u8, .int .u8, .sl, .int .u8, .int .u8, .sl]) (finK Try.prog Try.f26.results []) = t26 := by kernel_rfl
theorem c26 {G : List Value} {h : H} {R : Value → List (List Value) → H → Prop} (hG : FitsL [.int .u8, .int .u8, .int .u8, .sl, .int .u8, .int .u8, .sl] G) (H : holds Try.prog R t26 G [] h) : CallsA Try.prog 26 (fun e => SV.denL G (fun k => e (k - 1000000)) [(.agg [(.int .u8 (.var 0)), (.int .u8 (.var 1)), (.int .u8 (.var 2)), (.val 3)]), (.int .u8 (.var 4)), (.int .u8 (.var 5)), (.val 6)]) ([].map (SV.denL G dE)) h R :=
  CallsA.of_ev (cf := ⟨allF, [213], l26⟩) (fn := Try.f26) (c := bodyOf Try.f26) (pcs := []) Try.func26 (by rfl) callOK (by rfl) hG (by rfl) (by rw [show ([] : List (List SV)).map List.length = [] from rfl, e26]; exact H)
/-- What is left of outworker/run.Do. -/
def t27 : Out :=
 (.mk 2 1 8 (.op .add .i64 (.var 1) (.var 2)) 
 (.alloc 94 [(.int .i64 (.lit 0)), (.int .i64 (.lit 0)), (.cst (.slice none 0 0)), (.int .i64 (.lit 0)), (.int .i64 (.lit 0)), (.int .i64 (.lit 0)), (.int .i64 (.lit 0)), (.int .i64 (.lit 0)), (.int .i64 (.lit 0)), (.int .i64 (.lit 0)), (.int .i64 (.lit 0)), (.int .i64 (.lit 0)), (.int .i64 (.lit 0)), (.int .i64 (.lit 0)), (.int .i64 (.lit 0)), (.int .i64 (.lit 0)), (.int .i64 (.lit 0)), (.int .i64 (.lit 0)), (.int .i64 (.lit 0)), (.int .i64 (.lit 0)), (.int .i64 (.lit 0)), (.int .i64 (.lit 0)), (.int .i64 (.lit 0)), (.int .i64 (.lit 0)), (.int .i64 (.lit 0)), (.int .i64 (.lit 0)), (.int .i64 (.lit 0)), (.int .i64 (.lit 0)), (.int .i64 (.lit 0)), (.int .i64 (.lit 0)), (.int .i64 (.lit 0)), (.int .i64 (.lit 0)), (.int .i64 (.lit 0)), (.int .i64 (.lit 0)), (.int .i64 (.lit 0)), (.int .i64 (.lit 0)), (.int .i64 (.lit 0)), (.int .i64 (.lit 0)), (.int .i64 (.lit 0)), (.int .i64 (.lit 0)), (.int .i64 (.lit 0)), (.int .i64 (.lit 0)), (.int .i64 (.lit 0)), (.int .i64 (.lit 0)), (.int .i64 (.lit 0)), (.int .i64 (.lit 0)), (.int .i64 (.lit 0)), (.int .i64 (.lit 0)), (.int .i64 (.lit 0)), (.int .i64 (.lit 0)), (.int .i64 (.lit 0)), (.int .i64 (.lit 0)), (.int .i64 (.lit 0)), (.int .i64 (.lit 0)), (.int .i64 (.lit 0)), (.int .i64 (.lit 0)), (.int .i64 (.lit 0)), (.int .i64 (.lit 0)), (.int .i64 (.lit 0)), (.int .i64 (.lit 0)), (.int .i64 (.lit 0)), (.int .i64 (.lit 0)), (.int .i64 (.lit 0)), (.int .i64 (.lit 0)), (.int .i64 (.lit 0)), (.int .i64 (.lit 0)), (.int .i64 (.lit 0)), (.int .i64 (.lit 0)), (.val 8), (.int .i64 (.var 1)), (.val 6)] .loc 
 (.load (.tt true) (.fld (.var 9) 68) [.sl] 
 (.need (.tt true) [(.cmp .geq (.var 3) (.lit 0)), (.cmp .leq (.var 3) (.len 10))] 
 (.bnd (.slice (.val 10) (some (.var 3)) none 1) 
 (.copy 1 (.val 11) (.val 4) 
 (.still (.tt true) (.fld (.var 9) 68) [(.val 10)] 
 (.bnd (.arr (.fld (.fld (.var 9) 0) 3) none none 64 1) 
 (.copy 1 (.val 13) (.val 5) 
 (.store (.fld (.fld (.var 9) 0) 67) [(.int .i64 (.var 7))] 
 (.loop 0 [(.int .i64 (.lit 0)), (.bool (.tt true))] [.int .i64, .bool] 
  (.ite (.var 16)
   (.need (.tt true) [(.cmp .geq (.var 15) (.lit 0)), (.cmp .lss (.var 15) (.len 0))] 
   (.load (.tt true) (.fld (.idx (.var 0) (.var 15) 5) 0) [.sl] 
   (.loop 1 [(.int .i64 (.lit 0))] [.int .i64] 
    (.ite (.cmp .lss (.var 18) (.len 17))
     (.need (.tt true) [(.cmp .geq (.var 18) (.lit 0)), (.cmp .lss (.var 18) (.len 17))] 
     (.load (.tt true) (.idx (.var 17) (.var 18) 7) [.int .u8, .int .u8, .int .i64, .int .i64, .int .i64, .int .i64, .sl] 
     (.call 40 [(.ptr (.var 9)), (.agg [(.int .u8 (.var 19)), (.int .u8 (.var 20)), (.int .i64 (.var 21)), (.int .i64 (.var 22)), (.int .i64 (.var 23)), (.int .i64 (.var 24)), (.val 25)])] [] [] [] [(false, [.bool])] 
     (.ite (.not (.var 26))
      (.load (.tt true) (.fld (.var 9) 0) [.int .i64, .int .i64, .sl, .int .i64, .int .i64, .int .i64, .int .i64, .int .i64, .int .i64, .int .i64, .int .i64, .int .i64, .int .i64, .int .i64, .int .i64, .int .i64, .int .i64, .int .i64, .int .i64, .int .i64, .int .i64, .int .i64, .int .i64, .int .i64, .int .i64, .int .i64, .int .i64, .int .i64, .int .i64, .int .i64, .int .i64, .int .i64, .int .i64, .int .i64, .int .i64, .int .i64, .int .i64, .int .i64, .int .i64, .int .i64, .int .i64, .int .i64, .int .i64, .int .i64, .int .i64, .int .i64, .int .i64, .int .i64, .int .i64, .int .i64, .int .i64, .int .i64, .int .i64, .int .i64, .int .i64, .int .i64, .int .i64, .int .i64, .int .i64, .int .i64, .int .i64, .int .i64, .int .i64, .int .i64, .int .i64, .int .i64, .int .i64, .int .i64] 
      (.done (.agg [(.int .i64 (.var 27)), (.int .i64 (.var 28)), (.val 29), (.int .i64 (.var 30)), (.int .i64 (.var 31)), (.int .i64 (.var 32)), (.int .i64 (.var 33)), (.int .i64 (.var 34)), (.int .i64 (.var 35)), (.int .i64 (.var 36)), (.int .i64 (.var 37)), (.int .i64 (.var 38)), (.int .i64 (.var 39)), (.int .i64 (.var 40)), (.int .i64 (.var 41)), (.int .i64 (.var 42)), (.int .i64 (.var 43)), (.int .i64 (.var 44)), (.int .i64 (.var 45)), (.int .i64 (.var 46)), (.int .i64 (.var 47)), (.int .i64 (.var 48)), (.int .i64 (.var 49)), (.int .i64 (.var 50)), (.int .i64 (.var 51)), (.int .i64 (.var 52)), (.int .i64 (.var 53)), (.int .i64 (.var 54)), (.int .i64 (.var 55)), (.int .i64 (.var 56)), (.int .i64 (.var 57)), (.int .i64 (.var 58)), (.int .i64 (.var 59)), (.int .i64 (.var 60)), (.int .i64 (.var 61)), (.int .i64 (.var 62)), (.int .i64 (.var 63)), (.int .i64 (.var 64)), (.int .i64 (.var 65)), (.int .i64 (.var 66)), (.int .i64 (.var 67)), (.int .i64 (.var 68)), (.int .i64 (.var 69)), (.int .i64 (.var 70)), (.int .i64 (.var 71)), (.int .i64 (.var 72)), (.int .i64 (.var 73)), (.int .i64 (.var 74)), (.int .i64 (.var 75)), (.int .i64 (.var 76)), (.int .i64 (.var 77)), (.int .i64 (.var 78)), (.int .i64 (.var 79)), (.int .i64 (.var 80)), (.int .i64 (.var 81)), (.int .i64 (.var 82)), (.int .i64 (.var 83)), (.int .i64 (.var 84)), (.int .i64 (.var 85)), (.int .i64 (.var 86)), (.int .i64 (.var 87)), (.int .i64 (.var 88)), (.int .i64 (.var 89)), (.int .i64 (.var 90)), (.int .i64 (.var 91)), (.int .i64 (.var 92)), (.int .i64 (.var 93)), (.int .i64 (.var 94))]) []))
      (.again 1 [(.int .i64 (.op .add .i64 (.var 18) (.lit 1)))])))))
     (.need (.tt true) [(.cmp .geq (.var 15) (.lit 0)), (.cmp .lss (.var 15) (.len 0))] 
     (.load (.tt true) (.fld (.idx (.var 0) (.var 15) 5) 1) [.int .u8, .int .i64, .int .i64, .int .i64] 
     (.call 41 [(.ptr (.var 9)), (.agg [(.int .u8 (.var 19)), (.int .i64 (.var 20)), (.int .i64 (.var 21)), (.int .i64 (.var 22))])] [] [] [] [(false, [.int .i64]), (false, [.bool])] 
     (.again 0 [(.int .i64 (.var 23)), (.bool (.var 24))]))))))))
   (.load (.tt true) (.fld (.var 9) 0) [.int .i64, .int .i64, .sl, .int .i64, .int .i64, .int .i64, .int .i64, .int .i64, .int .i64, .int .i64, .int .i64, .int .i64, .int .i64, .int .i64, .int .i64, .int .i64, .int .i64, .int .i64, .int .i64, .int .i64, .int .i64, .int .i64, .int .i64, .int .i64, .int .i64, .int .i64, .int .i64, .int .i64, .int .i64, .int .i64, .int .i64, .int .i64, .int .i64, .int .i64, .int .i64, .int .i64, .int .i64, .int .i64, .int .i64, .int .i64, .int .i64, .int .i64, .int .i64, .int .i64, .int .i64, .int .i64, .int .i64, .int .i64, .int .i64, .int .i64, .int .i64, .int .i64, .int .i64, .int .i64, .int .i64, .int .i64, .int .i64, .int .i64, .int .i64, .int .i64, .int .i64, .int .i64, .int .i64, .int .i64, .int .i64, .int .i64, .int .i64, .int .i64] 
   (.done (.agg [(.int .i64 (.var 17)), (.int .i64 (.var 18)), (.val 19), (.int .i64 (.var 20)), (.int .i64 (.var 21)), (.int .i64 (.var 22)), (.int .i64 (.var 23)), (.int .i64 (.var 24)), (.int .i64 (.var 25)), (.int .i64 (.var 26)), (.int .i64 (.var 27)), (.int .i64 (.var 28)), (.int .i64 (.var 29)), (.int .i64 (.var 30)), (.int .i64 (.var 31)), (.int .i64 (.var 32)), (.int .i64 (.var 33)), (.int .i64 (.var 34)), (.int .i64 (.var 35)), (.int .i64 (.var 36)), (.int .i64 (.var 37)), (.int .i64 (.var 38)), (.int .i64 (.var 39)), (.int .i64 (.var 40)), (.int .i64 (.var 41)), (.int .i64 (.var 42)), (.int .i64 (.var 43)), (.int .i64 (.var 44)), (.int .i64 (.var 45)), (.int .i64 (.var 46)), (.int .i64 (.var 47)), (.int .i64 (.var 48)), (.int .i64 (.var 49)), (.int .i64 (.var 50)), (.int .i64 (.var 51)), (.int .i64 (.var 52)), (.int .i64 (.var 53)), (.int .i64 (.var 54)), (.int .i64 (.var 55)), (.int .i64 (.var 56)), (.int .i64 (.var 57)), (.int .i64 (.var 58)), (.int .i64 (.var 59)), (.int .i64 (.var 60)), (.int .i64 (.var 61)), (.int .i64 (.var 62)), (.int .i64 (.var 63)), (.int .i64 (.var 64)), (.int .i64 (.var 65)), (.int .i64 (.var 66)), (.int .i64 (.var 67)), (.int .i64 (.var 68)), (.int .i64 (.var 69)), (.int .i64 (.var 70)), (.int .i64 (.var 71)), (.int .i64 (.var 72)), (.int .i64 (.var 73)), (.int .i64 (.var 74)), (.int .i64 (.var 75)), (.int .i64 (.var 76)), (.int .i64 (.var 77)), (.int .i64 (.var 78)), (.int .i64 (.var 79)), (.int .i64 (.var 80)), (.int .i64 (.var 81)), (.int .i64 (.var 82)), (.int .i64 (.var 83)), (.int .i64 (.var 84))]) []))))))))))))))
def l27 : List (Nat × List Nat × List (Nat × Nat) × List Nat) := [(6, [12, 13], [], [48, 49, 50, 51, 52, 53, 54, 55, 56, 57, 58, 15, 59, 60, 61, 62, 63, 64, 65, 66, 67, 69, 70, 71, 72, 73, 74, 75, 68, 76, 77]), (8, [55], [], [56, 57, 58, 15, 59, 60, 61, 62, 63, 64, 65, 66, 67])]
theorem e27 : ev Try.prog ⟨allF, [24], l27⟩ (bodyOf Try.f27) 0 (initSt [(.val 0), (.int .i64 (.var 1)), (.int .i64 (.var 2)), (.int .i64 (.var 3)), (.agg [(.val 4), (.val 5), (.val 6), (.int .i64 (.var 7))])] [] Try.f27.ntmps [.sl, .int .i64, .int .i64, .int .i64, .sl, .sl, .sl, .int .i64]) (finK Try.prog Try.f27.results []) = t27 := by kernel_rfl
theorem c27 {G : List Value} {h : H} {R : Value → List (List Value) → H → Prop} (hG : FitsL [.sl, .int .i64, .int .i64, .int .i64, .sl, .sl, .sl, .int .i64] G) (H : holds Try.prog R t27 G [] h) : CallsA Try.prog 27 (fun e => SV.denL G (fun k => e (k - 1000000)) [(.val 0), (.int .i64 (.var 1)), (.int .i64 (.var 2)), (.int .i64 (.var 3)), (.agg [(.val 4), (.val 5), (.val 6), (.int .i64 (.var 7))])]) ([].map (SV.denL G dE)) h R :=
  CallsA.of_ev (cf := ⟨allF, [24], l27⟩) (fn := Try.f27) (c := bodyOf Try.f27) (pcs := []) Try.func27 (by rfl) callOK (by rfl) hG (by rfl) (by rw [show ([] : List (List SV)).map List.length = [] from rfl, e27]; exact H)
/-- What is left of outworker/outworkerlaw07.Awake. -/
def t29 : Out :=
 (.alloc 71 [(.int .u8 (.lit 8)), (.int .u8 (.lit 0)), (.int .i64 (.lit 2)), (.int .i64 (.lit 0)), (.int .i64 (.lit 0)), (.int .i64 (.lit 0)), (.cst (.slice none 0 0)), (.int .u8 (.lit 3)), (.int .u8 (.lit 3)), (.int .i64 (.lit 1)), (.int .i64 (.lit 2)), (.int .i64 (.lit 2)), (.int .i64 (.lit 0)), (.cst (.slice none 0 0))] (.lsl 2) 
 (.alloc 66 [(.val 0), (.int .u8 (.lit 3)), (.int .i64 (.lit 1)), (.int .i64 (.lit 0)), (.int .i64 (.lit 0))] (.lsl 1) 
 (.alloc 2 [(.int .i64 (.lit 5))] (.lsl 1) 
 (.call 30 [(.agg [(.int .i64 (.lit 1)), (.int .i64 (.lit 3)), (.int .i64 (.lit 1)), (.val 1)]), (.agg [(.val 2), (.cst (.slice none 0 0)), (.cst (.slice none 0 0)), (.int .i64 (.lit 9))])] [] [] [] [(true, [.int .i64, .int .i64, .sl, .int .i64, .int .i64, .int .i64, .int .i64, .int .i64, .int .i64, .int .i64, .int .i64, .int .i64, .int .i64, .int .i64, .int .i64, .int .i64, .int .i64, .int .i64, .int .i64, .int .i64, .int .i64, .int .i64, .int .i64, .int .i64, .int .i64, .int .i64, .int .i64, .int .i64, .int .i64, .int .i64, .int .i64, .int .i64, .int .i64, .int .i64, .int .i64, .int .i64, .int .i64, .int .i64, .int .i64, .int .i64, .int .i64, .int .i64, .int .i64, .int .i64, .int .i64, .int .i64, .int .i64, .int .i64, .int .i64, .int .i64, .int .i64, .int .i64, .int .i64, .int .i64, .int .i64, .int .i64, .int .i64, .int .i64, .int .i64, .int .i64, .int .i64, .int .i64, .int .i64, .int .i64, .int .i64, .int .i64, .int .i64, .int .i64]), (false, [.int .i64])] 
 (.done (.bool (.ite (.ite (.ite (.cmp .eql (.var 71) (.lit 0)) (.cmp .eql (.var 3) (.lit 1)) (.tt false)) (.cmp .eql (.var 4) (.lit 25)) (.tt false)) (.cmp .eql (.var 70) (.lit 7)) (.tt false))) [])))))
def l29 : List (Nat × List Nat × List (Nat × Nat) × List Nat) := []
theorem e29 : ev Try.prog ⟨allF, [6, 9, 13], l29⟩ (bodyOf Try.f29) 0 (initSt [] [] Try.f29.ntmps []) (finK Try.prog Try.f29.results []) = t29 := by kernel_rfl
theorem c29 {G : List Value} {h : H} {R : Value → List (List Value) → H → Prop} (hG : FitsL [] G) (H : holds Try.prog R t29 G [] h) : CallsA Try.prog 29 (fun e => SV.denL G (fun k => e (k - 1000000)) []) ([].map (SV.denL G dE)) h R :=
  CallsA.of_ev (cf := ⟨allF, [6, 9, 13], l29⟩) (fn := Try.f29) (c := bodyOf Try.f29) (pcs := []) Try.func29 (by rfl) callOK (by rfl) hG (by rfl) (by rw [show ([] : List (List SV)).map List.length = [] from rfl, e29]; exact H)
/-- What is left of outworker/exec.Exec. -/
def t30 : Out :=
 (.call 42 [(.agg [(.int .i64 (.var 0)), (.int .i64 (.var 1)), (.int .i64 (.var 2)), (.val 3)])] [] [] [] [(true, [.int .i64, .int .i64, .int .i64])] 
 (.ite (.cmp .neq (.var 8) (.lit 0))
  (.done (.tup [(.agg [(.int .i64 (.lit 0)), (.int .i64 (.lit 0)), (.cst (.slice none 0 0)), (.int .i64 (.lit 0)), (.int .i64 (.lit 0)), (.int .i64 (.lit 0)), (.int .i64 (.lit 0)), (.int .i64 (.lit 0)), (.int .i64 (.lit 0)), (.int .i64 (.lit 0)), (.int .i64 (.lit 0)), (.int .i64 (.lit 0)), (.int .i64 (.lit 0)), (.int .i64 (.lit 0)), (.int .i64 (.lit 0)), (.int .i64 (.lit 0)), (.int .i64 (.lit 0)), (.int .i64 (.lit 0)), (.int .i64 (.lit 0)), (.int .i64 (.lit 0)), (.int .i64 (.lit 0)), (.int .i64 (.lit 0)), (.int .i64 (.lit 0)), (.int .i64 (.lit 0)), (.int .i64 (.lit 0)), (.int .i64 (.lit 0)), (.int .i64 (.lit 0)), (.int .i64 (.lit 0)), (.int .i64 (.lit 0)), (.int .i64 (.lit 0)), (.int .i64 (.lit 0)), (.int .i64 (.lit 0)), (.int .i64 (.lit 0)), (.int .i64 (.lit 0)), (.int .i64 (.lit 0)), (.int .i64 (.lit 0)), (.int .i64 (.lit 0)), (.int .i64 (.lit 0)), (.int .i64 (.lit 0)), (.int .i64 (.lit 0)), (.int .i64 (.lit 0)), (.int .i64 (.lit 0)), (.int .i64 (.lit 0)), (.int .i64 (.lit 0)), (.int .i64 (.lit 0)), (.int .i64 (.lit 0)), (.int .i64 (.lit 0)), (.int .i64 (.lit 0)), (.int .i64 (.lit 0)), (.int .i64 (.lit 0)), (.int .i64 (.lit 0)), (.int .i64 (.lit 0)), (.int .i64 (.lit 0)), (.int .i64 (.lit 0)), (.int .i64 (.lit 0)), (.int .i64 (.lit 0)), (.int .i64 (.lit 0)), (.int .i64 (.lit 0)), (.int .i64 (.lit 0)), (.int .i64 (.lit 0)), (.int .i64 (.lit 0)), (.int .i64 (.lit 0)), (.int .i64 (.lit 0)), (.int .i64 (.lit 0)), (.int .i64 (.lit 0)), (.int .i64 (.lit 0)), (.int .i64 (.lit 0)), (.int .i64 (.lit 0))]), (.int .i64 (.lit 30))]) [])
  (.call 23 [(.int .i64 (.var 0)), (.agg [(.val 4), (.val 5), (.val 6), (.int .i64 (.var 7))])] [] [] [] [(false, [.int .i64])] 
  (.ite (.cmp .neq (.var 11) (.lit 0))
   (.done (.tup [(.agg [(.int .i64 (.lit 0)), (.int .i64 (.lit 0)), (.cst (.slice none 0 0)), (.int .i64 (.lit 0)), (.int .i64 (.lit 0)), (.int .i64 (.lit 0)), (.int .i64 (.lit 0)), (.int .i64 (.lit 0)), (.int .i64 (.lit 0)), (.int .i64 (.lit 0)), (.int .i64 (.lit 0)), (.int .i64 (.lit 0)), (.int .i64 (.lit 0)), (.int .i64 (.lit 0)), (.int .i64 (.lit 0)), (.int .i64 (.lit 0)), (.int .i64 (.lit 0)), (.int .i64 (.lit 0)), (.int .i64 (.lit 0)), (.int .i64 (.lit 0)), (.int .i64 (.lit 0)), (.int .i64 (.lit 0)), (.int .i64 (.lit 0)), (.int .i64 (.lit 0)), (.int .i64 (.lit 0)), (.int .i64 (.lit 0)), (.int .i64 (.lit 0)), (.int .i64 (.lit 0)), (.int .i64 (.lit 0)), (.int .i64 (.lit 0)), (.int .i64 (.lit 0)), (.int .i64 (.lit 0)), (.int .i64 (.lit 0)), (.int .i64 (.lit 0)), (.int .i64 (.lit 0)), (.int .i64 (.lit 0)), (.int .i64 (.lit 0)), (.int .i64 (.lit 0)), (.int .i64 (.lit 0)), (.int .i64 (.lit 0)), (.int .i64 (.lit 0)), (.int .i64 (.lit 0)), (.int .i64 (.lit 0)), (.int .i64 (.lit 0)), (.int .i64 (.lit 0)), (.int .i64 (.lit 0)), (.int .i64 (.lit 0)), (.int .i64 (.lit 0)), (.int .i64 (.lit 0)), (.int .i64 (.lit 0)), (.int .i64 (.lit 0)), (.int .i64 (.lit 0)), (.int .i64 (.lit 0)), (.int .i64 (.lit 0)), (.int .i64 (.lit 0)), (.int .i64 (.lit 0)), (.int .i64 (.lit 0)), (.int .i64 (.lit 0)), (.int .i64 (.lit 0)), (.int .i64 (.lit 0)), (.int .i64 (.lit 0)), (.int .i64 (.lit 0)), (.int .i64 (.lit 0)), (.int .i64 (.lit 0)), (.int .i64 (.lit 0)), (.int .i64 (.lit 0)), (.int .i64 (.lit 0)), (.int .i64 (.lit 0))]), (.int .i64 (.var 11))]) [])
   (.call 27 [(.val 3), (.int .i64 (.var 1)), (.int .i64 (.var 2)), (.int .i64 (.var 1)), (.agg [(.val 4), (.val 5), (.val 6), (.int .i64 (.var 7))])] [] [] [] [(true, [.int .i64, .int .i64, .sl, .int .i64, .int .i64, .int .i64, .int .i64, .int .i64, .int .i64, .int .i64, .int .i64, .int .i64, .int .i64, .int .i64, .int .i64, .int .i64, .int .i64, .int .i64, .int .i64, .int .i64, .int .i64, .int .i64, .int .i64, .int .i64, .int .i64, .int .i64, .int .i64, .int .i64, .int .i64, .int .i64, .int .i64, .int .i64, .int .i64, .int .i64, .int .i64, .int .i64, .int .i64, .int .i64, .int .i64, .int .i64, .int .i64, .int .i64, .int .i64, .int .i64, .int .i64, .int .i64, .int .i64, .int .i64, .int .i64, .int .i64, .int .i64, .int .i64, .int .i64, .int .i64, .int .i64, .int .i64, .int .i64, .int .i64, .int .i64, .int .i64, .int .i64, .int .i64, .int .i64, .int .i64, .int .i64, .int .i64, .int .i64, .int .i64])] 
   (.done (.tup [(.agg [(.int .i64 (.var 12)), (.int .i64 (.var 13)), (.val 14), (.int .i64 (.var 15)), (.int .i64 (.var 16)), (.int .i64 (.var 17)), (.int .i64 (.var 18)), (.int .i64 (.var 19)), (.int .i64 (.var 20)), (.int .i64 (.var 21)), (.int .i64 (.var 22)), (.int .i64 (.var 23)), (.int .i64 (.var 24)), (.int .i64 (.var 25)), (.int .i64 (.var 26)), (.int .i64 (.var 27)), (.int .i64 (.var 28)), (.int .i64 (.var 29)), (.int .i64 (.var 30)), (.int .i64 (.var 31)), (.int .i64 (.var 32)), (.int .i64 (.var 33)), (.int .i64 (.var 34)), (.int .i64 (.var 35)), (.int .i64 (.var 36)), (.int .i64 (.var 37)), (.int .i64 (.var 38)), (.int .i64 (.var 39)), (.int .i64 (.var 40)), (.int .i64 (.var 41)), (.int .i64 (.var 42)), (.int .i64 (.var 43)), (.int .i64 (.var 44)), (.int .i64 (.var 45)), (.int .i64 (.var 46)), (.int .i64 (.var 47)), (.int .i64 (.var 48)), (.int .i64 (.var 49)), (.int .i64 (.var 50)), (.int .i64 (.var 51)), (.int .i64 (.var 52)), (.int .i64 (.var 53)), (.int .i64 (.var 54)), (.int .i64 (.var 55)), (.int .i64 (.var 56)), (.int .i64 (.var 57)), (.int .i64 (.var 58)), (.int .i64 (.var 59)), (.int .i64 (.var 60)), (.int .i64 (.var 61)), (.int .i64 (.var 62)), (.int .i64 (.var 63)), (.int .i64 (.var 64)), (.int .i64 (.var 65)), (.int .i64 (.var 66)), (.int .i64 (.var 67)), (.int .i64 (.var 68)), (.int .i64 (.var 69)), (.int .i64 (.var 70)), (.int .i64 (.var 71)), (.int .i64 (.var 72)), (.int .i64 (.var 73)), (.int .i64 (.var 74)), (.int .i64 (.var 75)), (.int .i64 (.var 76)), (.int .i64 (.var 77)), (.int .i64 (.var 78)), (.int .i64 (.var 79))]), (.int .i64 (.lit 0))]) []))))))
def l30 : List (Nat × List Nat × List (Nat × Nat) × List Nat) := []
theorem e30 : ev Try.prog ⟨allF, [], l30⟩ (bodyOf Try.f30) 0 (initSt [(.agg [(.int .i64 (.var 0)), (.int .i64 (.var 1)), (.int .i64 (.var 2)), (.val 3)]), (.agg [(.val 4), (.val 5), (.val 6), (.int .i64 (.var 7))])] [] Try.f30.ntmps [.int .i64, .int .i64, .int .i64, .sl, .sl, .sl, .sl, .int .i64]) (finK Try.prog Try.f30.results []) = t30 := by kernel_rfl
theorem c30 {G : List Value} {h : H} {R : Value → List (List Value) → H → Prop} (hG : FitsL [.int .i64, .int .i64, .int .i64, .sl, .sl, .sl, .sl, .int .i64] G) (H : holds Try.prog R t30 G [] h) : CallsA Try.prog 30 (fun e => SV.denL G (fun k => e (k - 1000000)) [(.agg [(.int .i64 (.var 0)), (.int .i64 (.var 1)), (.int .i64 (.var 2)), (.val 3)]), (.agg [(.val 4), (.val 5), (.val 6), (.int .i64 (.var 7))])]) ([].map (SV.denL G dE)) h R :=
  CallsA.of_ev (cf := ⟨allF, [], l30⟩) (fn := Try.f30) (c := bodyOf Try.f30) (pcs := []) Try.func30 (by rfl) callOK (by rfl) hG (by rfl) (by rw [show ([] : List (List SV)).map List.length = [] from rfl, e30]; exact H)
/-- What is left of outworker/outworkerlaw04.Turn. -/
def t31 : Out :=
 (.ite (.cmp .eql (.len 0) (.lit 0))
  (.done (.tup []) [])
  (.need (.tt true) [(.cmp .neq (.len 0) (.lit 0))] 
  (.need (.tt true) [(.cmp .geq (.op .rem .i64 (.conv .i64 (.var 1)) (.len 0)) (.lit 0)), (.cmp .lss (.op .rem .i64 (.conv .i64 (.var 1)) (.len 0)) (.len 0))] 
  (.load (.tt true) (.fld (.idx (.var 0) (.op .rem .i64 (.conv .i64 (.var 1)) (.len 0)) 5) 0) [.sl] 
  (.need (.tt true) [(.cmp .neq (.op .add .i64 (.len 5) (.lit 1)) (.lit 0))] 
  (.load (.tt true) (.fld (.idx (.var 0) (.op .rem .i64 (.conv .i64 (.var 1)) (.len 0)) 5) 0) [.sl] 
  (.ite (.cmp .eql (.op .rem .i64 (.conv .i64 (.var 2)) (.op .add .i64 (.len 5) (.lit 1))) (.len 6))
   (.ite (.cmp .eql (.op .rem .u8 (.var 3) (.lit 4)) (.lit 0))
    (.store (.fld (.fld (.idx (.var 0) (.op .rem .i64 (.conv .i64 (.var 1)) (.len 0)) 5) 1) 0) [(.int .u8 (.conv .u8 (.var 4)))] 
    (.done (.tup []) []))
    (.ite (.cmp .eql (.op .rem .u8 (.var 3) (.lit 4)) (.lit 1))
     (.store (.fld (.fld (.idx (.var 0) (.op .rem .i64 (.conv .i64 (.var 1)) (.len 0)) 5) 1) 1) [(.int .i64 (.var 4))] 
     (.done (.tup []) []))
     (.ite (.cmp .eql (.op .rem .u8 (.var 3) (.lit 4)) (.lit 2))
      (.store (.fld (.fld (.idx (.var 0) (.op .rem .i64 (.conv .i64 (.var 1)) (.len 0)) 5) 1) 2) [(.int .i64 (.var 4))] 
      (.done (.tup []) []))
      (.store (.fld (.fld (.idx (.var 0) (.op .rem .i64 (.conv .i64 (.var 1)) (.len 0)) 5) 1) 3) [(.int .i64 (.var 4))] 
      (.done (.tup []) [])))))
   (.load (.tt true) (.fld (.idx (.var 0) (.op .rem .i64 (.conv .i64 (.var 1)) (.len 0)) 5) 0) [.sl] 
   (.need (.tt true) [(.cmp .geq (.op .rem .i64 (.conv .i64 (.var 2)) (.op .add .i64 (.len 5) (.lit 1))) (.lit 0)), (.cmp .lss (.op .rem .i64 (.conv .i64 (.var 2)) (.op .add .i64 (.len 5) (.lit 1))) (.len 7))] 
   (.ite (.cmp .eql (.op .rem .u8 (.var 3) (.lit 8)) (.lit 0))
    (.store (.fld (.idx (.var 7) (.op .rem .i64 (.conv .i64 (.var 2)) (.op .add .i64 (.len 5) (.lit 1))) 7) 0) [(.int .u8 (.conv .u8 (.var 4)))] 
    (.done (.tup []) []))
    (.ite (.cmp .eql (.op .rem .u8 (.var 3) (.lit 8)) (.lit 1))
     (.store (.fld (.idx (.var 7) (.op .rem .i64 (.conv .i64 (.var 2)) (.op .add .i64 (.len 5) (.lit 1))) 7) 1) [(.int .u8 (.conv .u8 (.var 4)))] 
     (.done (.tup []) []))
     (.ite (.cmp .eql (.op .rem .u8 (.var 3) (.lit 8)) (.lit 2))
      (.store (.fld (.idx (.var 7) (.op .rem .i64 (.conv .i64 (.var 2)) (.op .add .i64 (.len 5) (.lit 1))) 7) 2) [(.int .i64 (.var 4))] 
      (.done (.tup []) []))
      (.ite (.cmp .eql (.op .rem .u8 (.var 3) (.lit 8)) (.lit 3))
       (.store (.fld (.idx (.var 7) (.op .rem .i64 (.conv .i64 (.var 2)) (.op .add .i64 (.len 5) (.lit 1))) 7) 3) [(.int .i64 (.var 4))] 
       (.done (.tup []) []))
       (.ite (.cmp .eql (.op .rem .u8 (.var 3) (.lit 8)) (.lit 4))
        (.store (.fld (.idx (.var 7) (.op .rem .i64 (.conv .i64 (.var 2)) (.op .add .i64 (.len 5) (.lit 1))) 7) 4) [(.int .i64 (.var 4))] 
        (.done (.tup []) []))
        (.ite (.cmp .eql (.op .rem .u8 (.var 3) (.lit 8)) (.lit 5))
         (.store (.fld (.idx (.var 7) (.op .rem .i64 (.conv .i64 (.var 2)) (.op .add .i64 (.len 5) (.lit 1))) 7) 5) [(.int .i64 (.var 4))] 
         (.done (.tup []) []))
         (.ite (.cmp .eql (.op .rem .u8 (.var 3) (.lit 8)) (.lit 6))
          (.load (.tt true) (.fld (.idx (.var 7) (.op .rem .i64 (.conv .i64 (.var 2)) (.op .add .i64 (.len 5) (.lit 1))) 7) 6) [.sl] 
          (.app 3 1 8 (.val 8) (.cells [(.int .i64 (.var 4))] 1) 
          (.store (.fld (.idx (.var 7) (.op .rem .i64 (.conv .i64 (.var 2)) (.op .add .i64 (.len 5) (.lit 1))) 7) 6) [(.val 9)] 
          (.done (.tup []) []))))
          (.load (.tt true) (.fld (.idx (.var 7) (.op .rem .i64 (.conv .i64 (.var 2)) (.op .add .i64 (.len 5) (.lit 1))) 7) 6) [.sl] 
          (.ite (.cmp .gtr (.len 8) (.lit 0))
           (.load (.tt true) (.fld (.idx (.var 7) (.op .rem .i64 (.conv .i64 (.var 2)) (.op .add .i64 (.len 5) (.lit 1))) 7) 6) [.sl] 
           (.need (.tt true) [(.tt true), (.cmp .lss (.lit 0) (.len 9))] 
           (.store (.idx (.var 9) (.lit 0) 1) [(.int .i64 (.var 4))] 
           (.done (.tup []) []))))
           (.done (.tup []) [])))))))))))))))))))
def l31 : List (Nat × List Nat × List (Nat × Nat) × List Nat) := []
theorem e31 : ev Try.prog ⟨allF, [], l31⟩ (bodyOf Try.f31) 0 (initSt [(.val 0), (.int .u8 (.var 1)), (.int .u8 (.var 2)), (.int .u8 (.var 3)), (.int .i64 (.var 4))] [] Try.f31.ntmps [.sl, .int .u8, .int .u8, .int .u8, .int .i64]) (finK Try.prog Try.f31.results []) = t31 := by kernel_rfl
theorem c31 {G : List Value} {h : H} {R : Value → List (List Value) → H → Prop} (hG : FitsL [.sl, .int .u8, .int .u8, .int .u8, .int .i64] G) (H : holds Try.prog R t31 G [] h) : CallsA Try.prog 31 (fun e => SV.denL G (fun k => e (k - 1000000)) [(.val 0), (.int .u8 (.var 1)), (.int .u8 (.var 2)), (.int .u8 (.var 3)), (.int .i64 (.var 4))]) ([].map (SV.denL G dE)) h R :=
  CallsA.of_ev (cf := ⟨allF, [], l31⟩) (fn := Try.f31) (c := bodyOf Try.f31) (pcs := []) Try.func31 (by rfl) callOK (by rfl) hG (by rfl) (by rw [show ([] : List (List SV)).map List.length = [] from rfl, e31]; exact H)
/-- What is left of outworker/outworkerref04.Code. -/
def t32 : Out :=
 (.ite (.ite (.ite (.ite (.ite (.ite (.ite (.ite (.cmp .lss (.var 0) (.lit 0)) (.tt true) (.cmp .gtr (.var 0) (.lit 4))) (.tt true) (.cmp .lss (.var 1) (.lit 3))) (.tt true) (.cmp .gtr (.var 1) (.lit 8))) (.tt true) (.cmp .lss (.var 2) (.var 0))) (.tt true) (.cmp .gtr (.var 2) (.lit 64))) (.tt true) (.cmp .eql (.len 3) (.lit 0))) (.tt true) (.cmp .gtr (.len 3) (.lit 16)))
  (.done (.agg [(.int .i64 (.lit 2)), (.int .i64 (.lit (-1))), (.int .i64 (.lit (-1)))]) [])
  (.call 38 [(.val 3), (.int .i64 (.var 1)), (.int .i64 (.var 2)), (.int .i64 (.lit 400))] [] [] [] [(true, [.int .i64, .int .i64, .int .i64])] 
  (.done (.agg [(.int .i64 (.var 4)), (.int .i64 (.var 5)), (.int .i64 (.var 6))]) [])))
def l32 : List (Nat × List Nat × List (Nat × Nat) × List Nat) := []
theorem e32 : ev Try.prog ⟨allF, [], l32⟩ (bodyOf Try.f32) 0 (initSt [(.agg [(.int .i64 (.var 0)), (.int .i64 (.var 1)), (.int .i64 (.var 2)), (.val 3)])] [] Try.f32.ntmps [.int .i64, .int .i64, .int .i64, .sl]) (finK Try.prog Try.f32.results []) = t32 := by kernel_rfl
theorem c32 {G : List Value} {h : H} {R : Value → List (List Value) → H → Prop} (hG : FitsL [.int .i64, .int .i64, .int .i64, .sl] G) (H : holds Try.prog R t32 G [] h) : CallsA Try.prog 32 (fun e => SV.denL G (fun k => e (k - 1000000)) [(.agg [(.int .i64 (.var 0)), (.int .i64 (.var 1)), (.int .i64 (.var 2)), (.val 3)])]) ([].map (SV.denL G dE)) h R :=
  CallsA.of_ev (cf := ⟨allF, [], l32⟩) (fn := Try.f32) (c := bodyOf Try.f32) (pcs := []) Try.func32 (by rfl) callOK (by rfl) hG (by rfl) (by rw [show ([] : List (List SV)).map List.length = [] from rfl, e32]; exact H)
/-- What is left of outworker/ir.Check. -/
def t35 : Out :=
 (.ite (.ite (.ite (.ite (.ite (.ite (.cmp .lss (.var 0) (.lit 0)) (.tt true) (.cmp .gtr (.var 0) (.lit 4))) (.tt true) (.cmp .lss (.var 1) (.var 0))) (.tt true) (.cmp .gtr (.var 1) (.lit 32))) (.tt true) (.cmp .lss (.len 2) (.lit 1))) (.tt true) (.cmp .gtr (.len 2) (.lit 16)))
  (.done (.agg [(.int .i64 (.lit 2)), (.int .i64 (.lit (-1))), (.int .i64 (.lit (-1)))]) [])
  (.loop 0 [(.int .i64 (.lit 0))] [.int .i64] 
   (.ite (.cmp .lss (.var 3) (.len 2))
    (.need (.tt true) [(.cmp .geq (.var 3) (.lit 0)), (.cmp .lss (.var 3) (.len 2))] 
    (.load (.tt true) (.idx (.var 2) (.var 3) 5) [.sl, .int .u8, .int .i64, .int .i64, .int .i64] 
    (.ite (.cmp .gtr (.len 4) (.lit 32))
     (.done (.agg [(.int .i64 (.lit 9)), (.int .i64 (.var 3)), (.int .i64 (.lit (-1)))]) [])
     (.loop 1 [(.int .i64 (.lit 0))] [.int .i64] 
      (.ite (.cmp .lss (.var 9) (.len 4))
       (.need (.tt true) [(.cmp .geq (.var 9) (.lit 0)), (.cmp .lss (.var 9) (.len 4))] 
       (.load (.tt true) (.idx (.var 4) (.var 9) 7) [.int .u8, .int .u8, .int .i64, .int .i64, .int .i64, .int .i64, .sl] 
       (.call 43 [(.agg [(.int .u8 (.var 10)), (.int .u8 (.var 11)), (.int .i64 (.var 12)), (.int .i64 (.var 13)), (.int .i64 (.var 14)), (.int .i64 (.var 15)), (.val 16)]), (.int .i64 (.var 1))] [] [] [] [(false, [.int .i64])] 
       (.ite (.cmp .neq (.var 17) (.lit 0))
        (.done (.agg [(.int .i64 (.var 17)), (.int .i64 (.var 3)), (.int .i64 (.var 9))]) [])
        (.again 1 [(.int .i64 (.op .add .i64 (.var 9) (.lit 1)))])))))
       (.call 44 [(.agg [(.int .u8 (.var 5)), (.int .i64 (.var 6)), (.int .i64 (.var 7)), (.int .i64 (.var 8))]), (.int .i64 (.var 1)), (.int .i64 (.len 2))] [] [] [] [(false, [.int .i64])] 
       (.ite (.cmp .neq (.var 10) (.lit 0))
        (.done (.agg [(.int .i64 (.var 10)), (.int .i64 (.var 3)), (.int .i64 (.len 4))]) [])
        (.again 0 [(.int .i64 (.op .add .i64 (.var 3) (.lit 1)))]))))))))
    (.done (.agg [(.int .i64 (.lit 0)), (.int .i64 (.lit 0)), (.int .i64 (.lit 0))]) []))))
def l35 : List (Nat × List Nat × List (Nat × Nat) × List Nat) := [(4, [45], [], [46, 47, 48, 49, 4, 3, 50, 51, 52, 53, 54, 55, 56, 57, 58, 59, 60, 61, 62, 63, 6, 5, 64, 65, 66, 67, 7, 68, 69, 70, 71, 72, 73, 74, 75, 76, 77, 78, 79, 80, 81, 82, 8, 83, 84, 85, 86, 87, 88, 89, 90, 91]), (9, [59], [], [60, 61, 62, 63, 6, 5, 64, 65, 66, 67, 7, 68, 69, 70, 71, 72, 73, 74])]
theorem e35 : ev Try.prog ⟨allF, [], l35⟩ (bodyOf Try.f35) 0 (initSt [(.agg [(.int .i64 (.var 0)), (.int .i64 (.var 1)), (.val 2)])] [] Try.f35.ntmps [.int .i64, .int .i64, .sl]) (finK Try.prog Try.f35.results []) = t35 := by kernel_rfl
theorem c35 {G : List Value} {h : H} {R : Value → List (List Value) → H → Prop} (hG : FitsL [.int .i64, .int .i64, .sl] G) (H : holds Try.prog R t35 G [] h) : CallsA Try.prog 35 (fun e => SV.denL G (fun k => e (k - 1000000)) [(.agg [(.int .i64 (.var 0)), (.int .i64 (.var 1)), (.val 2)])]) ([].map (SV.denL G dE)) h R :=
  CallsA.of_ev (cf := ⟨allF, [], l35⟩) (fn := Try.f35) (c := bodyOf Try.f35) (pcs := []) Try.func35 (by rfl) callOK (by rfl) hG (by rfl) (by rw [show ([] : List (List SV)).map List.length = [] from rfl, e35]; exact H)
/-- What is left of outworker/outworkerref04.bin. -/
def t36 : Out :=
 (.ite (.cmp .eql (.var 0) (.lit 1))
  (.done (.int .i64 (.op .add .i64 (.var 1) (.var 2))) [])
  (.ite (.cmp .eql (.var 0) (.lit 2))
   (.done (.int .i64 (.op .sub .i64 (.var 1) (.var 2))) [])
   (.ite (.cmp .eql (.var 0) (.lit 3))
    (.done (.int .i64 (.op .mul .i64 (.var 1) (.var 2))) [])
    (.ite (.cmp .eql (.var 0) (.lit 4))
     (.done (.int .i64 (.op .and .i64 (.var 1) (.var 2))) [])
     (.ite (.cmp .eql (.var 0) (.lit 5))
      (.done (.int .i64 (.op .xor .i64 (.var 1) (.var 2))) [])
      (.ite (.cmp .eql (.var 0) (.lit 6))
       (.ite (.cmp .lss (.var 1) (.var 2))
        (.done (.int .i64 (.lit 1)) [])
        (.done (.int .i64 (.lit 0)) []))
       (.ite (.cmp .eql (.var 2) (.lit (-1)))
        (.done (.int .i64 (.op .sub .i64 (.lit 0) (.var 1))) [])
        (.need (.tt true) [(.cmp .neq (.var 2) (.lit 0))] 
        (.done (.int .i64 (.op .quo .i64 (.var 1) (.var 2))) [])))))))))
def l36 : List (Nat × List Nat × List (Nat × Nat) × List Nat) := []
theorem e36 : ev Try.prog ⟨allF, [], l36⟩ (bodyOf Try.f36) 0 (initSt [(.int .u8 (.var 0)), (.int .i64 (.var 1)), (.int .i64 (.var 2))] [] Try.f36.ntmps [.int .u8, .int .i64, .int .i64]) (finK Try.prog Try.f36.results []) = t36 := by kernel_rfl
theorem c36 {G : List Value} {h : H} {R : Value → List (List Value) → H → Prop} (hG : FitsL [.int .u8, .int .i64, .int .i64] G) (H : holds Try.prog R t36 G [] h) : CallsA Try.prog 36 (fun e => SV.denL G (fun k => e (k - 1000000)) [(.int .u8 (.var 0)), (.int .i64 (.var 1)), (.int .i64 (.var 2))]) ([].map (SV.denL G dE)) h R :=
  CallsA.of_ev (cf := ⟨allF, [], l36⟩) (fn := Try.f36) (c := bodyOf Try.f36) (pcs := []) Try.func36 (by rfl) callOK (by rfl) hG (by rfl) (by rw [show ([] : List (List SV)).map List.length = [] from rfl, e36]; exact H)
/-- What is left of outworker/outworkerref04.SameBlocks. -/
def t37 : Out :=
 (.ite (.cmp .neq (.len 0) (.len 1))
  (.done (.bool (.tt false)) [])
  (.loop 0 [(.int .i64 (.lit 0))] [.int .i64] 
   (.ite (.cmp .lss (.var 2) (.len 0))
    (.need (.tt true) [(.cmp .geq (.var 2) (.lit 0)), (.cmp .lss (.var 2) (.len 0))] 
    (.load (.tt true) (.fld (.idx (.var 0) (.var 2) 5) 1) [.int .u8, .int .i64, .int .i64, .int .i64] 
    (.need (.tt true) [(.cmp .geq (.var 2) (.lit 0)), (.cmp .lss (.var 2) (.len 1))] 
    (.load (.tt true) (.fld (.idx (.var 1) (.var 2) 5) 1) [.int .u8, .int .i64, .int .i64, .int .i64] 
    (.need (.and (.cmp .eql (.var 3) (.var 7)) (.and (.cmp .eql (.var 4) (.var 8)) (.and (.cmp .eql (.var 5) (.var 9)) (.cmp .eql (.var 6) (.var 10))))) [(.cmp .geq (.var 2) (.lit 0)), (.cmp .lss (.var 2) (.len 0))] 
    (.load (.and (.cmp .eql (.var 3) (.var 7)) (.and (.cmp .eql (.var 4) (.var 8)) (.and (.cmp .eql (.var 5) (.var 9)) (.cmp .eql (.var 6) (.var 10))))) (.fld (.idx (.var 0) (.var 2) 5) 0) [.sl] 
    (.need (.and (.cmp .eql (.var 3) (.var 7)) (.and (.cmp .eql (.var 4) (.var 8)) (.and (.cmp .eql (.var 5) (.var 9)) (.cmp .eql (.var 6) (.var 10))))) [(.cmp .geq (.var 2) (.lit 0)), (.cmp .lss (.var 2) (.len 1))] 
    (.load (.and (.cmp .eql (.var 3) (.var 7)) (.and (.cmp .eql (.var 4) (.var 8)) (.and (.cmp .eql (.var 5) (.var 9)) (.cmp .eql (.var 6) (.var 10))))) (.fld (.idx (.var 1) (.var 2) 5) 0) [.sl] 
    (.ite (.ite (.not (.and (.cmp .eql (.var 3) (.var 7)) (.and (.cmp .eql (.var 4) (.var 8)) (.and (.cmp .eql (.var 5) (.var 9)) (.cmp .eql (.var 6) (.var 10)))))) (.tt true) (.cmp .neq (.len 11) (.len 12)))
     (.done (.bool (.tt false)) [])
     (.loop 1 [(.int .i64 (.lit 0))] [.int .i64] 
      (.need (.tt true) [(.cmp .geq (.var 2) (.lit 0)), (.cmp .lss (.var 2) (.len 0))] 
      (.load (.tt true) (.fld (.idx (.var 0) (.var 2) 5) 0) [.sl] 
      (.ite (.cmp .lss (.var 13) (.len 14))
       (.need (.tt true) [(.cmp .geq (.var 2) (.lit 0)), (.cmp .lss (.var 2) (.len 0))] 
       (.load (.tt true) (.fld (.idx (.var 0) (.var 2) 5) 0) [.sl] 
       (.need (.tt true) [(.cmp .geq (.var 13) (.lit 0)), (.cmp .lss (.var 13) (.len 15))] 
       (.load (.tt true) (.idx (.var 15) (.var 13) 7) [.int .u8, .int .u8, .int .i64, .int .i64, .int .i64, .int .i64, .sl] 
       (.need (.tt true) [(.cmp .geq (.var 2) (.lit 0)), (.cmp .lss (.var 2) (.len 1))] 
       (.load (.tt true) (.fld (.idx (.var 1) (.var 2) 5) 0) [.sl] 
       (.need (.tt true) [(.cmp .geq (.var 13) (.lit 0)), (.cmp .lss (.var 13) (.len 23))] 
       (.load (.tt true) (.idx (.var 23) (.var 13) 7) [.int .u8, .int .u8, .int .i64, .int .i64, .int .i64, .int .i64, .sl] 
       (.both 
        (.still (.tt true) (.idx (.var 23) (.var 13) 7) [(.int .u8 (.var 24)), (.int .u8 (.var 25)), (.int .i64 (.var 26)), (.int .i64 (.var 27)), (.int .i64 (.var 28)), (.int .i64 (.var 29)), (.val 30)] 
        (.still (.tt true) (.fld (.idx (.var 1) (.var 2) 5) 0) [(.val 23)] 
        (.still (.tt true) (.idx (.var 15) (.var 13) 7) [(.int .u8 (.var 16)), (.int .u8 (.var 17)), (.int .i64 (.var 18)), (.int .i64 (.var 19)), (.int .i64 (.var 20)), (.int .i64 (.var 21)), (.val 22)] 
        (.still (.tt true) (.fld (.idx (.var 0) (.var 2) 5) 0) [(.val 15)] 
        (.still (.tt true) (.idx (.var 23) (.var 13) 7) [(.int .u8 (.var 24)), (.int .u8 (.var 25)), (.int .i64 (.var 26)), (.int .i64 (.var 27)), (.int .i64 (.var 28)), (.int .i64 (.var 29)), (.val 30)] 
        (.still (.tt true) (.fld (.idx (.var 1) (.var 2) 5) 0) [(.val 23)] 
        (.still (.tt true) (.idx (.var 15) (.var 13) 7) [(.int .u8 (.var 16)), (.int .u8 (.var 17)), (.int .i64 (.var 18)), (.int .i64 (.var 19)), (.int .i64 (.var 20)), (.int .i64 (.var 21)), (.val 22)] 
        (.still (.tt true) (.fld (.idx (.var 0) (.var 2) 5) 0) [(.val 15)] 
        (.still (.tt true) (.idx (.var 23) (.var 13) 7) [(.int .u8 (.var 24)), (.int .u8 (.var 25)), (.int .i64 (.var 26)), (.int .i64 (.var 27)), (.int .i64 (.var 28)), (.int .i64 (.var 29)), (.val 30)] 
        (.still (.tt true) (.fld (.idx (.var 1) (.var 2) 5) 0) [(.val 23)] 
        (.ite (.not (.ite (.ite (.ite (.ite (.ite (.cmp .neq (.var 16) (.var 24)) (.tt true) (.cmp .neq (.var 17) (.var 25))) (.tt true) (.cmp .neq (.var 18) (.var 26))) (.tt true) (.cmp .neq (.var 19) (.var 27))) (.tt true) (.cmp .neq (.var 20) (.var 28))) (.tt true) (.cmp .neq (.var 21) (.var 29))))
         (.call 45 [(.val 22), (.val 30)] [] [] [] [(false, [.bool])] 
         (.ite (.not (.var 31))
          (.done (.bool (.tt false)) [])
          (.again 1 [(.int .i64 (.op .add .i64 (.var 13) (.lit 1)))])))
         (.done (.bool (.tt false)) [])))))))))))) 
        (.still (.tt true) (.idx (.var 23) (.var 13) 7) [(.int .u8 (.var 24)), (.int .u8 (.var 25)), (.int .i64 (.var 26)), (.int .i64 (.var 27)), (.int .i64 (.var 28)), (.int .i64 (.var 29)), (.val 30)] 
        (.still (.tt true) (.fld (.idx (.var 1) (.var 2) 5) 0) [(.val 23)] 
        (.still (.tt true) (.idx (.var 15) (.var 13) 7) [(.int .u8 (.var 16)), (.int .u8 (.var 17)), (.int .i64 (.var 18)), (.int .i64 (.var 19)), (.int .i64 (.var 20)), (.int .i64 (.var 21)), (.val 22)] 
        (.still (.tt true) (.fld (.idx (.var 0) (.var 2) 5) 0) [(.val 15)] 
        (.still (.tt true) (.idx (.var 23) (.var 13) 7) [(.int .u8 (.var 24)), (.int .u8 (.var 25)), (.int .i64 (.var 26)), (.int .i64 (.var 27)), (.int .i64 (.var 28)), (.int .i64 (.var 29)), (.val 30)] 
        (.still (.tt true) (.fld (.idx (.var 1) (.var 2) 5) 0) [(.val 23)] 
        (.still (.tt true) (.idx (.var 15) (.var 13) 7) [(.int .u8 (.var 16)), (.int .u8 (.var 17)), (.int .i64 (.var 18)), (.int .i64 (.var 19)), (.int .i64 (.var 20)), (.int .i64 (.var 21)), (.val 22)] 
        (.still (.tt true) (.fld (.idx (.var 0) (.var 2) 5) 0) [(.val 15)] 
        (.still (.tt true) (.idx (.var 23) (.var 13) 7) [(.int .u8 (.var 24)), (.int .u8 (.var 25)), (.int .i64 (.var 26)), (.int .i64 (.var 27)), (.int .i64 (.var 28)), (.int .i64 (.var 29)), (.val 30)] 
        (.still (.tt true) (.fld (.idx (.var 1) (.var 2) 5) 0) [(.val 23)] 
        (.ite (.not (.ite (.ite (.ite (.ite (.ite (.cmp .neq (.var 16) (.var 24)) (.tt true) (.cmp .neq (.var 17) (.var 25))) (.tt true) (.cmp .neq (.var 18) (.var 26))) (.tt true) (.cmp .neq (.var 19) (.var 27))) (.tt true) (.cmp .neq (.var 20) (.var 28))) (.tt true) (.cmp .neq (.var 21) (.var 29))))
         (.call 45 [(.val 22), (.val 30)] [] [] [] [(false, [.bool])] 
         (.ite (.not (.var 31))
          (.done (.bool (.tt false)) [])
          (.again 1 [(.int .i64 (.op .add .i64 (.var 13) (.lit 1)))])))
         (.done (.bool (.tt false)) [])))))))))))))))))))))
       (.again 0 [(.int .i64 (.op .add .i64 (.var 2) (.lit 1)))]))))))))))))))
    (.done (.bool (.tt true)) []))))
def l37 : List (Nat × List Nat × List (Nat × Nat) × List Nat) := [(4, [5], [], [14, 15, 16, 17, 20, 21, 22, 23, 24, 25, 26, 27, 28, 29, 30, 31, 32, 33, 34, 35, 36, 37, 38, 39, 40, 41, 42, 43, 44, 45, 4, 6, 46, 47, 48, 49, 50, 51, 52, 53, 56, 57, 58, 59, 60, 61, 62, 63, 64, 65, 66, 67, 68, 69, 70, 71, 7, 8, 72, 73, 74, 75, 76, 77, 78, 79, 80, 81, 82, 83, 84, 85, 86, 87, 88, 89, 90, 91, 92, 93, 94, 95, 96, 97, 98, 99, 100, 101, 102, 103, 104, 105, 106, 107, 108, 109, 110, 111, 112, 113, 114, 115, 116, 117, 118, 119, 54, 55, 18, 19]), (9, [6], [], [46, 47, 48, 49, 50, 51, 52, 53, 56, 57, 58, 59, 60, 61, 62, 63, 64, 65, 66, 67, 68, 69, 70, 71, 7, 8, 72, 73, 74, 75, 76, 77, 78, 79, 80, 81, 82, 83, 84, 85, 86, 87, 88, 89, 90, 91, 92, 93, 94, 95, 96, 97, 98, 99, 100, 101, 102, 103, 104, 105, 106, 107, 108, 109, 110, 111, 112, 113, 114, 115, 116, 117, 118, 119, 4, 54, 55])]
theorem e37 : ev Try.prog ⟨allF, [], l37⟩ (bodyOf Try.f37) 0 (initSt [(.val 0), (.val 1)] [] Try.f37.ntmps [.sl, .sl]) (finK Try.prog Try.f37.results []) = t37 := by kernel_rfl
theorem c37 {G : List Value} {h : H} {R : Value → List (List Value) → H → Prop} (hG : FitsL [.sl, .sl] G) (H : holds Try.prog R t37 G [] h) : CallsA Try.prog 37 (fun e => SV.denL G (fun k => e (k - 1000000)) [(.val 0), (.val 1)]) ([].map (SV.denL G dE)) h R :=
  CallsA.of_ev (cf := ⟨allF, [], l37⟩) (fn := Try.f37) (c := bodyOf Try.f37) (pcs := []) Try.func37 (by rfl) callOK (by rfl) hG (by rfl) (by rw [show ([] : List (List SV)).map List.length = [] from rfl, e37]; exact H)
/-- What is left of outworker/outworkerref04.blocks. -/
def t38 : Out :=
 (.loop 0 [(.int .i64 (.lit 0))] [.int .i64] 
  (.ite (.cmp .lss (.var 4) (.len 0))
   (.need (.tt true) [(.cmp .geq (.var 4) (.lit 0)), (.cmp .lss (.var 4) (.len 0))] 
   (.load (.tt true) (.fld (.idx (.var 0) (.var 4) 5) 0) [.sl] 
   (.ite (.cmp .gtr (.len 5) (.var 3))
    (.done (.agg [(.int .i64 (.lit 9)), (.int .i64 (.var 4)), (.int .i64 (.lit (-1)))]) [])
    (.loop 1 [(.int .i64 (.lit 0))] [.int .i64] 
     (.need (.tt true) [(.cmp .geq (.var 4) (.lit 0)), (.cmp .lss (.var 4) (.len 0))] 
     (.load (.tt true) (.fld (.idx (.var 0) (.var 4) 5) 0) [.sl] 
     (.ite (.cmp .lss (.var 6) (.len 7))
      (.need (.tt true) [(.cmp .geq (.var 4) (.lit 0)), (.cmp .lss (.var 4) (.len 0))] 
      (.load (.tt true) (.fld (.idx (.var 0) (.var 4) 5) 0) [.sl] 
      (.need (.tt true) [(.cmp .geq (.var 6) (.lit 0)), (.cmp .lss (.var 6) (.len 8))] 
      (.load (.tt true) (.idx (.var 8) (.var 6) 7) [.int .u8, .int .u8, .int .i64, .int .i64, .int .i64, .int .i64, .sl] 
      (.call 46 [(.agg [(.int .u8 (.var 9)), (.int .u8 (.var 10)), (.int .i64 (.var 11)), (.int .i64 (.var 12)), (.int .i64 (.var 13)), (.int .i64 (.var 14)), (.val 15)]), (.int .i64 (.var 1)), (.int .i64 (.var 2))] [] [] [] [(false, [.int .i64])] 
      (.ite (.cmp .neq (.var 16) (.lit 0))
       (.done (.agg [(.int .i64 (.var 16)), (.int .i64 (.var 4)), (.int .i64 (.var 6))]) [])
       (.again 1 [(.int .i64 (.op .add .i64 (.var 6) (.lit 1)))])))))))
      (.need (.tt true) [(.cmp .geq (.var 4) (.lit 0)), (.cmp .lss (.var 4) (.len 0))] 
      (.load (.tt true) (.fld (.idx (.var 0) (.var 4) 5) 1) [.int .u8, .int .i64, .int .i64, .int .i64] 
      (.call 47 [(.agg [(.int .u8 (.var 8)), (.int .i64 (.var 9)), (.int .i64 (.var 10)), (.int .i64 (.var 11))]), (.int .i64 (.var 1)), (.int .i64 (.len 0)), (.int .i64 (.ite (.cmp .geq (.var 2) (.lit 0)) (.lit 23) (.lit 21)))] [] [] [] [(false, [.int .i64])] 
      (.ite (.cmp .neq (.var 12) (.lit 0))
       (.need (.tt true) [(.cmp .geq (.var 4) (.lit 0)), (.cmp .lss (.var 4) (.len 0))] 
       (.load (.tt true) (.fld (.idx (.var 0) (.var 4) 5) 0) [.sl] 
       (.done (.agg [(.int .i64 (.var 12)), (.int .i64 (.var 4)), (.int .i64 (.len 13))]) [])))
       (.again 0 [(.int .i64 (.op .add .i64 (.var 4) (.lit 1)))]))))))))))))
   (.done (.agg [(.int .i64 (.lit 0)), (.int .i64 (.lit 0)), (.int .i64 (.lit 0))]) [])))
def l38 : List (Nat × List Nat × List (Nat × Nat) × List Nat) := [(5, [10], [], [16, 17, 18, 19, 22, 23, 24, 25, 26, 27, 28, 29, 30, 31, 11, 32, 33, 34, 35, 36, 37, 38, 39, 42, 43, 44, 45, 46, 47, 48, 49, 50, 51, 52, 12, 53, 54, 55, 56, 57, 58, 40, 41, 59, 60, 61, 62, 63, 64, 65, 66, 67, 68, 13, 69, 70, 71, 72, 73, 74, 75, 76, 77, 78, 79, 20, 21]), (10, [11], [], [32, 33, 34, 35, 36, 37, 38, 39, 42, 43, 44, 45, 46, 47, 48, 49, 50, 51, 52, 12, 53, 54, 55, 56, 57, 58, 40, 41])]
theorem e38 : ev Try.prog ⟨allF, [], l38⟩ (bodyOf Try.f38) 0 (initSt [(.val 0), (.int .i64 (.var 1)), (.int .i64 (.var 2)), (.int .i64 (.var 3))] [] Try.f38.ntmps [.sl, .int .i64, .int .i64, .int .i64]) (finK Try.prog Try.f38.results []) = t38 := by kernel_rfl
theorem c38 {G : List Value} {h : H} {R : Value → List (List Value) → H → Prop} (hG : FitsL [.sl, .int .i64, .int .i64, .int .i64] G) (H : holds Try.prog R t38 G [] h) : CallsA Try.prog 38 (fun e => SV.denL G (fun k => e (k - 1000000)) [(.val 0), (.int .i64 (.var 1)), (.int .i64 (.var 2)), (.int .i64 (.var 3))]) ([].map (SV.denL G dE)) h R :=
  CallsA.of_ev (cf := ⟨allF, [], l38⟩) (fn := Try.f38) (c := bodyOf Try.f38) (pcs := []) Try.func38 (by rfl) callOK (by rfl) hG (by rfl) (by rw [show ([] : List (List SV)).map List.length = [] from rfl, e38]; exact H)
/-- What is left of (*outworker/run.state).step. -/
def t40 : Out :=
 (.need (.tt true) [(.not (.nilp 0))] 
 (.load (.tt true) (.fld (.var 0) 68) [.sl] 
 (.ite (.cmp .eql (.var 1) (.lit 2))
  (.need (.tt true) [(.cmp .geq (.var 4) (.lit 0)), (.cmp .lss (.var 4) (.len 8))] 
  (.load (.tt true) (.idx (.var 8) (.var 4) 1) [.int .i64] 
  (.need (.tt true) [(.cmp .geq (.var 3) (.lit 0)), (.cmp .lss (.var 3) (.len 8))] 
  (.store (.idx (.var 8) (.var 3) 1) [(.int .i64 (.var 9))] 
  (.done (.bool (.tt true)) [])))))
  (.ite (.cmp .eql (.var 1) (.lit 7))
   (.need (.tt true) [(.not (.nilp 0))] 
   (.load (.tt true) (.fld (.var 0) 69) [.int .i64] 
   (.need (.tt true) [(.cmp .geq (.var 4) (.lit 0)), (.cmp .lss (.var 4) (.len 8))] 
   (.load (.tt true) (.idx (.var 8) (.var 4) 1) [.int .i64] 
   (.need (.tt true) [(.cmp .geq (.op .add .i64 (.var 9) (.var 3)) (.lit 0)), (.cmp .lss (.op .add .i64 (.var 9) (.var 3)) (.len 8))] 
   (.store (.idx (.var 8) (.op .add .i64 (.var 9) (.var 3)) 1) [(.int .i64 (.var 10))] 
   (.done (.bool (.tt true)) [])))))))
   (.ite (.cmp .eql (.var 1) (.lit 8))
    (.need (.tt true) [(.not (.nilp 0))] 
    (.load (.tt true) (.fld (.var 0) 69) [.int .i64] 
    (.need (.tt true) [(.cmp .geq (.op .add .i64 (.var 9) (.var 4)) (.lit 0)), (.cmp .lss (.op .add .i64 (.var 9) (.var 4)) (.len 8))] 
    (.load (.tt true) (.idx (.var 8) (.op .add .i64 (.var 9) (.var 4)) 1) [.int .i64] 
    (.need (.tt true) [(.cmp .geq (.var 3) (.lit 0)), (.cmp .lss (.var 3) (.len 8))] 
    (.store (.idx (.var 8) (.var 3) 1) [(.int .i64 (.var 10))] 
    (.done (.bool (.tt true)) [])))))))
    (.call 48 [(.val 0)] [] [] [] [(false, [.bool])] 
    (.ite (.not (.var 9))
     (.done (.bool (.tt false)) [])
     (.ite (.cmp .eql (.var 1) (.lit 1))
      (.need (.tt true) [(.cmp .geq (.var 3) (.lit 0)), (.cmp .lss (.var 3) (.len 8))] 
      (.store (.idx (.var 8) (.var 3) 1) [(.int .i64 (.var 6))] 
      (.done (.bool (.tt true)) [])))
      (.ite (.cmp .eql (.var 1) (.lit 3))
       (.need (.tt true) [(.cmp .geq (.var 4) (.lit 0)), (.cmp .lss (.var 4) (.len 8))] 
       (.load (.tt true) (.idx (.var 8) (.var 4) 1) [.int .i64] 
       (.need (.tt true) [(.cmp .geq (.var 5) (.lit 0)), (.cmp .lss (.var 5) (.len 8))] 
       (.load (.tt true) (.idx (.var 8) (.var 5) 1) [.int .i64] 
       (.call 49 [(.int .u8 (.var 2)), (.int .i64 (.var 10)), (.int .i64 (.var 11))] [] [] [] [(false, [.int .i64]), (false, [.bool])] 
       (.ite (.not (.var 13))
        (.need (.tt true) [(.not (.nilp 0))] 
        (.store (.fld (.fld (.var 0) 0) 0) [(.int .i64 (.lit 2))] 
        (.done (.bool (.tt false)) [])))
        (.need (.tt true) [(.cmp .geq (.var 3) (.lit 0)), (.cmp .lss (.var 3) (.len 8))] 
        (.store (.idx (.var 8) (.var 3) 1) [(.int .i64 (.var 12))] 
        (.done (.bool (.tt true)) [])))))))))
       (.ite (.cmp .eql (.var 1) (.lit 4))
        (.need (.tt true) [(.cmp .geq (.var 4) (.lit 0)), (.cmp .lss (.var 4) (.len 8))] 
        (.load (.tt true) (.idx (.var 8) (.var 4) 1) [.int .i64] 
        (.call 50 [(.val 0), (.int .i64 (.var 10))] [] [] [] [(false, [.ptr])] 
        (.need (.tt true) [(.not (.nilp 11))] 
        (.load (.tt true) (.var 11) [.int .i64] 
        (.need (.tt true) [(.cmp .geq (.var 3) (.lit 0)), (.cmp .lss (.var 3) (.len 8))] 
        (.store (.idx (.var 8) (.var 3) 1) [(.int .i64 (.var 12))] 
        (.done (.bool (.tt true)) []))))))))
        (.ite (.cmp .eql (.var 1) (.lit 5))
         (.need (.tt true) [(.cmp .geq (.var 4) (.lit 0)), (.cmp .lss (.var 4) (.len 8))] 
         (.load (.tt true) (.idx (.var 8) (.var 4) 1) [.int .i64] 
         (.need (.tt true) [(.cmp .geq (.var 5) (.lit 0)), (.cmp .lss (.var 5) (.len 8))] 
         (.load (.tt true) (.idx (.var 8) (.var 5) 1) [.int .i64] 
         (.call 50 [(.val 0), (.int .i64 (.var 10))] [] [] [] [(false, [.ptr])] 
         (.still (.tt true) (.idx (.var 8) (.var 5) 1) [(.int .i64 (.var 11))] 
         (.need (.tt true) [(.not (.nilp 12))] 
         (.store (.var 12) [(.int .i64 (.var 11))] 
         (.done (.bool (.tt true)) [])))))))))
         (.ite (.cmp .eql (.var 1) (.lit 6))
          (.call 51 [(.val 0), (.agg [(.int .u8 (.var 1)), (.int .u8 (.var 2)), (.int .i64 (.var 3)), (.int .i64 (.var 4)), (.int .i64 (.var 5)), (.int .i64 (.var 6)), (.val 7)])] [] [] [] [(false, [.int .i64])] 
          (.need (.tt true) [(.cmp .geq (.var 3) (.lit 0)), (.cmp .lss (.var 3) (.len 8))] 
          (.store (.idx (.var 8) (.var 3) 1) [(.int .i64 (.var 10))] 
          (.done (.bool (.tt true)) []))))
          (.done (.bool (.tt true)) [])))))))))))))
def l40 : List (Nat × List Nat × List (Nat × Nat) × List Nat) := []
theorem e40 : ev Try.prog ⟨allF, [], l40⟩ (bodyOf Try.f40) 0 (initSt [(.val 0), (.agg [(.int .u8 (.var 1)), (.int .u8 (.var 2)), (.int .i64 (.var 3)), (.int .i64 (.var 4)), (.int .i64 (.var 5)), (.int .i64 (.var 6)), (.val 7)])] [] Try.f40.ntmps [.ptr, .int .u8, .int .u8, .int .i64, .int .i64, .int .i64, .int .i64, .sl]) (finK Try.prog Try.f40.results []) = t40 := by kernel_rfl
theorem c40 {G : List Value} {h : H} {R : Value → List (List Value) → H → Prop} (hG : FitsL [.ptr, .int .u8, .int .u8, .int .i64, .int .i64, .int .i64, .int .i64, .sl] G) (H : holds Try.prog R t40 G [] h) : CallsA Try.prog 40 (fun e => SV.denL G (fun k => e (k - 1000000)) [(.val 0), (.agg [(.int .u8 (.var 1)), (.int .u8 (.var 2)), (.int .i64 (.var 3)), (.int .i64 (.var 4)), (.int .i64 (.var 5)), (.int .i64 (.var 6)), (.val 7)])]) ([].map (SV.denL G dE)) h R :=
  CallsA.of_ev (cf := ⟨allF, [], l40⟩) (fn := Try.f40) (c := bodyOf Try.f40) (pcs := []) Try.func40 (by rfl) callOK (by rfl) hG (by rfl) (by rw [show ([] : List (List SV)).map List.length = [] from rfl, e40]; exact H)
/-- What is left of (*outworker/run.state).end. -/
def t41 : Out :=
 (.call 48 [(.val 0)] [] [] [] [(false, [.bool])] 
 (.ite (.not (.var 5))
  (.done (.tup [(.int .i64 (.lit 0)), (.bool (.tt false))]) [])
  (.ite (.cmp .eql (.var 1) (.lit 3))
   (.need (.tt true) [(.not (.nilp 0))] 
   (.load (.tt true) (.fld (.var 0) 68) [.sl] 
   (.need (.tt true) [(.cmp .geq (.var 2) (.lit 0)), (.cmp .lss (.var 2) (.len 6))] 
   (.load (.tt true) (.idx (.var 6) (.var 2) 1) [.int .i64] 
   (.need (.tt true) [(.not (.nilp 0))] 
   (.store (.fld (.fld (.var 0) 0) 0) [(.int .i64 (.lit 1))] 
   (.need (.tt true) [(.not (.nilp 0))] 
   (.store (.fld (.fld (.var 0) 0) 1) [(.int .i64 (.var 7))] 
   (.done (.tup [(.int .i64 (.lit 0)), (.bool (.tt false))]) [])))))))))
   (.need (.cmp .eql (.var 1) (.lit 2)) [(.not (.nilp 0))] 
   (.load (.cmp .eql (.var 1) (.lit 2)) (.fld (.var 0) 68) [.sl] 
   (.need (.cmp .eql (.var 1) (.lit 2)) [(.cmp .geq (.var 2) (.lit 0)), (.cmp .lss (.var 2) (.len 6))] 
   (.load (.cmp .eql (.var 1) (.lit 2)) (.idx (.var 6) (.var 2) 1) [.int .i64] 
   (.still (.cmp .eql (.var 1) (.lit 2)) (.idx (.var 6) (.var 2) 1) [(.int .i64 (.var 7))] 
   (.still (.cmp .eql (.var 1) (.lit 2)) (.fld (.var 0) 68) [(.val 6)] 
   (.ite (.ite (.cmp .eql (.var 1) (.lit 2)) (.cmp .eql (.var 7) (.lit 0)) (.tt false))
    (.done (.tup [(.int .i64 (.var 4)), (.bool (.tt true))]) [])
    (.done (.tup [(.int .i64 (.var 3)), (.bool (.tt true))]) [])))))))))))
def l41 : List (Nat × List Nat × List (Nat × Nat) × List Nat) := []
theorem e41 : ev Try.prog ⟨allF, [], l41⟩ (bodyOf Try.f41) 0 (initSt [(.val 0), (.agg [(.int .u8 (.var 1)), (.int .i64 (.var 2)), (.int .i64 (.var 3)), (.int .i64 (.var 4))])] [] Try.f41.ntmps [.ptr, .int .u8, .int .i64, .int .i64, .int .i64]) (finK Try.prog Try.f41.results []) = t41 := by kernel_rfl
theorem c41 {G : List Value} {h : H} {R : Value → List (List Value) → H → Prop} (hG : FitsL [.ptr, .int .u8, .int .i64, .int .i64, .int .i64] G) (H : holds Try.prog R t41 G [] h) : CallsA Try.prog 41 (fun e => SV.denL G (fun k => e (k - 1000000)) [(.val 0), (.agg [(.int .u8 (.var 1)), (.int .i64 (.var 2)), (.int .i64 (.var 3)), (.int .i64 (.var 4))])]) ([].map (SV.denL G dE)) h R :=
  CallsA.of_ev (cf := ⟨allF, [], l41⟩) (fn := Try.f41) (c := bodyOf Try.f41) (pcs := []) Try.func41 (by rfl) callOK (by rfl) hG (by rfl) (by rw [show ([] : List (List SV)).map List.length = [] from rfl, e41]; exact H)
/-- What is left of outworker/mach.Check. -/
def t42 : Out :=
 (.ite (.ite (.ite (.ite (.ite (.ite (.ite (.ite (.cmp .lss (.var 0) (.lit 0)) (.tt true) (.cmp .gtr (.var 0) (.lit 4))) (.tt true) (.cmp .lss (.var 1) (.lit 3))) (.tt true) (.cmp .gtr (.var 1) (.lit 8))) (.tt true) (.cmp .lss (.var 2) (.var 0))) (.tt true) (.cmp .gtr (.var 2) (.lit 64))) (.tt true) (.cmp .lss (.len 3) (.lit 1))) (.tt true) (.cmp .gtr (.len 3) (.lit 16)))
  (.done (.agg [(.int .i64 (.lit 2)), (.int .i64 (.lit (-1))), (.int .i64 (.lit (-1)))]) [])
  (.loop 0 [(.int .i64 (.lit 0))] [.int .i64] 
   (.ite (.cmp .lss (.var 4) (.len 3))
    (.need (.tt true) [(.cmp .geq (.var 4) (.lit 0)), (.cmp .lss (.var 4) (.len 3))] 
    (.load (.tt true) (.idx (.var 3) (.var 4) 5) [.sl, .int .u8, .int .i64, .int .i64, .int .i64] 
    (.ite (.cmp .gtr (.len 5) (.lit 400))
     (.done (.agg [(.int .i64 (.lit 9)), (.int .i64 (.var 4)), (.int .i64 (.lit (-1)))]) [])
     (.loop 1 [(.int .i64 (.lit 0))] [.int .i64] 
      (.ite (.cmp .lss (.var 10) (.len 5))
       (.need (.tt true) [(.cmp .geq (.var 10) (.lit 0)), (.cmp .lss (.var 10) (.len 5))] 
       (.load (.tt true) (.idx (.var 5) (.var 10) 7) [.int .u8, .int .u8, .int .i64, .int .i64, .int .i64, .int .i64, .sl] 
       (.call 52 [(.agg [(.int .u8 (.var 11)), (.int .u8 (.var 12)), (.int .i64 (.var 13)), (.int .i64 (.var 14)), (.int .i64 (.var 15)), (.int .i64 (.var 16)), (.val 17)]), (.agg [(.int .i64 (.var 0)), (.int .i64 (.var 1)), (.int .i64 (.var 2)), (.val 3)])] [] [] [] [(false, [.int .i64])] 
       (.ite (.cmp .neq (.var 18) (.lit 0))
        (.done (.agg [(.int .i64 (.var 18)), (.int .i64 (.var 4)), (.int .i64 (.var 10))]) [])
        (.again 1 [(.int .i64 (.op .add .i64 (.var 10) (.lit 1)))])))))
       (.call 44 [(.agg [(.int .u8 (.var 6)), (.int .i64 (.var 7)), (.int .i64 (.var 8)), (.int .i64 (.var 9))]), (.int .i64 (.var 1)), (.int .i64 (.len 3))] [] [] [] [(false, [.int .i64])] 
       (.call 53 [(.int .i64 (.var 11))] [] [] [] [(false, [.int .i64])] 
       (.ite (.cmp .neq (.var 12) (.lit 0))
        (.done (.agg [(.int .i64 (.var 12)), (.int .i64 (.var 4)), (.int .i64 (.len 5))]) [])
        (.again 0 [(.int .i64 (.op .add .i64 (.var 4) (.lit 1)))])))))))))
    (.done (.agg [(.int .i64 (.lit 0)), (.int .i64 (.lit 0)), (.int .i64 (.lit 0))]) []))))
def l42 : List (Nat × List Nat × List (Nat × Nat) × List Nat) := [(4, [55], [], [56, 57, 58, 59, 4, 3, 60, 61, 62, 63, 64, 65, 66, 67, 68, 69, 70, 71, 72, 73, 6, 5, 74, 75, 76, 7, 77, 78, 79, 80, 81, 82, 83, 84, 85, 86, 87, 88, 89, 90, 91, 92, 8, 93, 94, 95, 96, 97, 98, 99, 100, 101]), (9, [69], [], [70, 71, 72, 73, 6, 5, 74, 75, 76, 7, 77, 78, 79, 80, 81, 82, 83])]
theorem e42 : ev Try.prog ⟨allF, [], l42⟩ (bodyOf Try.f42) 0 (initSt [(.agg [(.int .i64 (.var 0)), (.int .i64 (.var 1)), (.int .i64 (.var 2)), (.val 3)])] [] Try.f42.ntmps [.int .i64, .int .i64, .int .i64, .sl]) (finK Try.prog Try.f42.results []) = t42 := by kernel_rfl
theorem c42 {G : List Value} {h : H} {R : Value → List (List Value) → H → Prop} (hG : FitsL [.int .i64, .int .i64, .int .i64, .sl] G) (H : holds Try.prog R t42 G [] h) : CallsA Try.prog 42 (fun e => SV.denL G (fun k => e (k - 1000000)) [(.agg [(.int .i64 (.var 0)), (.int .i64 (.var 1)), (.int .i64 (.var 2)), (.val 3)])]) ([].map (SV.denL G dE)) h R :=
  CallsA.of_ev (cf := ⟨allF, [], l42⟩) (fn := Try.f42) (c := bodyOf Try.f42) (pcs := []) Try.func42 (by rfl) callOK (by rfl) hG (by rfl) (by rw [show ([] : List (List SV)).map List.length = [] from rfl, e42]; exact H)
/-- What is left of outworker/ir.of. -/
def t43 : Out :=
 (.ite (.not (.ite (.ite (.cmp .lss (.var 0) (.lit 1)) (.tt true) (.cmp .gtr (.var 0) (.lit 6))) (.tt true) (.ite (.cmp .eql (.var 0) (.lit 3)) (.ite (.cmp .lss (.var 1) (.lit 1)) (.tt true) (.cmp .gtr (.var 1) (.lit 7))) (.tt false))))
  (.call 54 [(.agg [(.int .u8 (.var 0)), (.int .u8 (.var 1)), (.int .i64 (.var 2)), (.int .i64 (.var 3)), (.int .i64 (.var 4)), (.int .i64 (.var 5)), (.val 6)])] [] [] [] [(false, [.bool])] 
  (.ite (.not (.var 8))
   (.done (.int .i64 (.lit 20)) [])
   (.ite (.cmp .gtr (.len 6) (.lit 3))
    (.done (.int .i64 (.lit 25)) [])
    (.call 55 [(.agg [(.int .u8 (.var 0)), (.int .u8 (.var 1)), (.int .i64 (.var 2)), (.int .i64 (.var 3)), (.int .i64 (.var 4)), (.int .i64 (.var 5)), (.val 6)])] [] [] [] [(false, [.sl])] 
    (.call 56 [(.agg [(.int .u8 (.var 0)), (.int .u8 (.var 1)), (.int .i64 (.var 2)), (.int .i64 (.var 3)), (.int .i64 (.var 4)), (.int .i64 (.var 5)), (.val 6)])] [] [] [] [(false, [.int .i64]), (false, [.bool])] 
    (.ite (.var 11)
     (.app 3 1 8 (.val 9) (.cells [(.int .i64 (.var 10))] 1) 
     (.loop 0 [(.int .i64 (.lit 0))] [.int .i64] 
      (.ite (.cmp .lss (.var 13) (.len 12))
       (.need (.tt true) [(.cmp .geq (.var 13) (.lit 0)), (.cmp .lss (.var 13) (.len 12))] 
       (.load (.tt true) (.idx (.var 12) (.var 13) 1) [.int .i64] 
       (.ite (.ite (.cmp .lss (.var 14) (.lit 0)) (.tt true) (.cmp .geq (.var 14) (.var 7)))
        (.done (.int .i64 (.lit 21)) [])
        (.again 0 [(.int .i64 (.op .add .i64 (.var 13) (.lit 1)))]))))
       (.done (.int .i64 (.lit 0)) []))))
     (.loop 0 [(.int .i64 (.lit 0))] [.int .i64] 
      (.ite (.cmp .lss (.var 12) (.len 9))
       (.need (.tt true) [(.cmp .geq (.var 12) (.lit 0)), (.cmp .lss (.var 12) (.len 9))] 
       (.load (.tt true) (.idx (.var 9) (.var 12) 1) [.int .i64] 
       (.ite (.ite (.cmp .lss (.var 13) (.lit 0)) (.tt true) (.cmp .geq (.var 13) (.var 7)))
        (.done (.int .i64 (.lit 21)) [])
        (.again 0 [(.int .i64 (.op .add .i64 (.var 12) (.lit 1)))]))))
       (.done (.int .i64 (.lit 0)) [])))))))))
  (.done (.int .i64 (.lit 20)) []))
def l43 : List (Nat × List Nat × List (Nat × Nat) × List Nat) := [(10, [58], [], [59, 60, 61, 9, 62, 63, 64, 65, 66, 67, 68, 4, 69])]
theorem e43 : ev Try.prog ⟨allF, [], l43⟩ (bodyOf Try.f43) 0 (initSt [(.agg [(.int .u8 (.var 0)), (.int .u8 (.var 1)), (.int .i64 (.var 2)), (.int .i64 (.var 3)), (.int .i64 (.var 4)), (.int .i64 (.var 5)), (.val 6)]), (.int .i64 (.var 7))] [] Try.f43.ntmps [.int .u8, .int .u8, .int .i64, .int .i64, .int .i64, .int .i64, .sl, .int .i64]) (finK Try.prog Try.f43.results []) = t43 := by kernel_rfl
theorem c43 {G : List Value} {h : H} {R : Value → List (List Value) → H → Prop} (hG : FitsL [.int .u8, .int .u8, .int .i64, .int .i64, .int .i64, .int .i64, .sl, .int .i64] G) (H : holds Try.prog R t43 G [] h) : CallsA Try.prog 43 (fun e => SV.denL G (fun k => e (k - 1000000)) [(.agg [(.int .u8 (.var 0)), (.int .u8 (.var 1)), (.int .i64 (.var 2)), (.int .i64 (.var 3)), (.int .i64 (.var 4)), (.int .i64 (.var 5)), (.val 6)]), (.int .i64 (.var 7))]) ([].map (SV.denL G dE)) h R :=
  CallsA.of_ev (cf := ⟨allF, [], l43⟩) (fn := Try.f43) (c := bodyOf Try.f43) (pcs := []) Try.func43 (by rfl) callOK (by rfl) hG (by rfl) (by rw [show ([] : List (List SV)).map List.length = [] from rfl, e43]; exact H)
/-- What is left of outworker/ir.Ends. -/
def t44 : Out :=
 (.call 57 [(.agg [(.int .u8 (.var 0)), (.int .i64 (.var 1)), (.int .i64 (.var 2)), (.int .i64 (.var 3))])] [] [] [] [(false, [.int .i64]), (false, [.bool])] 
 (.ite (.ite (.ite (.ite (.ite (.cmp .lss (.var 0) (.lit 1)) (.tt true) (.cmp .gtr (.var 0) (.lit 3))) (.tt true) (.ite (.not (.var 7)) (.cmp .neq (.var 1) (.lit 0)) (.tt false))) (.tt true) (.ite (.cmp .eql (.var 0) (.lit 3)) (.cmp .neq (.var 2) (.lit 0)) (.tt false))) (.tt true) (.ite (.cmp .neq (.var 0) (.lit 2)) (.cmp .neq (.var 3) (.lit 0)) (.tt false)))
  (.done (.int .i64 (.lit 20)) [])
  (.ite (.ite (.var 7) (.ite (.cmp .lss (.var 6) (.lit 0)) (.tt true) (.cmp .geq (.var 6) (.var 4))) (.tt false))
   (.done (.int .i64 (.lit 21)) [])
   (.ite (.ite (.ite (.cmp .neq (.var 0) (.lit 3)) (.ite (.cmp .lss (.var 2) (.lit 0)) (.tt true) (.cmp .geq (.var 2) (.var 5))) (.tt false)) (.ite (.cmp .neq (.var 0) (.lit 3)) (.ite (.cmp .lss (.var 2) (.lit 0)) (.tt true) (.cmp .geq (.var 2) (.var 5))) (.tt false)) (.ite (.cmp .eql (.var 0) (.lit 2)) (.ite (.cmp .lss (.var 3) (.lit 0)) (.tt true) (.cmp .geq (.var 3) (.var 5))) (.tt false)))
    (.done (.int .i64 (.lit 22)) [])
    (.done (.int .i64 (.lit 0)) [])))))
def l44 : List (Nat × List Nat × List (Nat × Nat) × List Nat) := []
theorem e44 : ev Try.prog ⟨allF, [], l44⟩ (bodyOf Try.f44) 0 (initSt [(.agg [(.int .u8 (.var 0)), (.int .i64 (.var 1)), (.int .i64 (.var 2)), (.int .i64 (.var 3))]), (.int .i64 (.var 4)), (.int .i64 (.var 5))] [] Try.f44.ntmps [.int .u8, .int .i64, .int .i64, .int .i64, .int .i64, .int .i64]) (finK Try.prog Try.f44.results []) = t44 := by kernel_rfl
theorem c44 {G : List Value} {h : H} {R : Value → List (List Value) → H → Prop} (hG : FitsL [.int .u8, .int .i64, .int .i64, .int .i64, .int .i64, .int .i64] G) (H : holds Try.prog R t44 G [] h) : CallsA Try.prog 44 (fun e => SV.denL G (fun k => e (k - 1000000)) [(.agg [(.int .u8 (.var 0)), (.int .i64 (.var 1)), (.int .i64 (.var 2)), (.int .i64 (.var 3))]), (.int .i64 (.var 4)), (.int .i64 (.var 5))]) ([].map (SV.denL G dE)) h R :=
  CallsA.of_ev (cf := ⟨allF, [], l44⟩) (fn := Try.f44) (c := bodyOf Try.f44) (pcs := []) Try.func44 (by rfl) callOK (by rfl) hG (by rfl) (by rw [show ([] : List (List SV)).map List.length = [] from rfl, e44]; exact H)
/-- What is left of outworker/outworkerref04.SameInts. -/
def t45 : Out :=
 (.ite (.cmp .neq (.len 0) (.len 1))
  (.done (.bool (.tt false)) [])
  (.loop 0 [(.int .i64 (.lit 0))] [.int .i64] 
   (.ite (.cmp .lss (.var 2) (.len 0))
    (.need (.tt true) [(.cmp .geq (.var 2) (.lit 0)), (.cmp .lss (.var 2) (.len 0))] 
    (.load (.tt true) (.idx (.var 0) (.var 2) 1) [.int .i64] 
    (.need (.tt true) [(.cmp .geq (.var 2) (.lit 0)), (.cmp .lss (.var 2) (.len 1))] 
    (.load (.tt true) (.idx (.var 1) (.var 2) 1) [.int .i64] 
    (.ite (.cmp .neq (.var 3) (.var 4))
     (.done (.bool (.tt false)) [])
     (.again 0 [(.int .i64 (.op .add .i64 (.var 2) (.lit 1)))]))))))
    (.done (.bool (.tt true)) []))))
def l45 : List (Nat × List Nat × List (Nat × Nat) × List Nat) := [(4, [5], [], [11, 12, 13, 14, 17, 18, 19, 20, 21, 22, 23, 24, 25, 4, 15, 16])]
theorem e45 : ev Try.prog ⟨allF, [], l45⟩ (bodyOf Try.f45) 0 (initSt [(.val 0), (.val 1)] [] Try.f45.ntmps [.sl, .sl]) (finK Try.prog Try.f45.results []) = t45 := by kernel_rfl
theorem c45 {G : List Value} {h : H} {R : Value → List (List Value) → H → Prop} (hG : FitsL [.sl, .sl] G) (H : holds Try.prog R t45 G [] h) : CallsA Try.prog 45 (fun e => SV.denL G (fun k => e (k - 1000000)) [(.val 0), (.val 1)]) ([].map (SV.denL G dE)) h R :=
  CallsA.of_ev (cf := ⟨allF, [], l45⟩) (fn := Try.f45) (c := bodyOf Try.f45) (pcs := []) Try.func45 (by rfl) callOK (by rfl) hG (by rfl) (by rw [show ([] : List (List SV)).map List.length = [] from rfl, e45]; exact H)
/-- What is left of outworker/outworkerref04.End. -/
def t47 : Out :=
 (.ite (.ite (.cmp .lss (.var 0) (.lit 1)) (.tt true) (.cmp .gtr (.var 0) (.lit 3)))
  (.done (.int .i64 (.lit 20)) [])
  (.ite (.ite (.cmp .eql (.var 0) (.lit 1)) (.ite (.cmp .neq (.var 1) (.lit 0)) (.tt true) (.cmp .neq (.var 3) (.lit 0))) (.tt false))
   (.done (.int .i64 (.lit 20)) [])
   (.ite (.ite (.cmp .eql (.var 0) (.lit 3)) (.ite (.cmp .neq (.var 2) (.lit 0)) (.tt true) (.cmp .neq (.var 3) (.lit 0))) (.tt false))
    (.done (.int .i64 (.lit 20)) [])
    (.call 62 [(.agg [(.int .u8 (.var 0)), (.int .i64 (.var 1)), (.int .i64 (.var 2)), (.int .i64 (.var 3))])] [] [] [] [(false, [.bool])] 
    (.ite (.ite (.var 7) (.ite (.cmp .lss (.var 1) (.lit 0)) (.tt true) (.cmp .geq (.var 1) (.var 4))) (.tt false))
     (.done (.int .i64 (.var 6)) [])
     (.ite (.ite (.cmp .neq (.var 0) (.lit 3)) (.ite (.cmp .lss (.var 2) (.lit 0)) (.tt true) (.cmp .geq (.var 2) (.var 5))) (.tt false))
      (.done (.int .i64 (.lit 22)) [])
      (.ite (.ite (.cmp .eql (.var 0) (.lit 2)) (.ite (.cmp .lss (.var 3) (.lit 0)) (.tt true) (.cmp .geq (.var 3) (.var 5))) (.tt false))
       (.done (.int .i64 (.lit 22)) [])
       (.done (.int .i64 (.lit 0)) []))))))))
def l47 : List (Nat × List Nat × List (Nat × Nat) × List Nat) := []
theorem e47 : ev Try.prog ⟨allF, [], l47⟩ (bodyOf Try.f47) 0 (initSt [(.agg [(.int .u8 (.var 0)), (.int .i64 (.var 1)), (.int .i64 (.var 2)), (.int .i64 (.var 3))]), (.int .i64 (.var 4)), (.int .i64 (.var 5)), (.int .i64 (.var 6))] [] Try.f47.ntmps [.int .u8, .int .i64, .int .i64, .int .i64, .int .i64, .int .i64, .int .i64]) (finK Try.prog Try.f47.results []) = t47 := by kernel_rfl
theorem c47 {G : List Value} {h : H} {R : Value → List (List Value) → H → Prop} (hG : FitsL [.int .u8, .int .i64, .int .i64, .int .i64, .int .i64, .int .i64, .int .i64] G) (H : holds Try.prog R t47 G [] h) : CallsA Try.prog 47 (fun e => SV.denL G (fun k => e (k - 1000000)) [(.agg [(.int .u8 (.var 0)), (.int .i64 (.var 1)), (.int .i64 (.var 2)), (.int .i64 (.var 3))]), (.int .i64 (.var 4)), (.int .i64 (.var 5)), (.int .i64 (.var 6))]) ([].map (SV.denL G dE)) h R :=
  CallsA.of_ev (cf := ⟨allF, [], l47⟩) (fn := Try.f47) (c := bodyOf Try.f47) (pcs := []) Try.func47 (by rfl) callOK (by rfl) hG (by rfl) (by rw [show ([] : List (List SV)).map List.length = [] from rfl, e47]; exact H)
/-- What is left of (*outworker/run.state).cost. -/
def t48 : Out :=
 (.need (.tt true) [(.not (.nilp 0))] 
 (.load (.tt true) (.fld (.fld (.var 0) 0) 67) [.int .i64] 
 (.ite (.cmp .eql (.var 1) (.lit 0))
  (.need (.tt true) [(.not (.nilp 0))] 
  (.store (.fld (.fld (.var 0) 0) 0) [(.int .i64 (.lit 3))] 
  (.done (.bool (.tt false)) [])))
  (.need (.tt true) [(.not (.nilp 0))] 
  (.load (.tt true) (.fld (.fld (.var 0) 0) 67) [.int .i64] 
  (.need (.tt true) [(.not (.nilp 0))] 
  (.store (.fld (.fld (.var 0) 0) 67) [(.int .i64 (.op .sub .i64 (.var 2) (.lit 1)))] 
  (.done (.bool (.tt true)) []))))))))
def l48 : List (Nat × List Nat × List (Nat × Nat) × List Nat) := []
theorem e48 : ev Try.prog ⟨allF, [], l48⟩ (bodyOf Try.f48) 0 (initSt [(.val 0)] [] Try.f48.ntmps [.ptr]) (finK Try.prog Try.f48.results []) = t48 := by kernel_rfl
theorem c48 {G : List Value} {h : H} {R : Value → List (List Value) → H → Prop} (hG : FitsL [.ptr] G) (H : holds Try.prog R t48 G [] h) : CallsA Try.prog 48 (fun e => SV.denL G (fun k => e (k - 1000000)) [(.val 0)]) ([].map (SV.denL G dE)) h R :=
  CallsA.of_ev (cf := ⟨allF, [], l48⟩) (fn := Try.f48) (c := bodyOf Try.f48) (pcs := []) Try.func48 (by rfl) callOK (by rfl) hG (by rfl) (by rw [show ([] : List (List SV)).map List.length = [] from rfl, e48]; exact H)
/-- What is left of outworker/run.bin. -/
def t49 : Out :=
 (.ite (.cmp .eql (.var 0) (.lit 1))
  (.done (.tup [(.int .i64 (.op .add .i64 (.var 1) (.var 2))), (.bool (.tt true))]) [])
  (.ite (.cmp .eql (.var 0) (.lit 2))
   (.done (.tup [(.int .i64 (.op .sub .i64 (.var 1) (.var 2))), (.bool (.tt true))]) [])
   (.ite (.cmp .eql (.var 0) (.lit 3))
    (.done (.tup [(.int .i64 (.op .mul .i64 (.var 1) (.var 2))), (.bool (.tt true))]) [])
    (.ite (.cmp .eql (.var 0) (.lit 4))
     (.done (.tup [(.int .i64 (.op .and .i64 (.var 1) (.var 2))), (.bool (.tt true))]) [])
     (.ite (.cmp .eql (.var 0) (.lit 5))
      (.done (.tup [(.int .i64 (.op .xor .i64 (.var 1) (.var 2))), (.bool (.tt true))]) [])
      (.ite (.cmp .eql (.var 0) (.lit 6))
       (.ite (.cmp .lss (.var 1) (.var 2))
        (.done (.tup [(.int .i64 (.lit 1)), (.bool (.tt true))]) [])
        (.done (.tup [(.int .i64 (.lit 0)), (.bool (.tt true))]) []))
       (.ite (.cmp .eql (.var 2) (.lit 0))
        (.done (.tup [(.int .i64 (.lit 0)), (.bool (.tt false))]) [])
        (.need (.tt true) [(.cmp .neq (.var 2) (.lit 0))] 
        (.done (.tup [(.int .i64 (.op .quo .i64 (.var 1) (.var 2))), (.bool (.tt true))]) [])))))))))
def l49 : List (Nat × List Nat × List (Nat × Nat) × List Nat) := []
theorem e49 : ev Try.prog ⟨allF, [], l49⟩ (bodyOf Try.f49) 0 (initSt [(.int .u8 (.var 0)), (.int .i64 (.var 1)), (.int .i64 (.var 2))] [] Try.f49.ntmps [.int .u8, .int .i64, .int .i64]) (finK Try.prog Try.f49.results []) = t49 := by kernel_rfl
theorem c49 {G : List Value} {h : H} {R : Value → List (List Value) → H → Prop} (hG : FitsL [.int .u8, .int .i64, .int .i64] G) (H : holds Try.prog R t49 G [] h) : CallsA Try.prog 49 (fun e => SV.denL G (fun k => e (k - 1000000)) [(.int .u8 (.var 0)), (.int .i64 (.var 1)), (.int .i64 (.var 2))]) ([].map (SV.denL G dE)) h R :=
  CallsA.of_ev (cf := ⟨allF, [], l49⟩) (fn := Try.f49) (c := bodyOf Try.f49) (pcs := []) Try.func49 (by rfl) callOK (by rfl) hG (by rfl) (by rw [show ([] : List (List SV)).map List.length = [] from rfl, e49]; exact H)
/-- What is left of (*outworker/run.state).word. -/
def t50 : Out :=
 (.need (.tt true) [(.not (.nilp 0))] 
 (.need (.tt true) [(.cmp .geq (.op .rem .u64 (.conv .u64 (.var 1)) (.lit 64)) (.lit 0)), (.cmp .lss (.op .rem .u64 (.conv .u64 (.var 1)) (.lit 64)) (.lit 64))] 
 (.done (.ptr (.idx (.fld (.fld (.var 0) 0) 3) (.op .rem .u64 (.conv .u64 (.var 1)) (.lit 64)) 1)) [])))
def l50 : List (Nat × List Nat × List (Nat × Nat) × List Nat) := []
theorem e50 : ev Try.prog ⟨allF, [], l50⟩ (bodyOf Try.f50) 0 (initSt [(.val 0), (.int .i64 (.var 1))] [] Try.f50.ntmps [.ptr, .int .i64]) (finK Try.prog Try.f50.results []) = t50 := by kernel_rfl
theorem c50 {G : List Value} {h : H} {R : Value → List (List Value) → H → Prop} (hG : FitsL [.ptr, .int .i64] G) (H : holds Try.prog R t50 G [] h) : CallsA Try.prog 50 (fun e => SV.denL G (fun k => e (k - 1000000)) [(.val 0), (.int .i64 (.var 1))]) ([].map (SV.denL G dE)) h R :=
  CallsA.of_ev (cf := ⟨allF, [], l50⟩) (fn := Try.f50) (c := bodyOf Try.f50) (pcs := []) Try.func50 (by rfl) callOK (by rfl) hG (by rfl) (by rw [show ([] : List (List SV)).map List.length = [] from rfl, e50]; exact H)
/-- What is left of (*outworker/run.state).call. -/
def t51 : Out :=
 (.loop 0 [(.int .i64 (.lit 0)), (.cst (.slice none 0 0))] [.int .i64, .sl] 
  (.ite (.cmp .lss (.var 8) (.len 7))
   (.need (.tt true) [(.cmp .geq (.var 8) (.lit 0)), (.cmp .lss (.var 8) (.len 7))] 
   (.load (.tt true) (.idx (.var 7) (.var 8) 1) [.int .i64] 
   (.need (.tt true) [(.not (.nilp 0))] 
   (.load (.tt true) (.fld (.var 0) 68) [.sl] 
   (.need (.tt true) [(.cmp .geq (.var 10) (.lit 0)), (.cmp .lss (.var 10) (.len 11))] 
   (.load (.tt true) (.idx (.var 11) (.var 10) 1) [.int .i64] 
   (.still (.tt true) (.fld (.var 0) 68) [(.val 11)] 
   (.app 2 1 8 (.val 9) (.cells [(.int .i64 (.var 12))] 1) 
   (.still (.tt true) (.fld (.var 0) 68) [(.val 11)] 
   (.again 0 [(.int .i64 (.op .add .i64 (.var 8) (.lit 1))), (.val 13)]))))))))))
   (.need (.tt true) [(.not (.nilp 0))] 
   (.load (.tt true) (.fld (.fld (.var 0) 0) 2) [.sl] 
   (.still (.tt true) (.fld (.fld (.var 0) 0) 2) [(.val 10)] 
   (.app 58 2 32 (.val 10) (.cells [(.int .i64 (.var 6)), (.val 9)] 1) 
   (.need (.tt true) [(.not (.nilp 0))] 
   (.store (.fld (.fld (.var 0) 0) 2) [(.val 11)] 
   (.need (.tt true) [(.not (.nilp 0))] 
   (.load (.tt true) (.fld (.var 0) 70) [.sl] 
   (.ite (.cmp .gtr (.len 12) (.lit 0))
    (.need (.tt true) [(.not (.nilp 0))] 
    (.load (.tt true) (.fld (.var 0) 70) [.sl] 
    (.need (.tt true) [(.tt true), (.cmp .lss (.lit 0) (.len 13))] 
    (.load (.tt true) (.idx (.var 13) (.lit 0) 1) [.int .i64] 
    (.need (.tt true) [(.not (.nilp 0))] 
    (.load (.tt true) (.fld (.var 0) 70) [.sl] 
    (.need (.tt true) [(.tt true), (.cmp .leq (.lit 1) (.len 15))] 
    (.bnd (.slice (.val 15) (some (.lit 1)) none 1) 
    (.still (.tt true) (.fld (.var 0) 70) [(.val 15)] 
    (.need (.tt true) [(.not (.nilp 0))] 
    (.store (.fld (.var 0) 70) [(.val 16)] 
    (.done (.int .i64 (.var 14)) []))))))))))))
    (.done (.int .i64 (.lit 0)) []))))))))))))
def l51 : List (Nat × List Nat × List (Nat × Nat) × List Nat) := [(3, [15], [(5, 1)], [16, 17, 18, 7, 19, 20, 21, 22, 23, 24, 25, 26, 27, 28, 29, 30, 31])]
theorem e51 : ev Try.prog ⟨allF, [], l51⟩ (bodyOf Try.f51) 0 (initSt [(.val 0), (.agg [(.int .u8 (.var 1)), (.int .u8 (.var 2)), (.int .i64 (.var 3)), (.int .i64 (.var 4)), (.int .i64 (.var 5)), (.int .i64 (.var 6)), (.val 7)])] [] Try.f51.ntmps [.ptr, .int .u8, .int .u8, .int .i64, .int .i64, .int .i64, .int .i64, .sl]) (finK Try.prog Try.f51.results []) = t51 := by kernel_rfl
theorem c51 {G : List Value} {h : H} {R : Value → List (List Value) → H → Prop} (hG : FitsL [.ptr, .int .u8, .int .u8, .int .i64, .int .i64, .int .i64, .int .i64, .sl] G) (H : holds Try.prog R t51 G [] h) : CallsA Try.prog 51 (fun e => SV.denL G (fun k => e (k - 1000000)) [(.val 0), (.agg [(.int .u8 (.var 1)), (.int .u8 (.var 2)), (.int .i64 (.var 3)), (.int .i64 (.var 4)), (.int .i64 (.var 5)), (.int .i64 (.var 6)), (.val 7)])]) ([].map (SV.denL G dE)) h R :=
  CallsA.of_ev (cf := ⟨allF, [], l51⟩) (fn := Try.f51) (c := bodyOf Try.f51) (pcs := []) Try.func51 (by rfl) callOK (by rfl) hG (by rfl) (by rw [show ([] : List (List SV)).map List.length = [] from rfl, e51]; exact H)
/-- What is left of outworker/mach.of. -/
def t52 : Out :=
 (.ite (.ite (.cmp .eql (.var 0) (.lit 7)) (.tt true) (.cmp .eql (.var 0) (.lit 8)))
  (.ite (.cmp .eql (.var 0) (.lit 8))
   (.ite (.ite (.ite (.ite (.cmp .neq (.var 1) (.lit 0)) (.tt true) (.cmp .neq (.var 4) (.lit 0))) (.tt true) (.cmp .neq (.var 5) (.lit 0))) (.tt true) (.cmp .gtr (.len 6) (.lit 0)))
    (.done (.int .i64 (.lit 20)) [])
    (.ite (.ite (.cmp .lss (.var 2) (.lit 0)) (.tt true) (.cmp .geq (.var 2) (.var 8)))
     (.done (.int .i64 (.lit 23)) [])
     (.ite (.ite (.cmp .lss (.var 3) (.lit 0)) (.tt true) (.cmp .geq (.var 3) (.var 9)))
      (.done (.int .i64 (.lit 24)) [])
      (.done (.int .i64 (.lit 0)) []))))
   (.ite (.ite (.ite (.ite (.cmp .neq (.var 1) (.lit 0)) (.tt true) (.cmp .neq (.var 4) (.lit 0))) (.tt true) (.cmp .neq (.var 5) (.lit 0))) (.tt true) (.cmp .gtr (.len 6) (.lit 0)))
    (.done (.int .i64 (.lit 20)) [])
    (.ite (.ite (.cmp .lss (.var 3) (.lit 0)) (.tt true) (.cmp .geq (.var 3) (.var 8)))
     (.done (.int .i64 (.lit 23)) [])
     (.ite (.ite (.cmp .lss (.var 2) (.lit 0)) (.tt true) (.cmp .geq (.var 2) (.var 9)))
      (.done (.int .i64 (.lit 24)) [])
      (.done (.int .i64 (.lit 0)) [])))))
  (.alloc 71 [(.int .u8 (.var 0)), (.int .u8 (.var 1)), (.int .i64 (.var 2)), (.int .i64 (.var 3)), (.int .i64 (.var 4)), (.int .i64 (.var 5)), (.val 6)] (.lsl 1) 
  (.alloc 66 [(.val 11), (.int .u8 (.lit 1)), (.int .i64 (.lit 0)), (.int .i64 (.lit 0)), (.int .i64 (.lit 0))] (.lsl 1) 
  (.call 35 [(.agg [(.int .i64 (.lit 0)), (.int .i64 (.var 8)), (.val 12)])] [] [] [] [(true, [.int .i64, .int .i64, .int .i64])] 
  (.call 53 [(.int .i64 (.var 13))] [] [] [] [(false, [.int .i64])] 
  (.done (.int .i64 (.var 16)) []))))))
def l52 : List (Nat × List Nat × List (Nat × Nat) × List Nat) := []
theorem e52 : ev Try.prog ⟨allF, [68, 71], l52⟩ (bodyOf Try.f52) 0 (initSt [(.agg [(.int .u8 (.var 0)), (.int .u8 (.var 1)), (.int .i64 (.var 2)), (.int .i64 (.var 3)), (.int .i64 (.var 4)), (.int .i64 (.var 5)), (.val 6)]), (.agg [(.int .i64 (.var 7)), (.int .i64 (.var 8)), (.int .i64 (.var 9)), (.val 10)])] [] Try.f52.ntmps [.int .u8, .int .u8, .int .i64, .int .i64, .int .i64, .int .i64, .sl, .int .i64, .int .i64, .int .i64, .sl]) (finK Try.prog Try.f52.results []) = t52 := by kernel_rfl
theorem c52 {G : List Value} {h : H} {R : Value → List (List Value) → H → Prop} (hG : FitsL [.int .u8, .int .u8, .int .i64, .int .i64, .int .i64, .int .i64, .sl, .int .i64, .int .i64, .int .i64, .sl] G) (H : holds Try.prog R t52 G [] h) : CallsA Try.prog 52 (fun e => SV.denL G (fun k => e (k - 1000000)) [(.agg [(.int .u8 (.var 0)), (.int .u8 (.var 1)), (.int .i64 (.var 2)), (.int .i64 (.var 3)), (.int .i64 (.var 4)), (.int .i64 (.var 5)), (.val 6)]), (.agg [(.int .i64 (.var 7)), (.int .i64 (.var 8)), (.int .i64 (.var 9)), (.val 10)])]) ([].map (SV.denL G dE)) h R :=
  CallsA.of_ev (cf := ⟨allF, [68, 71], l52⟩) (fn := Try.f52) (c := bodyOf Try.f52) (pcs := []) Try.func52 (by rfl) callOK (by rfl) hG (by rfl) (by rw [show ([] : List (List SV)).map List.length = [] from rfl, e52]; exact H)
/-- What is left of outworker/mach.vregs. -/
def t53 : Out :=
 (.ite (.cmp .eql (.var 0) (.lit 21))
  (.done (.int .i64 (.lit 23)) [])
  (.done (.int .i64 (.var 0)) []))
def l53 : List (Nat × List Nat × List (Nat × Nat) × List Nat) := []
theorem e53 : ev Try.prog ⟨allF, [], l53⟩ (bodyOf Try.f53) 0 (initSt [(.int .i64 (.var 0))] [] Try.f53.ntmps [.int .i64]) (finK Try.prog Try.f53.results []) = t53 := by kernel_rfl
theorem c53 {G : List Value} {h : H} {R : Value → List (List Value) → H → Prop} (hG : FitsL [.int .i64] G) (H : holds Try.prog R t53 G [] h) : CallsA Try.prog 53 (fun e => SV.denL G (fun k => e (k - 1000000)) [(.int .i64 (.var 0))]) ([].map (SV.denL G dE)) h R :=
  CallsA.of_ev (cf := ⟨allF, [], l53⟩) (fn := Try.f53) (c := bodyOf Try.f53) (pcs := []) Try.func53 (by rfl) callOK (by rfl) hG (by rfl) (by rw [show ([] : List (List SV)).map List.length = [] from rfl, e53]; exact H)
/-- What is left of outworker/ir.plain. -/
def t54 : Out :=
 (.ite (.cmp .eql (.var 0) (.lit 1))
  (.done (.bool (.ite (.ite (.ite (.ite (.ite (.cmp .eql (.var 1) (.lit 0)) (.cmp .eql (.var 2) (.var 2)) (.tt false)) (.cmp .eql (.var 3) (.lit 0)) (.tt false)) (.cmp .eql (.var 4) (.lit 0)) (.tt false)) (.cmp .eql (.var 5) (.var 5)) (.tt false)) (.ite (.cmp .eql (.len 6) (.lit 0)) (.tt true) (.cmp .eql (.var 0) (.lit 6))) (.tt false))) [])
  (.ite (.ite (.cmp .eql (.var 0) (.lit 2)) (.cmp .eql (.var 0) (.lit 2)) (.cmp .eql (.var 0) (.lit 4)))
   (.done (.bool (.ite (.ite (.ite (.ite (.ite (.cmp .eql (.var 1) (.lit 0)) (.cmp .eql (.var 2) (.var 2)) (.tt false)) (.cmp .eql (.var 3) (.var 3)) (.tt false)) (.cmp .eql (.var 4) (.lit 0)) (.tt false)) (.cmp .eql (.var 5) (.lit 0)) (.tt false)) (.ite (.cmp .eql (.len 6) (.lit 0)) (.tt true) (.cmp .eql (.var 0) (.lit 6))) (.tt false))) [])
   (.ite (.cmp .eql (.var 0) (.lit 3))
    (.done (.bool (.ite (.ite (.ite (.ite (.ite (.cmp .eql (.var 1) (.var 1)) (.cmp .eql (.var 2) (.var 2)) (.tt false)) (.cmp .eql (.var 3) (.var 3)) (.tt false)) (.cmp .eql (.var 4) (.var 4)) (.tt false)) (.cmp .eql (.var 5) (.lit 0)) (.tt false)) (.ite (.cmp .eql (.len 6) (.lit 0)) (.tt true) (.cmp .eql (.var 0) (.lit 6))) (.tt false))) [])
    (.ite (.cmp .eql (.var 0) (.lit 5))
     (.done (.bool (.ite (.ite (.ite (.ite (.ite (.cmp .eql (.var 1) (.lit 0)) (.cmp .eql (.var 2) (.lit 0)) (.tt false)) (.cmp .eql (.var 3) (.var 3)) (.tt false)) (.cmp .eql (.var 4) (.var 4)) (.tt false)) (.cmp .eql (.var 5) (.lit 0)) (.tt false)) (.ite (.cmp .eql (.len 6) (.lit 0)) (.tt true) (.cmp .eql (.var 0) (.lit 6))) (.tt false))) [])
     (.ite (.cmp .eql (.var 0) (.lit 6))
      (.done (.bool (.ite (.ite (.ite (.ite (.ite (.cmp .eql (.var 1) (.lit 0)) (.cmp .eql (.var 2) (.var 2)) (.tt false)) (.cmp .eql (.var 3) (.lit 0)) (.tt false)) (.cmp .eql (.var 4) (.lit 0)) (.tt false)) (.cmp .eql (.var 5) (.var 5)) (.tt false)) (.ite (.cmp .eql (.len 6) (.lit 0)) (.tt true) (.cmp .eql (.var 0) (.lit 6))) (.tt false))) [])
      (.done (.bool (.ite (.ite (.ite (.ite (.ite (.cmp .eql (.var 1) (.lit 0)) (.cmp .eql (.var 2) (.lit 0)) (.tt false)) (.cmp .eql (.var 3) (.lit 0)) (.tt false)) (.cmp .eql (.var 4) (.lit 0)) (.tt false)) (.cmp .eql (.var 5) (.lit 0)) (.tt false)) (.ite (.cmp .eql (.len 6) (.lit 0)) (.tt true) (.cmp .eql (.var 0) (.lit 6))) (.tt false))) []))))))
def l54 : List (Nat × List Nat × List (Nat × Nat) × List Nat) := []
theorem e54 : ev Try.prog ⟨allF, [], l54⟩ (bodyOf Try.f54) 0 (initSt [(.agg [(.int .u8 (.var 0)), (.int .u8 (.var 1)), (.int .i64 (.var 2)), (.int .i64 (.var 3)), (.int .i64 (.var 4)), (.int .i64 (.var 5)), (.val 6)])] [] Try.f54.ntmps [.int .u8, .int .u8, .int .i64, .int .i64, .int .i64, .int .i64, .sl]) (finK Try.prog Try.f54.results []) = t54 := by kernel_rfl
theorem c54 {G : List Value} {h : H} {R : Value → List (List Value) → H → Prop} (hG : FitsL [.int .u8, .int .u8, .int .i64, .int .i64, .int .i64, .int .i64, .sl] G) (H : holds Try.prog R t54 G [] h) : CallsA Try.prog 54 (fun e => SV.denL G (fun k => e (k - 1000000)) [(.agg [(.int .u8 (.var 0)), (.int .u8 (.var 1)), (.int .i64 (.var 2)), (.int .i64 (.var 3)), (.int .i64 (.var 4)), (.int .i64 (.var 5)), (.val 6)])]) ([].map (SV.denL G dE)) h R :=
  CallsA.of_ev (cf := ⟨allF, [], l54⟩) (fn := Try.f54) (c := bodyOf Try.f54) (pcs := []) Try.func54 (by rfl) callOK (by rfl) hG (by rfl) (by rw [show ([] : List (List SV)).map List.length = [] from rfl, e54]; exact H)
/-- What is left of outworker/ir.Uses. -/
def t55 : Out :=
 (.ite (.ite (.cmp .eql (.var 0) (.lit 2)) (.cmp .eql (.var 0) (.lit 2)) (.ite (.cmp .eql (.var 0) (.lit 4)) (.cmp .eql (.var 0) (.lit 4)) (.cmp .eql (.var 0) (.lit 7))))
  (.alloc 3 [(.int .i64 (.var 3))] (.lsl 1) 
  (.done (.val 7) []))
  (.ite (.ite (.cmp .eql (.var 0) (.lit 3)) (.cmp .eql (.var 0) (.lit 3)) (.cmp .eql (.var 0) (.lit 5)))
   (.alloc 3 [(.int .i64 (.var 3)), (.int .i64 (.var 4))] (.lsl 2) 
   (.done (.val 7) []))
   (.ite (.cmp .eql (.var 0) (.lit 6))
    (.alloc 3 [] (.lsl 0) 
    (.app 3 1 8 (.val 7) (.sl (.val 6)) 
    (.done (.val 8) [])))
    (.done (.cst (.slice none 0 0)) []))))
def l55 : List (Nat × List Nat × List (Nat × Nat) × List Nat) := []
theorem e55 : ev Try.prog ⟨allF, [11, 19, 22], l55⟩ (bodyOf Try.f55) 0 (initSt [(.agg [(.int .u8 (.var 0)), (.int .u8 (.var 1)), (.int .i64 (.var 2)), (.int .i64 (.var 3)), (.int .i64 (.var 4)), (.int .i64 (.var 5)), (.val 6)])] [] Try.f55.ntmps [.int .u8, .int .u8, .int .i64, .int .i64, .int .i64, .int .i64, .sl]) (finK Try.prog Try.f55.results []) = t55 := by kernel_rfl
theorem c55 {G : List Value} {h : H} {R : Value → List (List Value) → H → Prop} (hG : FitsL [.int .u8, .int .u8, .int .i64, .int .i64, .int .i64, .int .i64, .sl] G) (H : holds Try.prog R t55 G [] h) : CallsA Try.prog 55 (fun e => SV.denL G (fun k => e (k - 1000000)) [(.agg [(.int .u8 (.var 0)), (.int .u8 (.var 1)), (.int .i64 (.var 2)), (.int .i64 (.var 3)), (.int .i64 (.var 4)), (.int .i64 (.var 5)), (.val 6)])]) ([].map (SV.denL G dE)) h R :=
  CallsA.of_ev (cf := ⟨allF, [11, 19, 22], l55⟩) (fn := Try.f55) (c := bodyOf Try.f55) (pcs := []) Try.func55 (by rfl) callOK (by rfl) hG (by rfl) (by rw [show ([] : List (List SV)).map List.length = [] from rfl, e55]; exact H)
/-- What is left of outworker/ir.Gives. -/
def t56 : Out :=
 (.ite (.ite (.cmp .eql (.var 0) (.lit 1)) (.cmp .eql (.var 0) (.lit 1)) (.ite (.cmp .eql (.var 0) (.lit 2)) (.cmp .eql (.var 0) (.lit 2)) (.ite (.cmp .eql (.var 0) (.lit 3)) (.cmp .eql (.var 0) (.lit 3)) (.ite (.cmp .eql (.var 0) (.lit 4)) (.cmp .eql (.var 0) (.lit 4)) (.ite (.cmp .eql (.var 0) (.lit 6)) (.cmp .eql (.var 0) (.lit 6)) (.cmp .eql (.var 0) (.lit 8)))))))
  (.done (.tup [(.int .i64 (.var 2)), (.bool (.tt true))]) [])
  (.done (.tup [(.int .i64 (.lit 0)), (.bool (.tt false))]) []))
def l56 : List (Nat × List Nat × List (Nat × Nat) × List Nat) := []
theorem e56 : ev Try.prog ⟨allF, [], l56⟩ (bodyOf Try.f56) 0 (initSt [(.agg [(.int .u8 (.var 0)), (.int .u8 (.var 1)), (.int .i64 (.var 2)), (.int .i64 (.var 3)), (.int .i64 (.var 4)), (.int .i64 (.var 5)), (.val 6)])] [] Try.f56.ntmps [.int .u8, .int .u8, .int .i64, .int .i64, .int .i64, .int .i64, .sl]) (finK Try.prog Try.f56.results []) = t56 := by kernel_rfl
theorem c56 {G : List Value} {h : H} {R : Value → List (List Value) → H → Prop} (hG : FitsL [.int .u8, .int .u8, .int .i64, .int .i64, .int .i64, .int .i64, .sl] G) (H : holds Try.prog R t56 G [] h) : CallsA Try.prog 56 (fun e => SV.denL G (fun k => e (k - 1000000)) [(.agg [(.int .u8 (.var 0)), (.int .u8 (.var 1)), (.int .i64 (.var 2)), (.int .i64 (.var 3)), (.int .i64 (.var 4)), (.int .i64 (.var 5)), (.val 6)])]) ([].map (SV.denL G dE)) h R :=
  CallsA.of_ev (cf := ⟨allF, [], l56⟩) (fn := Try.f56) (c := bodyOf Try.f56) (pcs := []) Try.func56 (by rfl) callOK (by rfl) hG (by rfl) (by rw [show ([] : List (List SV)).map List.length = [] from rfl, e56]; exact H)
/-- What is left of outworker/ir.Last. -/
def t57 : Out :=
 (.done (.tup [(.int .i64 (.var 1)), (.bool (.ite (.cmp .eql (.var 0) (.lit 2)) (.tt true) (.cmp .eql (.var 0) (.lit 3))))]) [])
def l57 : List (Nat × List Nat × List (Nat × Nat) × List Nat) := []
theorem e57 : ev Try.prog ⟨allF, [], l57⟩ (bodyOf Try.f57) 0 (initSt [(.agg [(.int .u8 (.var 0)), (.int .i64 (.var 1)), (.int .i64 (.var 2)), (.int .i64 (.var 3))])] [] Try.f57.ntmps [.int .u8, .int .i64, .int .i64, .int .i64]) (finK Try.prog Try.f57.results []) = t57 := by kernel_rfl
theorem c57 {G : List Value} {h : H} {R : Value → List (List Value) → H → Prop} (hG : FitsL [.int .u8, .int .i64, .int .i64, .int .i64] G) (H : holds Try.prog R t57 G [] h) : CallsA Try.prog 57 (fun e => SV.denL G (fun k => e (k - 1000000)) [(.agg [(.int .u8 (.var 0)), (.int .i64 (.var 1)), (.int .i64 (.var 2)), (.int .i64 (.var 3))])]) ([].map (SV.denL G dE)) h R :=
  CallsA.of_ev (cf := ⟨allF, [], l57⟩) (fn := Try.f57) (c := bodyOf Try.f57) (pcs := []) Try.func57 (by rfl) callOK (by rfl) hG (by rfl) (by rw [show ([] : List (List SV)).map List.length = [] from rfl, e57]; exact H)
/-- What is left of outworker/outworkerref04.zero. -/
def t58 : Out :=
 (.loop 0 [(.int .i64 (.lit 0))] [.int .i64] 
  (.ite (.cmp .lss (.var 8) (.lit 6))
   (.need (.tt true) [(.cmp .geq (.var 8) (.lit 0)), (.cmp .lss (.var 8) (.slen (.str ⟨#[79, 68, 65, 66, 78, 82]⟩)))] 
   (.loop 1 [(.bool (.tt false)), (.int .i64 (.lit 0))] [.bool, .int .i64] 
    (.ite (.cmp .lss (.var 10) (.slen (.var 7)))
     (.need (.not (.var 9)) [(.cmp .geq (.var 10) (.lit 0)), (.cmp .lss (.var 10) (.slen (.var 7)))] 
     (.again 1 [(.bool (.ite (.var 9) (.tt true) (.cmp .eql (.byte (.var 7) (.var 10)) (.byte (.str ⟨#[79, 68, 65, 66, 78, 82]⟩) (.var 8))))), (.int .i64 (.op .add .i64 (.var 10) (.lit 1)))]))
     (.alloc 4 [(.bool (.cmp .neq (.var 1) (.lit 0))), (.bool (.cmp .neq (.var 2) (.lit 0))), (.bool (.cmp .neq (.var 3) (.lit 0))), (.bool (.cmp .neq (.var 4) (.lit 0))), (.bool (.cmp .neq (.var 5) (.lit 0))), (.bool (.cmp .gtr (.len 6) (.lit 0)))] (.lsl 6) 
     (.need (.tt true) [(.cmp .geq (.var 8) (.lit 0)), (.cmp .lss (.var 8) (.len 11))] 
     (.load (.tt true) (.idx (.var 11) (.var 8) 1) [.bool] 
     (.ite (.ite (.var 12) (.not (.var 9)) (.tt false))
      (.done (.bool (.tt false)) [])
      (.again 0 [(.int .i64 (.op .add .i64 (.var 8) (.lit 1)))]))))))))
   (.done (.bool (.tt true)) [])))
def l58 : List (Nat × List Nat × List (Nat × Nat) × List Nat) := [(2, [5], [], [10, 11, 14, 15, 6, 7, 8, 16, 17, 18, 19, 22, 23, 24, 25, 26, 27, 28, 29, 20, 21, 30, 31, 32, 33, 34, 35, 36, 37, 38, 39, 40, 41, 42, 43, 44, 45, 46, 47, 48, 49, 50, 51, 52, 9, 53, 54, 55, 56, 57, 4, 12, 13]), (7, [7, 8], [], [16, 17, 18, 19, 22, 23, 24, 25, 26, 27, 28, 29, 20, 21])]
theorem e58 : ev Try.prog ⟨allF, [49], l58⟩ (bodyOf Try.f58) 0 (initSt [(.agg [(.int .u8 (.var 0)), (.int .u8 (.var 1)), (.int .i64 (.var 2)), (.int .i64 (.var 3)), (.int .i64 (.var 4)), (.int .i64 (.var 5)), (.val 6)]), (.str (.var 7))] [] Try.f58.ntmps [.int .u8, .int .u8, .int .i64, .int .i64, .int .i64, .int .i64, .sl, .str]) (finK Try.prog Try.f58.results []) = t58 := by kernel_rfl
theorem c58 {G : List Value} {h : H} {R : Value → List (List Value) → H → Prop} (hG : FitsL [.int .u8, .int .u8, .int .i64, .int .i64, .int .i64, .int .i64, .sl, .str] G) (H : holds Try.prog R t58 G [] h) : CallsA Try.prog 58 (fun e => SV.denL G (fun k => e (k - 1000000)) [(.agg [(.int .u8 (.var 0)), (.int .u8 (.var 1)), (.int .i64 (.var 2)), (.int .i64 (.var 3)), (.int .i64 (.var 4)), (.int .i64 (.var 5)), (.val 6)]), (.str (.var 7))]) ([].map (SV.denL G dE)) h R :=
  CallsA.of_ev (cf := ⟨allF, [49], l58⟩) (fn := Try.f58) (c := bodyOf Try.f58) (pcs := []) Try.func58 (by rfl) callOK (by rfl) hG (by rfl) (by rw [show ([] : List (List SV)).map List.length = [] from rfl, e58]; exact H)
/-- What is left of outworker/outworkerref04.names. -/
def t59 : Out :=
 (.alloc 9 [(.str (.str ⟨#[]⟩)), (.str (.str ⟨#[68, 78]⟩)), (.str (.str ⟨#[68, 65]⟩)), (.str (.str ⟨#[79, 68, 65, 66]⟩)), (.str (.str ⟨#[68, 65]⟩)), (.str (.str ⟨#[65, 66]⟩)), (.str (.str ⟨#[68, 78, 82]⟩)), (.str (.str ⟨#[68, 65]⟩)), (.str (.str ⟨#[68, 65]⟩))] (.lsl 9) 
 (.need (.tt true) [(.cmp .geq (.var 0) (.lit 0)), (.cmp .lss (.var 0) (.len 1))] 
 (.load (.tt true) (.idx (.var 1) (.var 0) 1) [.str] 
 (.done (.str (.var 2)) []))))
def l59 : List (Nat × List Nat × List (Nat × Nat) × List Nat) := []
theorem e59 : ev Try.prog ⟨allF, [3], l59⟩ (bodyOf Try.f59) 0 (initSt [(.int .u8 (.var 0))] [] Try.f59.ntmps [.int .u8]) (finK Try.prog Try.f59.results []) = t59 := by kernel_rfl
theorem c59 {G : List Value} {h : H} {R : Value → List (List Value) → H → Prop} (hG : FitsL [.int .u8] G) (H : holds Try.prog R t59 G [] h) : CallsA Try.prog 59 (fun e => SV.denL G (fun k => e (k - 1000000)) [(.int .u8 (.var 0))]) ([].map (SV.denL G dE)) h R :=
  CallsA.of_ev (cf := ⟨allF, [3], l59⟩) (fn := Try.f59) (c := bodyOf Try.f59) (pcs := []) Try.func59 (by rfl) callOK (by rfl) hG (by rfl) (by rw [show ([] : List (List SV)).map List.length = [] from rfl, e59]; exact H)
/-- What is left of outworker/outworkerref04.Uses. -/
def t60 : Out :=
 (.ite (.ite (.cmp .eql (.var 0) (.lit 2)) (.cmp .eql (.var 0) (.lit 2)) (.ite (.cmp .eql (.var 0) (.lit 4)) (.cmp .eql (.var 0) (.lit 4)) (.cmp .eql (.var 0) (.lit 7))))
  (.alloc 3 [(.int .i64 (.var 3))] (.lsl 1) 
  (.done (.val 7) []))
  (.ite (.ite (.cmp .eql (.var 0) (.lit 3)) (.cmp .eql (.var 0) (.lit 3)) (.cmp .eql (.var 0) (.lit 5)))
   (.alloc 3 [(.int .i64 (.var 3)), (.int .i64 (.var 4))] (.lsl 2) 
   (.done (.val 7) []))
   (.ite (.cmp .eql (.var 0) (.lit 6))
    (.done (.val 6) [])
    (.done (.cst (.slice none 0 0)) []))))
def l60 : List (Nat × List Nat × List (Nat × Nat) × List Nat) := []
theorem e60 : ev Try.prog ⟨allF, [11, 19], l60⟩ (bodyOf Try.f60) 0 (initSt [(.agg [(.int .u8 (.var 0)), (.int .u8 (.var 1)), (.int .i64 (.var 2)), (.int .i64 (.var 3)), (.int .i64 (.var 4)), (.int .i64 (.var 5)), (.val 6)])] [] Try.f60.ntmps [.int .u8, .int .u8, .int .i64, .int .i64, .int .i64, .int .i64, .sl]) (finK Try.prog Try.f60.results []) = t60 := by kernel_rfl
theorem c60 {G : List Value} {h : H} {R : Value → List (List Value) → H → Prop} (hG : FitsL [.int .u8, .int .u8, .int .i64, .int .i64, .int .i64, .int .i64, .sl] G) (H : holds Try.prog R t60 G [] h) : CallsA Try.prog 60 (fun e => SV.denL G (fun k => e (k - 1000000)) [(.agg [(.int .u8 (.var 0)), (.int .u8 (.var 1)), (.int .i64 (.var 2)), (.int .i64 (.var 3)), (.int .i64 (.var 4)), (.int .i64 (.var 5)), (.val 6)])]) ([].map (SV.denL G dE)) h R :=
  CallsA.of_ev (cf := ⟨allF, [11, 19], l60⟩) (fn := Try.f60) (c := bodyOf Try.f60) (pcs := []) Try.func60 (by rfl) callOK (by rfl) hG (by rfl) (by rw [show ([] : List (List SV)).map List.length = [] from rfl, e60]; exact H)
/-- What is left of outworker/outworkerref04.Gives. -/
def t61 : Out :=
 (.done (.bool (.ite (.ite (.ite (.ite (.ite (.cmp .eql (.var 0) (.lit 1)) (.tt true) (.cmp .eql (.var 0) (.lit 2))) (.tt true) (.cmp .eql (.var 0) (.lit 3))) (.tt true) (.cmp .eql (.var 0) (.lit 4))) (.tt true) (.cmp .eql (.var 0) (.lit 6))) (.tt true) (.cmp .eql (.var 0) (.lit 8)))) [])
def l61 : List (Nat × List Nat × List (Nat × Nat) × List Nat) := []
theorem e61 : ev Try.prog ⟨allF, [], l61⟩ (bodyOf Try.f61) 0 (initSt [(.int .u8 (.var 0))] [] Try.f61.ntmps [.int .u8]) (finK Try.prog Try.f61.results []) = t61 := by kernel_rfl
theorem c61 {G : List Value} {h : H} {R : Value → List (List Value) → H → Prop} (hG : FitsL [.int .u8] G) (H : holds Try.prog R t61 G [] h) : CallsA Try.prog 61 (fun e => SV.denL G (fun k => e (k - 1000000)) [(.int .u8 (.var 0))]) ([].map (SV.denL G dE)) h R :=
  CallsA.of_ev (cf := ⟨allF, [], l61⟩) (fn := Try.f61) (c := bodyOf Try.f61) (pcs := []) Try.func61 (by rfl) callOK (by rfl) hG (by rfl) (by rw [show ([] : List (List SV)).map List.length = [] from rfl, e61]; exact H)
/-- What is left of outworker/outworkerref04.Takes. -/
def t62 : Out :=
 (.done (.bool (.ite (.cmp .eql (.var 0) (.lit 2)) (.tt true) (.cmp .eql (.var 0) (.lit 3)))) [])
def l62 : List (Nat × List Nat × List (Nat × Nat) × List Nat) := []
theorem e62 : ev Try.prog ⟨allF, [], l62⟩ (bodyOf Try.f62) 0 (initSt [(.agg [(.int .u8 (.var 0)), (.int .i64 (.var 1)), (.int .i64 (.var 2)), (.int .i64 (.var 3))])] [] Try.f62.ntmps [.int .u8, .int .i64, .int .i64, .int .i64]) (finK Try.prog Try.f62.results []) = t62 := by kernel_rfl
theorem c62 {G : List Value} {h : H} {R : Value → List (List Value) → H → Prop} (hG : FitsL [.int .u8, .int .i64, .int .i64, .int .i64] G) (H : holds Try.prog R t62 G [] h) : CallsA Try.prog 62 (fun e => SV.denL G (fun k => e (k - 1000000)) [(.agg [(.int .u8 (.var 0)), (.int .i64 (.var 1)), (.int .i64 (.var 2)), (.int .i64 (.var 3))])]) ([].map (SV.denL G dE)) h R :=
  CallsA.of_ev (cf := ⟨allF, [], l62⟩) (fn := Try.f62) (c := bodyOf Try.f62) (pcs := []) Try.func62 (by rfl) callOK (by rfl) hG (by rfl) (by rw [show ([] : List (List SV)).map List.length = [] from rfl, e62]; exact H)
end Go.Proofs.Ytodeffobplpcnaa
