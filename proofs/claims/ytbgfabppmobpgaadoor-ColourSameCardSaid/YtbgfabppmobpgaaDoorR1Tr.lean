/-
  What the evaluator leaves of the functions of this seat (trees, printed by a program of ours), and their contracts from it. Conditions: none.
-/
import Derived.Test.YtbgfabppmobpgaaDoorEc
import Derived.Test.YtbgfabppmobpgaaDoorProg
set_option linter.unusedVariables false
set_option linter.unusedSimpArgs false
namespace Go.Proofs.YtbgfabppmobpgaaDoor
open Go

def bodyOf (fn : Func) : Code := match fn.body with | some c => c | none => .seq (.exit 0) (.exit 0)
def allF : List Nat := [2, 3, 4, 5, 6, 7, 8, 9, 10, 11, 12, 13, 14, 15, 16, 17, 18, 19, 20, 21, 22, 23, 24, 25, 26, 27, 28, 29, 30, 31, 32, 33, 34, 35, 36, 37, 38, 39, 40, 41, 42, 43, 44, 45, 46, 47, 48, 49, 50, 51, 52, 53, 54, 55, 56, 57, 58, 59, 60, 61, 62, 63, 64, 84]
theorem callOK : CallOK Tryd.prog allF := by
  intro f hf args w
  simp only [allF, List.mem_cons, List.not_mem_nil, or_false] at hf
  rcases hf with rfl | rfl | rfl | rfl | rfl | rfl | rfl | rfl | rfl | rfl | rfl | rfl | rfl | rfl | rfl | rfl | rfl | rfl | rfl | rfl | rfl | rfl | rfl | rfl | rfl | rfl | rfl | rfl | rfl | rfl | rfl | rfl | rfl | rfl | rfl | rfl | rfl | rfl | rfl | rfl | rfl | rfl | rfl | rfl | rfl | rfl | rfl | rfl | rfl | rfl | rfl | rfl | rfl | rfl | rfl | rfl | rfl | rfl | rfl | rfl | rfl | rfl | rfl | rfl
  · exact Tryd.call2 args w
  · exact Tryd.call3 args w
  · exact Tryd.call4 args w
  · exact Tryd.call5 args w
  · exact Tryd.call6 args w
  · exact Tryd.call7 args w
  · exact Tryd.call8 args w
  · exact Tryd.call9 args w
  · exact Tryd.call10 args w
  · exact Tryd.call11 args w
  · exact Tryd.call12 args w
  · exact Tryd.call13 args w
  · exact Tryd.call14 args w
  · exact Tryd.call15 args w
  · exact Tryd.call16 args w
  · exact Tryd.call17 args w
  · exact Tryd.call18 args w
  · exact Tryd.call19 args w
  · exact Tryd.call20 args w
  · exact Tryd.call21 args w
  · exact Tryd.call22 args w
  · exact Tryd.call23 args w
  · exact Tryd.call24 args w
  · exact Tryd.call25 args w
  · exact Tryd.call26 args w
  · exact Tryd.call27 args w
  · exact Tryd.call28 args w
  · exact Tryd.call29 args w
  · exact Tryd.call30 args w
  · exact Tryd.call31 args w
  · exact Tryd.call32 args w
  · exact Tryd.call33 args w
  · exact Tryd.call34 args w
  · exact Tryd.call35 args w
  · exact Tryd.call36 args w
  · exact Tryd.call37 args w
  · exact Tryd.call38 args w
  · exact Tryd.call39 args w
  · exact Tryd.call40 args w
  · exact Tryd.call41 args w
  · exact Tryd.call42 args w
  · exact Tryd.call43 args w
  · exact Tryd.call44 args w
  · exact Tryd.call45 args w
  · exact Tryd.call46 args w
  · exact Tryd.call47 args w
  · exact Tryd.call48 args w
  · exact Tryd.call49 args w
  · exact Tryd.call50 args w
  · exact Tryd.call51 args w
  · exact Tryd.call52 args w
  · exact Tryd.call53 args w
  · exact Tryd.call54 args w
  · exact Tryd.call55 args w
  · exact Tryd.call56 args w
  · exact Tryd.call57 args w
  · exact Tryd.call58 args w
  · exact Tryd.call59 args w
  · exact Tryd.call60 args w
  · exact Tryd.call61 args w
  · exact Tryd.call62 args w
  · exact Tryd.call63 args w
  · exact Tryd.call64 args w
  · exact Tryd.call84 args w
/-- What is left of outworker/outworkerlaw17.Awake. -/
def t11 : Out :=
 (.alloc 41 [(.int .i64 (.lit 0)), (.int .i64 (.lit 1)), (.int .i64 (.lit 0)), (.int .i64 (.lit 2)), (.int .i64 (.lit 1)), (.int .i64 (.lit 2))] (.lsl 3) 
 (.alloc 3 [(.int .i64 (.lit 5)), (.int .i64 (.lit 1)), (.int .i64 (.lit 9))] (.lsl 3) 
 (.call 14 [(.agg [(.int .i64 (.lit 3)), (.val 0), (.cst (.slice none 0 0))]), (.int .i64 (.lit 2)), (.val 1)] [] [] [] [(false, [.sl]), (false, [.int .i64]), (false, [.int .i64])] 
 (.need (.ite (.ite (.cmp .eql (.var 4) (.lit 0)) (.cmp .eql (.var 3) (.lit 1)) (.tt false)) (.cmp .eql (.len 2) (.lit 3)) (.tt false)) [(.tt true), (.cmp .lss (.lit 1) (.len 2))] 
 (.load (.ite (.ite (.cmp .eql (.var 4) (.lit 0)) (.cmp .eql (.var 3) (.lit 1)) (.tt false)) (.cmp .eql (.len 2) (.lit 3)) (.tt false)) (.idx (.var 2) (.lit 1) 1) [.int .i64] 
 (.need (.ite (.ite (.ite (.cmp .eql (.var 4) (.lit 0)) (.cmp .eql (.var 3) (.lit 1)) (.tt false)) (.cmp .eql (.len 2) (.lit 3)) (.tt false)) (.cmp .eql (.var 5) (.lit (-1))) (.tt false)) [(.tt true), (.cmp .lss (.lit 0) (.len 2))] 
 (.load (.ite (.ite (.ite (.cmp .eql (.var 4) (.lit 0)) (.cmp .eql (.var 3) (.lit 1)) (.tt false)) (.cmp .eql (.len 2) (.lit 3)) (.tt false)) (.cmp .eql (.var 5) (.lit (-1))) (.tt false)) (.idx (.var 2) (.lit 0) 1) [.int .i64] 
 (.need (.ite (.ite (.ite (.ite (.cmp .eql (.var 4) (.lit 0)) (.cmp .eql (.var 3) (.lit 1)) (.tt false)) (.cmp .eql (.len 2) (.lit 3)) (.tt false)) (.cmp .eql (.var 5) (.lit (-1))) (.tt false)) (.cmp .geq (.var 6) (.lit 0)) (.tt false)) [(.tt true), (.cmp .lss (.lit 2) (.len 2))] 
 (.load (.ite (.ite (.ite (.ite (.cmp .eql (.var 4) (.lit 0)) (.cmp .eql (.var 3) (.lit 1)) (.tt false)) (.cmp .eql (.len 2) (.lit 3)) (.tt false)) (.cmp .eql (.var 5) (.lit (-1))) (.tt false)) (.cmp .geq (.var 6) (.lit 0)) (.tt false)) (.idx (.var 2) (.lit 2) 1) [.int .i64] 
 (.done (.bool (.ite (.ite (.ite (.ite (.ite (.cmp .eql (.var 4) (.lit 0)) (.cmp .eql (.var 3) (.lit 1)) (.tt false)) (.cmp .eql (.len 2) (.lit 3)) (.tt false)) (.cmp .eql (.var 5) (.lit (-1))) (.tt false)) (.cmp .geq (.var 6) (.lit 0)) (.tt false)) (.cmp .geq (.var 7) (.lit 0)) (.tt false))) []))))))))))
def l11 : List (Nat × List Nat × List (Nat × Nat) × List Nat) := []
theorem e11 : ev Tryd.prog ⟨allF, [8, 12], l11⟩ (bodyOf Tryd.f11) 0 (initSt [] [] Tryd.f11.ntmps []) (finK Tryd.prog Tryd.f11.results []) = t11 := by kernel_rfl
theorem c11 {G : List Value} {h : H} {R : Value → List (List Value) → H → Prop} (hG : FitsL [] G) (H : holds Tryd.prog R t11 G [] h) : CallsA Tryd.prog 11 (fun e => SV.denL G (fun k => e (k - 1000000)) []) ([].map (SV.denL G dE)) h R :=
  CallsA.of_ev (cf := ⟨allF, [8, 12], l11⟩) (fn := Tryd.f11) (c := bodyOf Tryd.f11) (pcs := []) Tryd.func11 (by rfl) callOK (by rfl) hG (by rfl) (by rw [show ([] : List (List SV)).map List.length = [] from rfl, e11]; exact H)
/-- What is left of outworker/outworkerlaw15.Made. -/
def t12 : Out :=
 (.loop 0 [(.int .i64 (.lit 0)), (.int .i64 (.lit 0)), (.cst (.slice none 0 0)), (.cst (.slice none 0 0))] [.int .i64, .int .i64, .sl, .sl] 
  (.ite (.cmp .lss (.var 4) (.conv .i64 (.op .rem .u8 (.var 0) (.lit 13))))
   (.loop 1 [(.int .i64 (.var 3)), (.int .i64 (.op .add .i64 (.var 4) (.lit 1))), (.val 5), (.val 6)] [.int .i64, .int .i64, .sl, .sl] 
    (.ite (.cmp .lss (.var 8) (.conv .i64 (.op .rem .u8 (.var 0) (.lit 13))))
     (.need (.cmp .lss (.var 7) (.len 1)) [(.cmp .geq (.var 7) (.lit 0)), (.cmp .lss (.var 7) (.len 1))] 
     (.load (.cmp .lss (.var 7) (.len 1)) (.idx (.var 1) (.var 7) 1) [.int .u8] 
     (.ite (.ite (.cmp .lss (.var 7) (.len 1)) (.cmp .eql (.op .rem .u8 (.var 11) (.lit 2)) (.lit 1)) (.tt false))
      (.app 41 2 16 (.val 9) (.cells [(.int .i64 (.var 4)), (.int .i64 (.var 8))] 1) 
      (.again 1 [(.int .i64 (.op .add .i64 (.var 7) (.lit 1))), (.int .i64 (.op .add .i64 (.var 8) (.lit 1))), (.val 12), (.val 10)]))
      (.need (.cmp .lss (.var 7) (.len 2)) [(.cmp .geq (.var 7) (.lit 0)), (.cmp .lss (.var 7) (.len 2))] 
      (.load (.cmp .lss (.var 7) (.len 2)) (.idx (.var 2) (.var 7) 1) [.int .u8] 
      (.ite (.ite (.cmp .lss (.var 7) (.len 2)) (.cmp .eql (.op .rem .u8 (.var 12) (.lit 3)) (.lit 1)) (.tt false))
       (.app 41 2 16 (.val 10) (.cells [(.int .i64 (.var 4)), (.int .i64 (.var 8))] 1) 
       (.again 1 [(.int .i64 (.op .add .i64 (.var 7) (.lit 1))), (.int .i64 (.op .add .i64 (.var 8) (.lit 1))), (.val 9), (.val 13)]))
       (.again 1 [(.int .i64 (.op .add .i64 (.var 7) (.lit 1))), (.int .i64 (.op .add .i64 (.var 8) (.lit 1))), (.val 9), (.val 10)])))))))
     (.again 0 [(.int .i64 (.var 7)), (.int .i64 (.op .add .i64 (.var 4) (.lit 1))), (.val 9), (.val 10)])))
   (.done (.agg [(.int .i64 (.conv .i64 (.op .rem .u8 (.var 0) (.lit 13)))), (.val 5), (.val 6)]) [])))
def l12 : List (Nat × List Nat × List (Nat × Nat) × List Nat) := [(4, [8, 18], [(7, 1), (7, 2)], [19, 20, 9, 21, 22, 10, 23, 24, 25, 26, 29, 30, 31, 32, 33, 34, 35, 36, 37, 38, 39, 40, 11, 41, 42, 43, 44, 45, 46, 47, 48, 49, 50, 51, 52, 53, 54, 55, 56, 57, 58, 59, 60, 61, 62, 63, 64, 65, 66, 67, 68, 69, 70, 71, 72, 73, 74, 75, 27, 28, 76]), (7, [8, 10], [(7, 1), (7, 2)], [23, 24, 25, 26, 29, 30, 31, 32, 33, 34, 35, 36, 37, 38, 39, 40, 11, 41, 42, 43, 44, 45, 46, 47, 48, 49, 50, 51, 52, 53, 54, 55, 56, 57, 58, 59, 60, 61, 62, 63, 64, 65, 66, 67, 68, 69, 70, 71, 72, 73, 74, 75, 27, 28])]
theorem e12 : ev Tryd.prog ⟨allF, [], l12⟩ (bodyOf Tryd.f12) 0 (initSt [(.int .u8 (.var 0)), (.val 1), (.val 2)] [] Tryd.f12.ntmps [.int .u8, .sl, .sl]) (finK Tryd.prog Tryd.f12.results []) = t12 := by kernel_rfl
theorem c12 {G : List Value} {h : H} {R : Value → List (List Value) → H → Prop} (hG : FitsL [.int .u8, .sl, .sl] G) (H : holds Tryd.prog R t12 G [] h) : CallsA Tryd.prog 12 (fun e => SV.denL G (fun k => e (k - 1000000)) [(.int .u8 (.var 0)), (.val 1), (.val 2)]) ([].map (SV.denL G dE)) h R :=
  CallsA.of_ev (cf := ⟨allF, [], l12⟩) (fn := Tryd.f12) (c := bodyOf Tryd.f12) (pcs := []) Tryd.func12 (by rfl) callOK (by rfl) hG (by rfl) (by rw [show ([] : List (List SV)).map List.length = [] from rfl, e12]; exact H)
/-- What is left of outworker/outworkerlaw17.costs. -/
def t13 : Out :=
 (.mk 3 1 8 (.var 0) 
 (.loop 0 [(.int .i64 (.lit 0))] [.int .i64] 
  (.ite (.cmp .lss (.var 3) (.len 2))
   (.need (.tt true) [(.cmp .geq (.var 3) (.lit 0)), (.cmp .lss (.var 3) (.len 2))] 
   (.store (.idx (.var 2) (.var 3) 1) [(.int .i64 (.lit 1))] 
   (.ite (.cmp .lss (.var 3) (.len 1))
    (.need (.tt true) [(.cmp .geq (.var 3) (.lit 0)), (.cmp .lss (.var 3) (.len 1))] 
    (.load (.tt true) (.idx (.var 1) (.var 3) 1) [.int .u16] 
    (.need (.tt true) [(.cmp .geq (.var 3) (.lit 0)), (.cmp .lss (.var 3) (.len 2))] 
    (.store (.idx (.var 2) (.var 3) 1) [(.int .i64 (.op .add .i64 (.lit 1) (.conv .i64 (.op .rem .u16 (.var 4) (.lit 1000)))))] 
    (.again 0 [(.int .i64 (.op .add .i64 (.var 3) (.lit 1)))])))))
    (.again 0 [(.int .i64 (.op .add .i64 (.var 3) (.lit 1)))]))))
   (.done (.val 2) []))))
def l13 : List (Nat × List Nat × List (Nat × Nat) × List Nat) := [(3, [11], [], [12, 13, 6, 14, 15, 16, 17, 18, 19, 20, 21, 22, 23, 24, 25, 26, 27, 28, 29, 30, 31])]
theorem e13 : ev Tryd.prog ⟨allF, [], l13⟩ (bodyOf Tryd.f13) 0 (initSt [(.int .i64 (.var 0)), (.val 1)] [] Tryd.f13.ntmps [.int .i64, .sl]) (finK Tryd.prog Tryd.f13.results []) = t13 := by kernel_rfl
theorem c13 {G : List Value} {h : H} {R : Value → List (List Value) → H → Prop} (hG : FitsL [.int .i64, .sl] G) (H : holds Tryd.prog R t13 G [] h) : CallsA Tryd.prog 13 (fun e => SV.denL G (fun k => e (k - 1000000)) [(.int .i64 (.var 0)), (.val 1)]) ([].map (SV.denL G dE)) h R :=
  CallsA.of_ev (cf := ⟨allF, [], l13⟩) (fn := Tryd.f13) (c := bodyOf Tryd.f13) (pcs := []) Tryd.func13 (by rfl) callOK (by rfl) hG (by rfl) (by rw [show ([] : List (List SV)).map List.length = [] from rfl, e13]; exact H)
/-- What is left of outworker/search.Best. -/
def t14 : Out :=
 (.call 25 [(.agg [(.int .i64 (.var 0)), (.val 1), (.val 2)])] [] [] [] [(false, [.bool])] 
 (.ite (.ite (.not (.var 5)) (.tt true) (.cmp .neq (.len 4) (.var 0)))
  (.done (.tup [(.cst (.slice none 0 0)), (.int .i64 (.lit 0)), (.int .i64 (.lit 30))]) [])
  (.ite (.ite (.cmp .lss (.var 3) (.lit 1)) (.tt true) (.cmp .gtr (.var 3) (.lit 8)))
   (.done (.tup [(.cst (.slice none 0 0)), (.int .i64 (.lit 0)), (.int .i64 (.lit 40))]) [])
   (.ite (.cmp .gtr (.var 0) (.lit 14))
    (.done (.tup [(.cst (.slice none 0 0)), (.int .i64 (.lit 0)), (.int .i64 (.lit 9))]) [])
    (.loop 0 [(.int .i64 (.lit 1)), (.int .i64 (.lit 0))] [.int .i64, .int .i64] 
     (.ite (.cmp .lss (.var 7) (.len 4))
      (.need (.tt true) [(.cmp .geq (.var 7) (.lit 0)), (.cmp .lss (.var 7) (.len 4))] 
      (.load (.tt true) (.idx (.var 4) (.var 7) 1) [.int .i64] 
      (.ite (.ite (.cmp .lss (.var 8) (.lit 1)) (.tt true) (.cmp .gtr (.var 8) (.lit 1000)))
       (.done (.tup [(.cst (.slice none 0 0)), (.int .i64 (.lit 0)), (.int .i64 (.lit 2))]) [])
       (.again 0 [(.int .i64 (.op .add .i64 (.var 6) (.var 8))), (.int .i64 (.op .add .i64 (.var 7) (.lit 1)))]))))
      (.both 
       (.call 26 [(.agg [(.int .i64 (.var 0)), (.val 1), (.val 2)])] [] [] [] [(false, [.sl])] 
       (.mk 3 1 8 (.var 0) 
       (.call 27 [(.loc 60 0), (.int .i64 (.lit 0)), (.int .i64 (.lit 0)), (.int .i64 (.lit 0))] [60] [[(.val 8), (.val 4), (.int .i64 (.var 3)), (.val 9), (.cst (.slice none 0 0)), (.int .i64 (.var 6))]] [[.sl, .sl, .int .i64, .sl, .sl, .int .i64]] [] 
       (.done (.tup [(.val 14), (.int .i64 (.var 15)), (.int .i64 (.lit 0))]) [])))) 
       (.mk 3 1 8 (.var 0) 
       (.call 26 [(.agg [(.int .i64 (.var 0)), (.val 1), (.val 2)])] [] [] [] [(false, [.sl])] 
       (.call 27 [(.loc 60 0), (.int .i64 (.lit 0)), (.int .i64 (.lit 0)), (.int .i64 (.lit 0))] [60] [[(.val 9), (.val 4), (.int .i64 (.var 3)), (.val 8), (.cst (.slice none 0 0)), (.int .i64 (.var 6))]] [[.sl, .sl, .int .i64, .sl, .sl, .int .i64]] [] 
       (.done (.tup [(.val 14), (.int .i64 (.var 15)), (.int .i64 (.lit 0))]) [])))))))))))
def l14 : List (Nat × List Nat × List (Nat × Nat) × List Nat) := [(9, [9, 37], [], [38, 39, 40, 11, 41, 42, 43, 44, 45, 46, 6, 7, 8, 47, 48, 49, 50])]
theorem e14 : ev Tryd.prog ⟨allF, [], l14⟩ (bodyOf Tryd.f14) 0 (initSt [(.agg [(.int .i64 (.var 0)), (.val 1), (.val 2)]), (.int .i64 (.var 3)), (.val 4)] [] Tryd.f14.ntmps [.int .i64, .sl, .sl, .int .i64, .sl]) (finK Tryd.prog Tryd.f14.results []) = t14 := by kernel_rfl
theorem c14 {G : List Value} {h : H} {R : Value → List (List Value) → H → Prop} (hG : FitsL [.int .i64, .sl, .sl, .int .i64, .sl] G) (H : holds Tryd.prog R t14 G [] h) : CallsA Tryd.prog 14 (fun e => SV.denL G (fun k => e (k - 1000000)) [(.agg [(.int .i64 (.var 0)), (.val 1), (.val 2)]), (.int .i64 (.var 3)), (.val 4)]) ([].map (SV.denL G dE)) h R :=
  CallsA.of_ev (cf := ⟨allF, [], l14⟩) (fn := Tryd.f14) (c := bodyOf Tryd.f14) (pcs := []) Tryd.func14 (by rfl) callOK (by rfl) hG (by rfl) (by rw [show ([] : List (List SV)).map List.length = [] from rfl, e14]; exact H)
/-- What is left of outworker/outworkerref10.Fits. -/
def t15 : Out :=
 (.ite (.cmp .neq (.len 4) (.var 0))
  (.done (.bool (.tt false)) [])
  (.loop 0 [(.int .i64 (.lit 0))] [.int .i64] 
   (.ite (.cmp .lss (.var 5) (.len 4))
    (.need (.tt true) [(.cmp .geq (.var 5) (.lit 0)), (.cmp .lss (.var 5) (.len 4))] 
    (.load (.tt true) (.idx (.var 4) (.var 5) 1) [.int .i64] 
    (.need (.not (.cmp .lss (.var 6) (.lit (-1)))) [(.cmp .geq (.var 5) (.lit 0)), (.cmp .lss (.var 5) (.len 4))] 
    (.load (.not (.cmp .lss (.var 6) (.lit (-1)))) (.idx (.var 4) (.var 5) 1) [.int .i64] 
    (.ite (.ite (.cmp .lss (.var 6) (.lit (-1))) (.tt true) (.cmp .geq (.var 7) (.var 3)))
     (.done (.bool (.tt false)) [])
     (.again 0 [(.int .i64 (.op .add .i64 (.var 5) (.lit 1)))]))))))
    (.loop 0 [(.int .i64 (.lit 0))] [.int .i64] 
     (.ite (.cmp .lss (.var 6) (.len 1))
      (.need (.tt true) [(.cmp .geq (.var 6) (.lit 0)), (.cmp .lss (.var 6) (.len 1))] 
      (.load (.tt true) (.fld (.idx (.var 1) (.var 6) 2) 0) [.int .i64] 
      (.need (.tt true) [(.cmp .geq (.var 7) (.lit 0)), (.cmp .lss (.var 7) (.len 4))] 
      (.load (.tt true) (.idx (.var 4) (.var 7) 1) [.int .i64] 
      (.need (.cmp .geq (.var 8) (.lit 0)) [(.cmp .geq (.var 6) (.lit 0)), (.cmp .lss (.var 6) (.len 1))] 
      (.load (.cmp .geq (.var 8) (.lit 0)) (.fld (.idx (.var 1) (.var 6) 2) 0) [.int .i64] 
      (.need (.cmp .geq (.var 8) (.lit 0)) [(.cmp .geq (.var 9) (.lit 0)), (.cmp .lss (.var 9) (.len 4))] 
      (.load (.cmp .geq (.var 8) (.lit 0)) (.idx (.var 4) (.var 9) 1) [.int .i64] 
      (.need (.cmp .geq (.var 8) (.lit 0)) [(.cmp .geq (.var 6) (.lit 0)), (.cmp .lss (.var 6) (.len 1))] 
      (.load (.cmp .geq (.var 8) (.lit 0)) (.fld (.idx (.var 1) (.var 6) 2) 1) [.int .i64] 
      (.need (.cmp .geq (.var 8) (.lit 0)) [(.cmp .geq (.var 11) (.lit 0)), (.cmp .lss (.var 11) (.len 4))] 
      (.load (.cmp .geq (.var 8) (.lit 0)) (.idx (.var 4) (.var 11) 1) [.int .i64] 
      (.ite (.ite (.cmp .geq (.var 8) (.lit 0)) (.cmp .eql (.var 10) (.var 12)) (.tt false))
       (.done (.bool (.tt false)) [])
       (.again 0 [(.int .i64 (.op .add .i64 (.var 6) (.lit 1)))]))))))))))))))
      (.done (.bool (.tt true)) []))))))
def l15 : List (Nat × List Nat × List (Nat × Nat) × List Nat) := [(4, [7], [], [14, 15, 16, 17, 20, 21, 22, 23, 24, 25, 26, 27, 28, 29, 30, 31, 32, 6, 18, 19]), (9, [8], [], [33, 34, 35, 36, 37, 40, 41, 42, 43, 44, 45, 46, 47, 48, 49, 50, 51, 52, 53, 54, 55, 56, 57, 58, 59, 60, 61, 62, 63, 64, 65, 66, 67, 68, 69, 70, 6, 38, 39])]
theorem e15 : ev Tryd.prog ⟨allF, [], l15⟩ (bodyOf Tryd.f15) 0 (initSt [(.agg [(.int .i64 (.var 0)), (.val 1), (.val 2)]), (.int .i64 (.var 3)), (.val 4)] [] Tryd.f15.ntmps [.int .i64, .sl, .sl, .int .i64, .sl]) (finK Tryd.prog Tryd.f15.results []) = t15 := by kernel_rfl
theorem c15 {G : List Value} {h : H} {R : Value → List (List Value) → H → Prop} (hG : FitsL [.int .i64, .sl, .sl, .int .i64, .sl] G) (H : holds Tryd.prog R t15 G [] h) : CallsA Tryd.prog 15 (fun e => SV.denL G (fun k => e (k - 1000000)) [(.agg [(.int .i64 (.var 0)), (.val 1), (.val 2)]), (.int .i64 (.var 3)), (.val 4)]) ([].map (SV.denL G dE)) h R :=
  CallsA.of_ev (cf := ⟨allF, [], l15⟩) (fn := Tryd.f15) (c := bodyOf Tryd.f15) (pcs := []) Tryd.func15 (by rfl) callOK (by rfl) hG (by rfl) (by rw [show ([] : List (List SV)).map List.length = [] from rfl, e15]; exact H)
/-- What is left of outworker/outworkerlaw17.left. -/
def t16 : Out :=
 (.loop 0 [(.int .i64 (.lit 0)), (.int .i64 (.lit 0))] [.int .i64, .int .i64] 
  (.ite (.cmp .lss (.var 3) (.len 0))
   (.need (.tt true) [(.cmp .geq (.var 3) (.lit 0)), (.cmp .lss (.var 3) (.len 0))] 
   (.load (.tt true) (.idx (.var 0) (.var 3) 1) [.int .i64] 
   (.ite (.cmp .lss (.var 4) (.lit 0))
    (.need (.tt true) [(.cmp .geq (.var 3) (.lit 0)), (.cmp .lss (.var 3) (.len 1))] 
    (.load (.tt true) (.idx (.var 1) (.var 3) 1) [.int .i64] 
    (.again 0 [(.int .i64 (.op .add .i64 (.var 2) (.var 5))), (.int .i64 (.op .add .i64 (.var 3) (.lit 1)))])))
    (.again 0 [(.int .i64 (.var 2)), (.int .i64 (.op .add .i64 (.var 3) (.lit 1)))]))))
   (.done (.int .i64 (.var 2)) [])))
def l16 : List (Nat × List Nat × List (Nat × Nat) × List Nat) := [(3, [5, 10], [], [11, 12, 13, 14, 6, 7, 15, 16, 17, 18, 19, 20, 21, 22, 23])]
theorem e16 : ev Tryd.prog ⟨allF, [], l16⟩ (bodyOf Tryd.f16) 0 (initSt [(.val 0), (.val 1)] [] Tryd.f16.ntmps [.sl, .sl]) (finK Tryd.prog Tryd.f16.results []) = t16 := by kernel_rfl
theorem c16 {G : List Value} {h : H} {R : Value → List (List Value) → H → Prop} (hG : FitsL [.sl, .sl] G) (H : holds Tryd.prog R t16 G [] h) : CallsA Tryd.prog 16 (fun e => SV.denL G (fun k => e (k - 1000000)) [(.val 0), (.val 1)]) ([].map (SV.denL G dE)) h R :=
  CallsA.of_ev (cf := ⟨allF, [], l16⟩) (fn := Tryd.f16) (c := bodyOf Tryd.f16) (pcs := []) Tryd.func16 (by rfl) callOK (by rfl) hG (by rfl) (by rw [show ([] : List (List SV)).map List.length = [] from rfl, e16]; exact H)
/-- What is left of outworker/outworkerref10.Least. -/
def t17 : Out :=
 (.loop 0 [(.int .i64 (.lit (-1))), (.int .i64 (.lit 0))] [.int .i64, .int .i64] 
  (.need (.tt true) [(.cmp .geq (.var 0) (.lit 0))] 
  (.ite (.cmp .lss (.var 6) (.op .shl .i64 (.lit 1) (.var 0)))
   (.mk 4 1 1 (.var 0) 
   (.loop 1 [(.int .i64 (.lit 0)), (.int .i64 (.lit 0))] [.int .i64, .int .i64] 
    (.ite (.cmp .lss (.var 9) (.var 0))
     (.need (.tt true) [(.cmp .geq (.var 9) (.lit 0))] 
     (.ite (.cmp .eql (.op .and .i64 (.op .shr .i64 (.var 6) (.var 9)) (.lit 1)) (.lit 1))
      (.need (.tt true) [(.cmp .geq (.var 9) (.lit 0)), (.cmp .lss (.var 9) (.len 7))] 
      (.store (.idx (.var 7) (.var 9) 1) [(.bool (.tt true))] 
      (.again 1 [(.int .i64 (.var 8)), (.int .i64 (.op .add .i64 (.var 9) (.lit 1)))])))
      (.need (.tt true) [(.cmp .geq (.var 9) (.lit 0)), (.cmp .lss (.var 9) (.len 4))] 
      (.load (.tt true) (.idx (.var 4) (.var 9) 1) [.int .i64] 
      (.again 1 [(.int .i64 (.op .add .i64 (.var 8) (.var 10))), (.int .i64 (.op .add .i64 (.var 9) (.lit 1)))])))))
     (.ite (.ite (.cmp .lss (.var 5) (.lit 0)) (.tt true) (.cmp .lss (.var 8) (.var 5)))
      (.mk 3 1 8 (.var 0) 
      (.call 28 [(.agg [(.int .i64 (.var 0)), (.val 1), (.val 2)]), (.int .i64 (.var 3)), (.val 7), (.val 10), (.int .i64 (.lit 0))] [] [] [] [(false, [.bool])] 
      (.again 0 [(.int .i64 (.ite (.var 11) (.var 8) (.var 5))), (.int .i64 (.op .add .i64 (.var 6) (.lit 1)))])))
      (.again 0 [(.int .i64 (.var 5)), (.int .i64 (.op .add .i64 (.var 6) (.lit 1)))])))))
   (.done (.int .i64 (.var 5)) []))))
def l17 : List (Nat × List Nat × List (Nat × Nat) × List Nat) := [(3, [7, 8], [], [12, 13, 14, 15, 16, 19, 20, 21, 9, 10, 11, 22, 23, 24, 25, 28, 29, 30, 31, 32, 33, 34, 35, 36, 37, 38, 39, 40, 41, 26, 27, 42, 43, 44, 45, 46, 47, 48, 49, 50, 51, 52, 53, 54, 55, 56, 57, 58, 17, 18]), (8, [10, 11], [], [22, 23, 24, 25, 28, 29, 30, 31, 32, 33, 34, 35, 36, 37, 38, 39, 40, 41, 26, 27])]
theorem e17 : ev Tryd.prog ⟨allF, [], l17⟩ (bodyOf Tryd.f17) 0 (initSt [(.agg [(.int .i64 (.var 0)), (.val 1), (.val 2)]), (.int .i64 (.var 3)), (.val 4)] [] Tryd.f17.ntmps [.int .i64, .sl, .sl, .int .i64, .sl]) (finK Tryd.prog Tryd.f17.results []) = t17 := by kernel_rfl
theorem c17 {G : List Value} {h : H} {R : Value → List (List Value) → H → Prop} (hG : FitsL [.int .i64, .sl, .sl, .int .i64, .sl] G) (H : holds Tryd.prog R t17 G [] h) : CallsA Tryd.prog 17 (fun e => SV.denL G (fun k => e (k - 1000000)) [(.agg [(.int .i64 (.var 0)), (.val 1), (.val 2)]), (.int .i64 (.var 3)), (.val 4)]) ([].map (SV.denL G dE)) h R :=
  CallsA.of_ev (cf := ⟨allF, [], l17⟩) (fn := Tryd.f17) (c := bodyOf Tryd.f17) (pcs := []) Tryd.func17 (by rfl) callOK (by rfl) hG (by rfl) (by rw [show ([] : List (List SV)).map List.length = [] from rfl, e17]; exact H)
/-- What is left of outworker/outworkerref10.Right. -/
def t18 : Out :=
 (.ite (.not (.ite (.cmp .lss (.var 0) (.lit 0)) (.tt true) (.cmp .gtr (.var 0) (.lit 4095))))
  (.call 29 [(.val 1), (.int .i64 (.var 0))] [] [] [] [(false, [.bool])] 
  (.ite (.var 3)
   (.call 29 [(.val 2), (.int .i64 (.var 0))] [] [] [] [(false, [.bool])] 
   (.ite (.not (.var 4))
    (.done (.bool (.tt false)) [])
    (.loop 0 [(.int .i64 (.lit 0))] [.int .i64] 
     (.ite (.cmp .lss (.var 5) (.len 2))
      (.need (.tt true) [(.cmp .geq (.var 5) (.lit 0)), (.cmp .lss (.var 5) (.len 2))] 
      (.load (.tt true) (.fld (.idx (.var 2) (.var 5) 2) 0) [.int .i64] 
      (.need (.tt true) [(.cmp .geq (.var 5) (.lit 0)), (.cmp .lss (.var 5) (.len 2))] 
      (.load (.tt true) (.fld (.idx (.var 2) (.var 5) 2) 1) [.int .i64] 
      (.call 30 [(.val 1), (.int .i64 (.var 6)), (.int .i64 (.var 7))] [] [] [] [(false, [.bool])] 
      (.ite (.var 8)
       (.done (.bool (.tt false)) [])
       (.again 0 [(.int .i64 (.op .add .i64 (.var 5) (.lit 1)))])))))))
      (.done (.bool (.tt true)) [])))))
   (.done (.bool (.tt false)) [])))
  (.done (.bool (.tt false)) []))
def l18 : List (Nat × List Nat × List (Nat × Nat) × List Nat) := [(4, [3], [], [28, 29, 30, 31, 32, 35, 36, 37, 38, 39, 40, 41, 42, 43, 44, 45, 46, 47, 48, 49, 2, 33, 34])]
theorem e18 : ev Tryd.prog ⟨allF, [], l18⟩ (bodyOf Tryd.f18) 0 (initSt [(.agg [(.int .i64 (.var 0)), (.val 1), (.val 2)])] [] Tryd.f18.ntmps [.int .i64, .sl, .sl]) (finK Tryd.prog Tryd.f18.results []) = t18 := by kernel_rfl
theorem c18 {G : List Value} {h : H} {R : Value → List (List Value) → H → Prop} (hG : FitsL [.int .i64, .sl, .sl] G) (H : holds Tryd.prog R t18 G [] h) : CallsA Tryd.prog 18 (fun e => SV.denL G (fun k => e (k - 1000000)) [(.agg [(.int .i64 (.var 0)), (.val 1), (.val 2)])]) ([].map (SV.denL G dE)) h R :=
  CallsA.of_ev (cf := ⟨allF, [], l18⟩) (fn := Tryd.f18) (c := bodyOf Tryd.f18) (pcs := []) Tryd.func18 (by rfl) callOK (by rfl) hG (by rfl) (by rw [show ([] : List (List SV)).map List.length = [] from rfl, e18]; exact H)
/-- What is left of outworker/graph.Check. -/
def t25 : Out :=
 (.alloc 27 [(.int .i64 (.var 0)), (.val 1), (.val 2)] .loc 
 (.load (.tt true) (.fld (.var 3) 0) [.int .i64] 
 (.load (.cmp .geq (.var 4) (.lit 0)) (.fld (.var 3) 0) [.int .i64] 
 (.load (.ite (.cmp .geq (.var 4) (.lit 0)) (.cmp .lss (.var 5) (.lit 4096)) (.tt false)) (.fld (.var 3) 1) [.sl] 
 (.ite (.ite (.cmp .geq (.var 4) (.lit 0)) (.cmp .lss (.var 5) (.lit 4096)) (.tt false))
  (.call 38 [(.val 6), (.ptr (.var 3))] [] [] [] [(false, [.bool])] 
  (.load (.var 7) (.fld (.var 3) 2) [.sl] 
  (.ite (.var 7)
   (.call 38 [(.val 8), (.ptr (.var 3))] [] [] [] [(false, [.bool])] 
   (.load (.var 9) (.fld (.var 3) 2) [.sl] 
   (.ite (.var 9)
    (.call 41 [(.val 10), (.fn (.func 39) [] [(.ptr (.var 3))])] [] [] [] [(false, [.bool])] 
    (.done (.bool (.not (.var 11))) []))
    (.done (.bool (.tt false)) []))))
   (.done (.bool (.tt false)) []))))
  (.done (.bool (.tt false)) []))))))
def l25 : List (Nat × List Nat × List (Nat × Nat) × List Nat) := [(2000019, [], [(0, 1)], [0]), (2000025, [], [(0, 1)], [0])]
theorem e25 : ev Tryd.prog ⟨allF, [1], l25⟩ (bodyOf Tryd.f25) 0 (initSt [(.agg [(.int .i64 (.var 0)), (.val 1), (.val 2)])] [] Tryd.f25.ntmps [.int .i64, .sl, .sl]) (finK Tryd.prog Tryd.f25.results []) = t25 := by kernel_rfl
theorem c25 {G : List Value} {h : H} {R : Value → List (List Value) → H → Prop} (hG : FitsL [.int .i64, .sl, .sl] G) (H : holds Tryd.prog R t25 G [] h) : CallsA Tryd.prog 25 (fun e => SV.denL G (fun k => e (k - 1000000)) [(.agg [(.int .i64 (.var 0)), (.val 1), (.val 2)])]) ([].map (SV.denL G dE)) h R :=
  CallsA.of_ev (cf := ⟨allF, [1], l25⟩) (fn := Tryd.f25) (c := bodyOf Tryd.f25) (pcs := []) Tryd.func25 (by rfl) callOK (by rfl) hG (by rfl) (by rw [show ([] : List (List SV)).map List.length = [] from rfl, e25]; exact H)
/-- What is left of outworker/graph.Near. -/
def t26 : Out :=
 (.mk 67 1 24 (.var 0) 
 (.loop 0 [(.int .i64 (.lit 0))] [.int .i64] 
  (.ite (.cmp .lss (.var 4) (.len 1))
   (.need (.tt true) [(.cmp .geq (.var 4) (.lit 0)), (.cmp .lss (.var 4) (.len 1))] 
   (.load (.tt true) (.idx (.var 1) (.var 4) 2) [.int .i64, .int .i64] 
   (.need (.tt true) [(.cmp .geq (.var 5) (.lit 0)), (.cmp .lss (.var 5) (.len 3))] 
   (.call 32 [(.ptr (.idx (.var 3) (.var 5) 1)), (.int .i64 (.var 6))] [] [] [] [(false, [.bool])] 
   (.need (.tt true) [(.cmp .geq (.var 6) (.lit 0)), (.cmp .lss (.var 6) (.len 3))] 
   (.call 32 [(.ptr (.idx (.var 3) (.var 6) 1)), (.int .i64 (.var 5))] [] [] [] [(false, [.bool])] 
   (.again 0 [(.int .i64 (.op .add .i64 (.var 4) (.lit 1)))])))))))
   (.done (.val 3) []))))
def l26 : List (Nat × List Nat × List (Nat × Nat) × List Nat) := [(3, [12], [], [13, 14, 15, 5, 16, 17, 18, 19, 20, 21, 22, 23, 24, 25, 26, 27, 28, 29, 30])]
theorem e26 : ev Tryd.prog ⟨allF, [], l26⟩ (bodyOf Tryd.f26) 0 (initSt [(.agg [(.int .i64 (.var 0)), (.val 1), (.val 2)])] [] Tryd.f26.ntmps [.int .i64, .sl, .sl]) (finK Tryd.prog Tryd.f26.results []) = t26 := by kernel_rfl
theorem c26 {G : List Value} {h : H} {R : Value → List (List Value) → H → Prop} (hG : FitsL [.int .i64, .sl, .sl] G) (H : holds Tryd.prog R t26 G [] h) : CallsA Tryd.prog 26 (fun e => SV.denL G (fun k => e (k - 1000000)) [(.agg [(.int .i64 (.var 0)), (.val 1), (.val 2)])]) ([].map (SV.denL G dE)) h R :=
  CallsA.of_ev (cf := ⟨allF, [], l26⟩) (fn := Tryd.f26) (c := bodyOf Tryd.f26) (pcs := []) Tryd.func26 (by rfl) callOK (by rfl) hG (by rfl) (by rw [show ([] : List (List SV)).map List.length = [] from rfl, e26]; exact H)
/-- What is left of outworker/outworkerref10.can. -/
def t28 : Out :=
 (.ite (.cmp .eql (.var 6) (.var 0))
  (.done (.bool (.tt true)) [])
  (.need (.tt true) [(.cmp .geq (.var 6) (.lit 0)), (.cmp .lss (.var 6) (.len 4))] 
  (.load (.tt true) (.idx (.var 4) (.var 6) 1) [.bool] 
  (.ite (.not (.var 7))
   (.call 28 [(.agg [(.int .i64 (.var 0)), (.val 1), (.val 2)]), (.int .i64 (.var 3)), (.val 4), (.val 5), (.int .i64 (.op .add .i64 (.var 6) (.lit 1)))] [] [] [] [(false, [.bool])] 
   (.done (.bool (.var 8)) []))
   (.loop 0 [(.int .i64 (.lit 0))] [.int .i64] 
    (.ite (.cmp .lss (.var 8) (.var 3))
     (.loop 1 [(.bool (.tt true)), (.int .i64 (.lit 0))] [.bool, .int .i64] 
      (.ite (.cmp .lss (.var 10) (.var 6))
       (.need (.tt true) [(.cmp .geq (.var 10) (.lit 0)), (.cmp .lss (.var 10) (.len 4))] 
       (.load (.tt true) (.idx (.var 4) (.var 10) 1) [.bool] 
       (.need (.var 11) [(.cmp .geq (.var 10) (.lit 0)), (.cmp .lss (.var 10) (.len 5))] 
       (.load (.var 11) (.idx (.var 5) (.var 10) 1) [.int .i64] 
       (.ite (.ite (.var 11) (.cmp .eql (.var 12) (.var 8)) (.tt false))
        (.call 30 [(.val 1), (.int .i64 (.var 10)), (.int .i64 (.var 6))] [] [] [] [(false, [.bool])] 
        (.again 1 [(.bool (.ite (.var 13) (.tt false) (.var 9))), (.int .i64 (.op .add .i64 (.var 10) (.lit 1)))]))
        (.again 1 [(.bool (.var 9)), (.int .i64 (.op .add .i64 (.var 10) (.lit 1)))]))))))
       (.ite (.var 9)
        (.need (.tt true) [(.cmp .geq (.var 6) (.lit 0)), (.cmp .lss (.var 6) (.len 5))] 
        (.store (.idx (.var 5) (.var 6) 1) [(.int .i64 (.var 8))] 
        (.call 28 [(.agg [(.int .i64 (.var 0)), (.val 1), (.val 2)]), (.int .i64 (.var 3)), (.val 4), (.val 5), (.int .i64 (.op .add .i64 (.var 6) (.lit 1)))] [] [] [] [(false, [.bool])] 
        (.ite (.var 11)
         (.done (.bool (.tt true)) [])
         (.again 0 [(.int .i64 (.op .add .i64 (.var 8) (.lit 1)))])))))
        (.again 0 [(.int .i64 (.op .add .i64 (.var 8) (.lit 1)))]))))
     (.done (.bool (.tt false)) [])))))))
def l28 : List (Nat × List Nat × List (Nat × Nat) × List Nat) := [(6, [11], [], [30, 31, 32, 12, 13, 35, 36, 37, 40, 41, 42, 43, 44, 45, 46, 47, 48, 49, 50, 51, 52, 53, 54, 55, 56, 57, 58, 38, 39, 59, 60, 61, 62, 63, 64, 65, 66, 67, 68, 69, 70, 10, 33, 34]), (10, [12, 13], [], [35, 36, 37, 40, 41, 42, 43, 44, 45, 46, 47, 48, 49, 50, 51, 52, 53, 54, 55, 56, 57, 58, 38, 39])]
theorem e28 : ev Tryd.prog ⟨allF, [], l28⟩ (bodyOf Tryd.f28) 0 (initSt [(.agg [(.int .i64 (.var 0)), (.val 1), (.val 2)]), (.int .i64 (.var 3)), (.val 4), (.val 5), (.int .i64 (.var 6))] [] Tryd.f28.ntmps [.int .i64, .sl, .sl, .int .i64, .sl, .sl, .int .i64]) (finK Tryd.prog Tryd.f28.results []) = t28 := by kernel_rfl
theorem c28 {G : List Value} {h : H} {R : Value → List (List Value) → H → Prop} (hG : FitsL [.int .i64, .sl, .sl, .int .i64, .sl, .sl, .int .i64] G) (H : holds Tryd.prog R t28 G [] h) : CallsA Tryd.prog 28 (fun e => SV.denL G (fun k => e (k - 1000000)) [(.agg [(.int .i64 (.var 0)), (.val 1), (.val 2)]), (.int .i64 (.var 3)), (.val 4), (.val 5), (.int .i64 (.var 6))]) ([].map (SV.denL G dE)) h R :=
  CallsA.of_ev (cf := ⟨allF, [], l28⟩) (fn := Tryd.f28) (c := bodyOf Tryd.f28) (pcs := []) Tryd.func28 (by rfl) callOK (by rfl) hG (by rfl) (by rw [show ([] : List (List SV)).map List.length = [] from rfl, e28]; exact H)
/-- What is left of outworker/outworkerref10.rising. -/
def t29 : Out :=
 (.loop 0 [(.int .i64 (.lit 0))] [.int .i64] 
  (.ite (.cmp .lss (.var 2) (.len 0))
   (.need (.tt true) [(.cmp .geq (.var 2) (.lit 0)), (.cmp .lss (.var 2) (.len 0))] 
   (.load (.tt true) (.fld (.idx (.var 0) (.var 2) 2) 0) [.int .i64] 
   (.need (.not (.cmp .lss (.var 3) (.lit 0))) [(.cmp .geq (.var 2) (.lit 0)), (.cmp .lss (.var 2) (.len 0))] 
   (.load (.not (.cmp .lss (.var 3) (.lit 0))) (.fld (.idx (.var 0) (.var 2) 2) 1) [.int .i64] 
   (.need (.not (.cmp .lss (.var 3) (.lit 0))) [(.cmp .geq (.var 2) (.lit 0)), (.cmp .lss (.var 2) (.len 0))] 
   (.load (.not (.cmp .lss (.var 3) (.lit 0))) (.fld (.idx (.var 0) (.var 2) 2) 0) [.int .i64] 
   (.need (.not (.ite (.cmp .lss (.var 3) (.lit 0)) (.tt true) (.cmp .leq (.var 4) (.var 5)))) [(.cmp .geq (.var 2) (.lit 0)), (.cmp .lss (.var 2) (.len 0))] 
   (.load (.not (.ite (.cmp .lss (.var 3) (.lit 0)) (.tt true) (.cmp .leq (.var 4) (.var 5)))) (.fld (.idx (.var 0) (.var 2) 2) 1) [.int .i64] 
   (.ite (.ite (.ite (.cmp .lss (.var 3) (.lit 0)) (.tt true) (.cmp .leq (.var 4) (.var 5))) (.tt true) (.cmp .geq (.var 6) (.var 1)))
    (.done (.bool (.tt false)) [])
    (.need (.cmp .gtr (.var 2) (.lit 0)) [(.cmp .geq (.var 2) (.lit 0)), (.cmp .lss (.var 2) (.len 0))] 
    (.load (.cmp .gtr (.var 2) (.lit 0)) (.fld (.idx (.var 0) (.var 2) 2) 0) [.int .i64] 
    (.need (.cmp .gtr (.var 2) (.lit 0)) [(.cmp .geq (.op .sub .i64 (.var 2) (.lit 1)) (.lit 0)), (.cmp .lss (.op .sub .i64 (.var 2) (.lit 1)) (.len 0))] 
    (.load (.cmp .gtr (.var 2) (.lit 0)) (.fld (.idx (.var 0) (.op .sub .i64 (.var 2) (.lit 1)) 2) 0) [.int .i64] 
    (.need (.and (.cmp .gtr (.var 2) (.lit 0)) (.not (.cmp .lss (.var 7) (.var 8)))) [(.cmp .geq (.var 2) (.lit 0)), (.cmp .lss (.var 2) (.len 0))] 
    (.load (.and (.cmp .gtr (.var 2) (.lit 0)) (.not (.cmp .lss (.var 7) (.var 8)))) (.fld (.idx (.var 0) (.var 2) 2) 0) [.int .i64] 
    (.need (.and (.cmp .gtr (.var 2) (.lit 0)) (.not (.cmp .lss (.var 7) (.var 8)))) [(.cmp .geq (.op .sub .i64 (.var 2) (.lit 1)) (.lit 0)), (.cmp .lss (.op .sub .i64 (.var 2) (.lit 1)) (.len 0))] 
    (.load (.and (.cmp .gtr (.var 2) (.lit 0)) (.not (.cmp .lss (.var 7) (.var 8)))) (.fld (.idx (.var 0) (.op .sub .i64 (.var 2) (.lit 1)) 2) 0) [.int .i64] 
    (.need (.and (.and (.cmp .gtr (.var 2) (.lit 0)) (.not (.cmp .lss (.var 7) (.var 8)))) (.cmp .eql (.var 9) (.var 10))) [(.cmp .geq (.var 2) (.lit 0)), (.cmp .lss (.var 2) (.len 0))] 
    (.load (.and (.and (.cmp .gtr (.var 2) (.lit 0)) (.not (.cmp .lss (.var 7) (.var 8)))) (.cmp .eql (.var 9) (.var 10))) (.fld (.idx (.var 0) (.var 2) 2) 1) [.int .i64] 
    (.need (.and (.and (.cmp .gtr (.var 2) (.lit 0)) (.not (.cmp .lss (.var 7) (.var 8)))) (.cmp .eql (.var 9) (.var 10))) [(.cmp .geq (.op .sub .i64 (.var 2) (.lit 1)) (.lit 0)), (.cmp .lss (.op .sub .i64 (.var 2) (.lit 1)) (.len 0))] 
    (.load (.and (.and (.cmp .gtr (.var 2) (.lit 0)) (.not (.cmp .lss (.var 7) (.var 8)))) (.cmp .eql (.var 9) (.var 10))) (.fld (.idx (.var 0) (.op .sub .i64 (.var 2) (.lit 1)) 2) 1) [.int .i64] 
    (.ite (.ite (.cmp .gtr (.var 2) (.lit 0)) (.ite (.cmp .lss (.var 7) (.var 8)) (.tt true) (.ite (.cmp .eql (.var 9) (.var 10)) (.cmp .leq (.var 11) (.var 12)) (.tt false))) (.tt false))
     (.done (.bool (.tt false)) [])
     (.again 0 [(.int .i64 (.op .add .i64 (.var 2) (.lit 1)))])))))))))))))))))))))))
   (.done (.bool (.tt true)) [])))
def l29 : List (Nat × List Nat × List (Nat × Nat) × List Nat) := [(2, [5], [], [6, 7, 8, 9, 12, 13, 14, 15, 16, 17, 18, 19, 20, 21, 22, 23, 24, 25, 26, 27, 28, 29, 30, 31, 32, 33, 34, 35, 36, 37, 38, 39, 4, 40, 41, 42, 43, 44, 45, 46, 47, 48, 49, 50, 51, 52, 53, 54, 55, 56, 57, 58, 59, 60, 61, 62, 63, 64, 65, 66, 67, 68, 69, 70, 71, 72, 73, 74, 75, 76, 77, 78, 79, 80, 81, 82, 83, 10, 11])]
theorem e29 : ev Tryd.prog ⟨allF, [], l29⟩ (bodyOf Tryd.f29) 0 (initSt [(.val 0), (.int .i64 (.var 1))] [] Tryd.f29.ntmps [.sl, .int .i64]) (finK Tryd.prog Tryd.f29.results []) = t29 := by kernel_rfl
theorem c29 {G : List Value} {h : H} {R : Value → List (List Value) → H → Prop} (hG : FitsL [.sl, .int .i64] G) (H : holds Tryd.prog R t29 G [] h) : CallsA Tryd.prog 29 (fun e => SV.denL G (fun k => e (k - 1000000)) [(.val 0), (.int .i64 (.var 1))]) ([].map (SV.denL G dE)) h R :=
  CallsA.of_ev (cf := ⟨allF, [], l29⟩) (fn := Tryd.f29) (c := bodyOf Tryd.f29) (pcs := []) Tryd.func29 (by rfl) callOK (by rfl) hG (by rfl) (by rw [show ([] : List (List SV)).map List.length = [] from rfl, e29]; exact H)
/-- What is left of outworker/outworkerref10.Has. -/
def t30 : Out :=
 (.loop 0 [(.int .i64 (.lit 0))] [.int .i64] 
  (.ite (.cmp .lss (.var 3) (.len 0))
   (.need (.tt true) [(.cmp .geq (.var 3) (.lit 0)), (.cmp .lss (.var 3) (.len 0))] 
   (.load (.tt true) (.fld (.idx (.var 0) (.var 3) 2) 0) [.int .i64] 
   (.need (.cmp .eql (.var 4) (.var 1)) [(.cmp .geq (.var 3) (.lit 0)), (.cmp .lss (.var 3) (.len 0))] 
   (.load (.cmp .eql (.var 4) (.var 1)) (.fld (.idx (.var 0) (.var 3) 2) 1) [.int .i64] 
   (.need (.not (.ite (.cmp .eql (.var 4) (.var 1)) (.cmp .eql (.var 5) (.var 2)) (.tt false))) [(.cmp .geq (.var 3) (.lit 0)), (.cmp .lss (.var 3) (.len 0))] 
   (.load (.not (.ite (.cmp .eql (.var 4) (.var 1)) (.cmp .eql (.var 5) (.var 2)) (.tt false))) (.fld (.idx (.var 0) (.var 3) 2) 0) [.int .i64] 
   (.need (.and (.not (.ite (.cmp .eql (.var 4) (.var 1)) (.cmp .eql (.var 5) (.var 2)) (.tt false))) (.cmp .eql (.var 6) (.var 2))) [(.cmp .geq (.var 3) (.lit 0)), (.cmp .lss (.var 3) (.len 0))] 
   (.load (.and (.not (.ite (.cmp .eql (.var 4) (.var 1)) (.cmp .eql (.var 5) (.var 2)) (.tt false))) (.cmp .eql (.var 6) (.var 2))) (.fld (.idx (.var 0) (.var 3) 2) 1) [.int .i64] 
   (.ite (.ite (.ite (.cmp .eql (.var 4) (.var 1)) (.cmp .eql (.var 5) (.var 2)) (.tt false)) (.tt true) (.ite (.cmp .eql (.var 6) (.var 2)) (.cmp .eql (.var 7) (.var 1)) (.tt false)))
    (.done (.bool (.tt true)) [])
    (.again 0 [(.int .i64 (.op .add .i64 (.var 3) (.lit 1)))]))))))))))
   (.done (.bool (.tt false)) [])))
def l30 : List (Nat × List Nat × List (Nat × Nat) × List Nat) := [(2, [7], [], [8, 9, 10, 11, 14, 15, 16, 17, 18, 19, 20, 21, 22, 23, 24, 25, 26, 27, 28, 29, 30, 31, 32, 33, 34, 35, 36, 37, 38, 39, 40, 41, 42, 43, 44, 45, 46, 47, 6, 12, 13])]
theorem e30 : ev Tryd.prog ⟨allF, [], l30⟩ (bodyOf Tryd.f30) 0 (initSt [(.val 0), (.int .i64 (.var 1)), (.int .i64 (.var 2))] [] Tryd.f30.ntmps [.sl, .int .i64, .int .i64]) (finK Tryd.prog Tryd.f30.results []) = t30 := by kernel_rfl
theorem c30 {G : List Value} {h : H} {R : Value → List (List Value) → H → Prop} (hG : FitsL [.sl, .int .i64, .int .i64] G) (H : holds Tryd.prog R t30 G [] h) : CallsA Tryd.prog 30 (fun e => SV.denL G (fun k => e (k - 1000000)) [(.val 0), (.int .i64 (.var 1)), (.int .i64 (.var 2))]) ([].map (SV.denL G dE)) h R :=
  CallsA.of_ev (cf := ⟨allF, [], l30⟩) (fn := Tryd.f30) (c := bodyOf Tryd.f30) (pcs := []) Tryd.func30 (by rfl) callOK (by rfl) hG (by rfl) (by rw [show ([] : List (List SV)).map List.length = [] from rfl, e30]; exact H)
/-- What is left of (*outworker/bag.Set[int]).Put. -/
def t32 : Out :=
 (.load (.not (.ite (.cmp .lss (.var 1) (.lit 0)) (.tt true) (.cmp .geq (.var 1) (.lit 4096)))) (.var 0) [.sl] 
 (.ite (.not (.ite (.cmp .lss (.var 1) (.lit 0)) (.tt true) (.cmp .geq (.var 1) (.lit 4096))))
  (.call 44 [(.agg [(.val 2)]), (.int .i64 (.var 1))] [] [] [] [(false, [.bool])] 
  (.ite (.var 3)
   (.done (.bool (.tt false)) [])
   (.loop 0 [] [] 
    (.load (.tt true) (.fld (.var 0) 0) [.sl] 
    (.ite (.cmp .leq (.len 4) (.op .quo .i64 (.var 1) (.lit 64)))
     (.load (.tt true) (.fld (.var 0) 0) [.sl] 
     (.app 79 1 8 (.val 5) (.cells [(.int .u64 (.lit 0))] 1) 
     (.store (.fld (.var 0) 0) [(.val 6)] 
     (.again 0 []))))
     (.load (.tt true) (.fld (.var 0) 0) [.sl] 
     (.need (.tt true) [(.cmp .geq (.op .quo .i64 (.var 1) (.lit 64)) (.lit 0)), (.cmp .lss (.op .quo .i64 (.var 1) (.lit 64)) (.len 5))] 
     (.load (.tt true) (.idx (.var 5) (.op .quo .i64 (.var 1) (.lit 64)) 1) [.int .u64] 
     (.need (.tt true) [(.cmp .geq (.op .rem .i64 (.var 1) (.lit 64)) (.lit 0))] 
     (.need (.tt true) [(.cmp .geq (.op .quo .i64 (.var 1) (.lit 64)) (.lit 0)), (.cmp .lss (.op .quo .i64 (.var 1) (.lit 64)) (.len 5))] 
     (.store (.idx (.var 5) (.op .quo .i64 (.var 1) (.lit 64)) 1) [(.int .u64 (.op .or .u64 (.var 6) (.op .shl .u64 (.lit 1) (.op .rem .i64 (.var 1) (.lit 64)))))] 
     (.done (.bool (.tt true)) []))))))))))))
  (.done (.bool (.tt false)) [])))
def l32 : List (Nat × List Nat × List (Nat × Nat) × List Nat) := [(3, [], [], [18, 19, 20, 21, 22, 23, 24, 25, 26, 27, 28, 29, 30, 31, 32, 33, 34])]
theorem e32 : ev Tryd.prog ⟨allF, [], l32⟩ (bodyOf Tryd.f32) 0 (initSt [(.ptr (.var 0)), (.int .i64 (.var 1))] [] Tryd.f32.ntmps [.ptr, .int .i64]) (finK Tryd.prog Tryd.f32.results []) = t32 := by kernel_rfl
theorem c32 {G : List Value} {h : H} {R : Value → List (List Value) → H → Prop} (hG : FitsL [.ptr, .int .i64] G) (H : holds Tryd.prog R t32 G [] h) : CallsA Tryd.prog 32 (fun e => SV.denL G (fun k => e (k - 1000000)) [(.ptr (.var 0)), (.int .i64 (.var 1))]) ([].map (SV.denL G dE)) h R :=
  CallsA.of_ev (cf := ⟨allF, [], l32⟩) (fn := Tryd.f32) (c := bodyOf Tryd.f32) (pcs := []) Tryd.func32 (by rfl) callOK (by rfl) hG (by rfl) (by rw [show ([] : List (List SV)).map List.length = [] from rfl, e32]; exact H)
/-- What is left of outworker/graph.Check$1. -/
def t38 : Out :=
 (.loop 0 [(.int .i64 (.lit 0))] [.int .i64] 
  (.ite (.cmp .lss (.var 2) (.len 0))
   (.need (.tt true) [(.cmp .geq (.var 2) (.lit 0)), (.cmp .lss (.var 2) (.len 0))] 
   (.load (.tt true) (.idx (.var 0) (.var 2) 2) [.int .i64, .int .i64] 
   (.load (.not (.ite (.cmp .lss (.var 3) (.lit 0)) (.tt true) (.cmp .geq (.var 3) (.var 4)))) (.fld (.var 1) 0) [.int .i64] 
   (.need (.and (.not (.ite (.ite (.cmp .lss (.var 3) (.lit 0)) (.tt true) (.cmp .geq (.var 3) (.var 4))) (.tt true) (.cmp .geq (.var 4) (.var 5)))) (.cmp .gtr (.var 2) (.lit 0))) [(.cmp .geq (.op .sub .i64 (.var 2) (.lit 1)) (.lit 0)), (.cmp .lss (.op .sub .i64 (.var 2) (.lit 1)) (.len 0))] 
   (.load (.and (.not (.ite (.ite (.cmp .lss (.var 3) (.lit 0)) (.tt true) (.cmp .geq (.var 3) (.var 4))) (.tt true) (.cmp .geq (.var 4) (.var 5)))) (.cmp .gtr (.var 2) (.lit 0))) (.fld (.idx (.var 0) (.op .sub .i64 (.var 2) (.lit 1)) 2) 0) [.int .i64] 
   (.need (.and (.and (.not (.ite (.ite (.cmp .lss (.var 3) (.lit 0)) (.tt true) (.cmp .geq (.var 3) (.var 4))) (.tt true) (.cmp .geq (.var 4) (.var 5)))) (.cmp .gtr (.var 2) (.lit 0))) (.not (.cmp .gtr (.var 6) (.var 3)))) [(.cmp .geq (.op .sub .i64 (.var 2) (.lit 1)) (.lit 0)), (.cmp .lss (.op .sub .i64 (.var 2) (.lit 1)) (.len 0))] 
   (.load (.and (.and (.not (.ite (.ite (.cmp .lss (.var 3) (.lit 0)) (.tt true) (.cmp .geq (.var 3) (.var 4))) (.tt true) (.cmp .geq (.var 4) (.var 5)))) (.cmp .gtr (.var 2) (.lit 0))) (.not (.cmp .gtr (.var 6) (.var 3)))) (.fld (.idx (.var 0) (.op .sub .i64 (.var 2) (.lit 1)) 2) 0) [.int .i64] 
   (.need (.and (.and (.and (.not (.ite (.ite (.cmp .lss (.var 3) (.lit 0)) (.tt true) (.cmp .geq (.var 3) (.var 4))) (.tt true) (.cmp .geq (.var 4) (.var 5)))) (.cmp .gtr (.var 2) (.lit 0))) (.not (.cmp .gtr (.var 6) (.var 3)))) (.cmp .eql (.var 7) (.var 3))) [(.cmp .geq (.op .sub .i64 (.var 2) (.lit 1)) (.lit 0)), (.cmp .lss (.op .sub .i64 (.var 2) (.lit 1)) (.len 0))] 
   (.load (.and (.and (.and (.not (.ite (.ite (.cmp .lss (.var 3) (.lit 0)) (.tt true) (.cmp .geq (.var 3) (.var 4))) (.tt true) (.cmp .geq (.var 4) (.var 5)))) (.cmp .gtr (.var 2) (.lit 0))) (.not (.cmp .gtr (.var 6) (.var 3)))) (.cmp .eql (.var 7) (.var 3))) (.fld (.idx (.var 0) (.op .sub .i64 (.var 2) (.lit 1)) 2) 1) [.int .i64] 
   (.ite (.ite (.ite (.ite (.cmp .lss (.var 3) (.lit 0)) (.tt true) (.cmp .geq (.var 3) (.var 4))) (.tt true) (.cmp .geq (.var 4) (.var 5))) (.tt true) (.ite (.cmp .gtr (.var 2) (.lit 0)) (.ite (.cmp .gtr (.var 6) (.var 3)) (.tt true) (.ite (.cmp .eql (.var 7) (.var 3)) (.cmp .geq (.var 8) (.var 4)) (.tt false))) (.tt false)))
    (.done (.bool (.tt false)) [])
    (.again 0 [(.int .i64 (.op .add .i64 (.var 2) (.lit 1)))])))))))))))
   (.done (.bool (.tt true)) [])))
def l38 : List (Nat × List Nat × List (Nat × Nat) × List Nat) := [(2, [8], [], [9, 10, 11, 12, 5, 4, 13, 14, 15, 16, 17, 18, 19, 20, 21, 22, 23, 24, 25, 26, 27, 28, 29, 30, 31, 32, 33, 34, 35, 36, 37, 38, 39, 40, 41, 42, 43, 44, 45, 46, 47, 48, 49, 50, 51, 52, 53, 54, 55, 56, 57, 58, 59, 60, 61, 62, 63, 64, 65, 66, 3, 67])]
theorem e38 : ev Tryd.prog ⟨allF, [], l38⟩ (bodyOf Tryd.f38) 0 (initSt [(.val 0), (.ptr (.var 1))] [] Tryd.f38.ntmps [.sl, .ptr]) (finK Tryd.prog Tryd.f38.results []) = t38 := by kernel_rfl
theorem c38 {G : List Value} {h : H} {R : Value → List (List Value) → H → Prop} (hG : FitsL [.sl, .ptr] G) (H : holds Tryd.prog R t38 G [] h) : CallsA Tryd.prog 38 (fun e => SV.denL G (fun k => e (k - 1000000)) [(.val 0), (.ptr (.var 1))]) ([].map (SV.denL G dE)) h R :=
  CallsA.of_ev (cf := ⟨allF, [], l38⟩) (fn := Tryd.f38) (c := bodyOf Tryd.f38) (pcs := []) Tryd.func38 (by rfl) callOK (by rfl) hG (by rfl) (by rw [show ([] : List (List SV)).map List.length = [] from rfl, e38]; exact H)
/-- What is left of outworker/graph.Check$2. -/
def t39 : Out :=
 (.load (.tt true) (.fld (.var 2) 1) [.sl] 
 (.call 40 [(.val 3), (.agg [(.int .i64 (.var 0)), (.int .i64 (.var 1))])] [] [] [] [(false, [.bool])] 
 (.done (.bool (.var 4)) [])))
def l39 : List (Nat × List Nat × List (Nat × Nat) × List Nat) := []
theorem e39 : ev Tryd.prog ⟨allF, [], l39⟩ (bodyOf Tryd.f39) 0 (initSt [(.agg [(.int .i64 (.var 0)), (.int .i64 (.var 1))]), (.ptr (.var 2))] [] Tryd.f39.ntmps [.int .i64, .int .i64, .ptr]) (finK Tryd.prog Tryd.f39.results []) = t39 := by kernel_rfl
theorem c39 {G : List Value} {h : H} {R : Value → List (List Value) → H → Prop} (hG : FitsL [.int .i64, .int .i64, .ptr] G) (H : holds Tryd.prog R t39 G [] h) : CallsA Tryd.prog 39 (fun e => SV.denL G (fun k => e (k - 1000000)) [(.agg [(.int .i64 (.var 0)), (.int .i64 (.var 1))]), (.ptr (.var 2))]) ([].map (SV.denL G dE)) h R :=
  CallsA.of_ev (cf := ⟨allF, [], l39⟩) (fn := Tryd.f39) (c := bodyOf Tryd.f39) (pcs := []) Tryd.func39 (by rfl) callOK (by rfl) hG (by rfl) (by rw [show ([] : List (List SV)).map List.length = [] from rfl, e39]; exact H)
/-- What is left of slices.Contains[[]outworker/api.Edge,outworker/api.Edge]. -/
def t40 : Out :=
 (.call 58 [(.val 0), (.agg [(.int .i64 (.var 1)), (.int .i64 (.var 2))])] [] [] [] [(false, [.int .i64])] 
 (.done (.bool (.cmp .geq (.var 3) (.lit 0))) []))
def l40 : List (Nat × List Nat × List (Nat × Nat) × List Nat) := []
theorem e40 : ev Tryd.prog ⟨allF, [], l40⟩ (bodyOf Tryd.f40) 0 (initSt [(.val 0), (.agg [(.int .i64 (.var 1)), (.int .i64 (.var 2))])] [] Tryd.f40.ntmps [.sl, .int .i64, .int .i64]) (finK Tryd.prog Tryd.f40.results []) = t40 := by kernel_rfl
theorem c40 {G : List Value} {h : H} {R : Value → List (List Value) → H → Prop} (hG : FitsL [.sl, .int .i64, .int .i64] G) (H : holds Tryd.prog R t40 G [] h) : CallsA Tryd.prog 40 (fun e => SV.denL G (fun k => e (k - 1000000)) [(.val 0), (.agg [(.int .i64 (.var 1)), (.int .i64 (.var 2))])]) ([].map (SV.denL G dE)) h R :=
  CallsA.of_ev (cf := ⟨allF, [], l40⟩) (fn := Tryd.f40) (c := bodyOf Tryd.f40) (pcs := []) Tryd.func40 (by rfl) callOK (by rfl) hG (by rfl) (by rw [show ([] : List (List SV)).map List.length = [] from rfl, e40]; exact H)
/-- What is left of slices.ContainsFunc[[]outworker/api.Edge,outworker/api.Edge]. -/
def t41 : Out :=
 (.call 59 [(.val 0), (.val 1)] [] [] [] [(false, [.int .i64])] 
 (.done (.bool (.cmp .geq (.var 2) (.lit 0))) []))
def l41 : List (Nat × List Nat × List (Nat × Nat) × List Nat) := []
theorem e41 : ev Tryd.prog ⟨allF, [], l41⟩ (bodyOf Tryd.f41) 0 (initSt [(.val 0), (.val 1)] [] Tryd.f41.ntmps [.sl, .fn]) (finK Tryd.prog Tryd.f41.results []) = t41 := by kernel_rfl
theorem c41 {G : List Value} {h : H} {R : Value → List (List Value) → H → Prop} (hG : FitsL [.sl, .fn] G) (H : holds Tryd.prog R t41 G [] h) : CallsA Tryd.prog 41 (fun e => SV.denL G (fun k => e (k - 1000000)) [(.val 0), (.val 1)]) ([].map (SV.denL G dE)) h R :=
  CallsA.of_ev (cf := ⟨allF, [], l41⟩) (fn := Tryd.f41) (c := bodyOf Tryd.f41) (pcs := []) Tryd.func41 (by rfl) callOK (by rfl) hG (by rfl) (by rw [show ([] : List (List SV)).map List.length = [] from rfl, e41]; exact H)
/-- What is left of slices.Clone[[]int,int]. -/
def t42 : Out :=
 (.ite (.nilp 0)
  (.done (.cst (.slice none 0 0)) [])
  (.alloc 3 [] (.lsl 0) 
  (.app 3 1 8 (.val 1) (.sl (.val 0)) 
  (.done (.val 2) []))))
def l42 : List (Nat × List Nat × List (Nat × Nat) × List Nat) := []
theorem e42 : ev Tryd.prog ⟨allF, [5], l42⟩ (bodyOf Tryd.f42) 0 (initSt [(.val 0)] [] Tryd.f42.ntmps [.sl]) (finK Tryd.prog Tryd.f42.results []) = t42 := by kernel_rfl
theorem c42 {G : List Value} {h : H} {R : Value → List (List Value) → H → Prop} (hG : FitsL [.sl] G) (H : holds Tryd.prog R t42 G [] h) : CallsA Tryd.prog 42 (fun e => SV.denL G (fun k => e (k - 1000000)) [(.val 0)]) ([].map (SV.denL G dE)) h R :=
  CallsA.of_ev (cf := ⟨allF, [5], l42⟩) (fn := Tryd.f42) (c := bodyOf Tryd.f42) (pcs := []) Tryd.func42 (by rfl) callOK (by rfl) hG (by rfl) (by rw [show ([] : List (List SV)).map List.length = [] from rfl, e42]; exact H)
/-- What is left of (outworker/bag.Set[int]).Has. -/
def t44 : Out :=
 (.need (.ite (.cmp .geq (.var 1) (.lit 0)) (.cmp .lss (.op .quo .i64 (.var 1) (.lit 64)) (.len 0)) (.tt false)) [(.cmp .geq (.op .quo .i64 (.var 1) (.lit 64)) (.lit 0)), (.cmp .lss (.op .quo .i64 (.var 1) (.lit 64)) (.len 0))] 
 (.load (.ite (.cmp .geq (.var 1) (.lit 0)) (.cmp .lss (.op .quo .i64 (.var 1) (.lit 64)) (.len 0)) (.tt false)) (.idx (.var 0) (.op .quo .i64 (.var 1) (.lit 64)) 1) [.int .u64] 
 (.need (.ite (.cmp .geq (.var 1) (.lit 0)) (.cmp .lss (.op .quo .i64 (.var 1) (.lit 64)) (.len 0)) (.tt false)) [(.cmp .geq (.op .rem .i64 (.var 1) (.lit 64)) (.lit 0))] 
 (.done (.bool (.ite (.ite (.cmp .geq (.var 1) (.lit 0)) (.cmp .lss (.op .quo .i64 (.var 1) (.lit 64)) (.len 0)) (.tt false)) (.cmp .eql (.op .and .u64 (.op .shr .u64 (.var 2) (.op .rem .i64 (.var 1) (.lit 64))) (.lit 1)) (.lit 1)) (.tt false))) []))))
def l44 : List (Nat × List Nat × List (Nat × Nat) × List Nat) := []
theorem e44 : ev Tryd.prog ⟨allF, [], l44⟩ (bodyOf Tryd.f44) 0 (initSt [(.agg [(.val 0)]), (.int .i64 (.var 1))] [] Tryd.f44.ntmps [.sl, .int .i64]) (finK Tryd.prog Tryd.f44.results []) = t44 := by kernel_rfl
theorem c44 {G : List Value} {h : H} {R : Value → List (List Value) → H → Prop} (hG : FitsL [.sl, .int .i64] G) (H : holds Tryd.prog R t44 G [] h) : CallsA Tryd.prog 44 (fun e => SV.denL G (fun k => e (k - 1000000)) [(.agg [(.val 0)]), (.int .i64 (.var 1))]) ([].map (SV.denL G dE)) h R :=
  CallsA.of_ev (cf := ⟨allF, [], l44⟩) (fn := Tryd.f44) (c := bodyOf Tryd.f44) (pcs := []) Tryd.func44 (by rfl) callOK (by rfl) hG (by rfl) (by rw [show ([] : List (List SV)).map List.length = [] from rfl, e44]; exact H)
/-- What is left of (outworker/bag.Set[int]).All. -/
def t45 : Out :=
 (.loop 0 [(.cst (.slice none 0 0)), (.int .i64 (.lit 0))] [.sl, .int .i64] 
  (.ite (.cmp .lss (.var 2) (.len 0))
   (.need (.tt true) [(.cmp .geq (.var 2) (.lit 0)), (.cmp .lss (.var 2) (.len 0))] 
   (.load (.tt true) (.idx (.var 0) (.var 2) 1) [.int .u64] 
   (.loop 1 [(.val 1), (.int .u64 (.var 3))] [.sl, .int .u64] 
    (.ite (.cmp .neq (.var 5) (.lit 0))
     (.call 60 [(.int .u64 (.var 5))] [] [] [] [(false, [.int .i64])] 
     (.app 3 1 8 (.val 4) (.cells [(.int .i64 (.op .add .i64 (.op .mul .i64 (.lit 64) (.var 2)) (.var 6)))] 1) 
     (.again 1 [(.val 7), (.int .u64 (.op .and .u64 (.var 5) (.op .sub .u64 (.var 5) (.lit 1))))])))
     (.again 0 [(.val 4), (.int .i64 (.op .add .i64 (.var 2) (.lit 1)))])))))
   (.done (.val 1) [])))
def l45 : List (Nat × List Nat × List (Nat × Nat) × List Nat) := [(3, [3, 9], [], [10, 11, 12, 13, 4, 5, 14, 15, 20, 21, 22, 23, 24, 25, 26, 27, 16, 17, 18, 19, 28]), (5, [3, 5], [], [14, 15, 20, 21, 22, 23, 24, 25, 26, 27, 16, 17, 18, 19])]
theorem e45 : ev Tryd.prog ⟨allF, [], l45⟩ (bodyOf Tryd.f45) 0 (initSt [(.agg [(.val 0)])] [] Tryd.f45.ntmps [.sl]) (finK Tryd.prog Tryd.f45.results []) = t45 := by kernel_rfl
theorem c45 {G : List Value} {h : H} {R : Value → List (List Value) → H → Prop} (hG : FitsL [.sl] G) (H : holds Tryd.prog R t45 G [] h) : CallsA Tryd.prog 45 (fun e => SV.denL G (fun k => e (k - 1000000)) [(.agg [(.val 0)])]) ([].map (SV.denL G dE)) h R :=
  CallsA.of_ev (cf := ⟨allF, [], l45⟩) (fn := Tryd.f45) (c := bodyOf Tryd.f45) (pcs := []) Tryd.func45 (by rfl) callOK (by rfl) hG (by rfl) (by rw [show ([] : List (List SV)).map List.length = [] from rfl, e45]; exact H)
/-- What is left of math/bits.TrailingZeros64. -/
def t60 : Out :=
 (.ite (.cmp .eql (.var 0) (.lit 0))
  (.done (.int .i64 (.lit 64)) [])
  (.need (.tt true) [(.cmp .geq (.op .shr .u64 (.op .mul .u64 (.op .and .u64 (.var 0) (.op .sub .u64 (.lit 0) (.var 0))) (.lit 285870213051353865)) (.lit 58)) (.lit 0)), (.cmp .lss (.op .shr .u64 (.op .mul .u64 (.op .and .u64 (.var 0) (.op .sub .u64 (.lit 0) (.var 0))) (.lit 285870213051353865)) (.lit 58)) (.lit 64))] 
  (.load (.tt true) (.idx (.glob 0) (.op .shr .u64 (.op .mul .u64 (.op .and .u64 (.var 0) (.op .sub .u64 (.lit 0) (.var 0))) (.lit 285870213051353865)) (.lit 58)) 1) [.int .u8] 
  (.done (.int .i64 (.conv .i64 (.var 1))) []))))
def l60 : List (Nat × List Nat × List (Nat × Nat) × List Nat) := []
theorem e60 : ev Tryd.prog ⟨allF, [], l60⟩ (bodyOf Tryd.f60) 0 (initSt [(.int .u64 (.var 0))] [] Tryd.f60.ntmps [.int .u64]) (finK Tryd.prog Tryd.f60.results []) = t60 := by kernel_rfl
theorem c60 {G : List Value} {h : H} {R : Value → List (List Value) → H → Prop} (hG : FitsL [.int .u64] G) (H : holds Tryd.prog R t60 G [] h) : CallsA Tryd.prog 60 (fun e => SV.denL G (fun k => e (k - 1000000)) [(.int .u64 (.var 0))]) ([].map (SV.denL G dE)) h R :=
  CallsA.of_ev (cf := ⟨allF, [], l60⟩) (fn := Tryd.f60) (c := bodyOf Tryd.f60) (pcs := []) Tryd.func60 (by rfl) callOK (by rfl) hG (by rfl) (by rw [show ([] : List (List SV)).map List.length = [] from rfl, e60]; exact H)
/-- What is left of (outworker/bag.Set[int]).Len. -/
def t61 : Out :=
 (.loop 0 [(.int .i64 (.lit 0)), (.int .i64 (.lit 0))] [.int .i64, .int .i64] 
  (.ite (.cmp .lss (.var 2) (.len 0))
   (.need (.tt true) [(.cmp .geq (.var 2) (.lit 0)), (.cmp .lss (.var 2) (.len 0))] 
   (.load (.tt true) (.idx (.var 0) (.var 2) 1) [.int .u64] 
   (.call 64 [(.int .u64 (.var 3))] [] [] [] [(false, [.int .i64])] 
   (.again 0 [(.int .i64 (.op .add .i64 (.var 1) (.var 4))), (.int .i64 (.op .add .i64 (.var 2) (.lit 1)))]))))
   (.done (.int .i64 (.var 1)) [])))
def l61 : List (Nat × List Nat × List (Nat × Nat) × List Nat) := [(3, [3, 9], [], [10, 11, 12, 5, 13, 14, 15, 16, 17])]
theorem e61 : ev Tryd.prog ⟨allF, [], l61⟩ (bodyOf Tryd.f61) 0 (initSt [(.agg [(.val 0)])] [] Tryd.f61.ntmps [.sl]) (finK Tryd.prog Tryd.f61.results []) = t61 := by kernel_rfl
theorem c61 {G : List Value} {h : H} {R : Value → List (List Value) → H → Prop} (hG : FitsL [.sl] G) (H : holds Tryd.prog R t61 G [] h) : CallsA Tryd.prog 61 (fun e => SV.denL G (fun k => e (k - 1000000)) [(.agg [(.val 0)])]) ([].map (SV.denL G dE)) h R :=
  CallsA.of_ev (cf := ⟨allF, [], l61⟩) (fn := Tryd.f61) (c := bodyOf Tryd.f61) (pcs := []) Tryd.func61 (by rfl) callOK (by rfl) hG (by rfl) (by rw [show ([] : List (List SV)).map List.length = [] from rfl, e61]; exact H)
/-- What is left of slices.Clone[[]uint64,uint64]. -/
def t63 : Out :=
 (.ite (.nilp 0)
  (.done (.cst (.slice none 0 0)) [])
  (.alloc 79 [] (.lsl 0) 
  (.app 79 1 8 (.val 1) (.sl (.val 0)) 
  (.done (.val 2) []))))
def l63 : List (Nat × List Nat × List (Nat × Nat) × List Nat) := []
theorem e63 : ev Tryd.prog ⟨allF, [5], l63⟩ (bodyOf Tryd.f63) 0 (initSt [(.val 0)] [] Tryd.f63.ntmps [.sl]) (finK Tryd.prog Tryd.f63.results []) = t63 := by kernel_rfl
theorem c63 {G : List Value} {h : H} {R : Value → List (List Value) → H → Prop} (hG : FitsL [.sl] G) (H : holds Tryd.prog R t63 G [] h) : CallsA Tryd.prog 63 (fun e => SV.denL G (fun k => e (k - 1000000)) [(.val 0)]) ([].map (SV.denL G dE)) h R :=
  CallsA.of_ev (cf := ⟨allF, [5], l63⟩) (fn := Tryd.f63) (c := bodyOf Tryd.f63) (pcs := []) Tryd.func63 (by rfl) callOK (by rfl) hG (by rfl) (by rw [show ([] : List (List SV)).map List.length = [] from rfl, e63]; exact H)
/-- What is left of math/bits.OnesCount64. -/
def t64 : Out :=
 (.done (.int .i64 (.op .and .i64 (.conv .i64 (.op .add .u64 (.op .add .u64 (.op .add .u64 (.op .and .u64 (.op .add .u64 (.op .shr .u64 (.op .add .u64 (.op .and .u64 (.op .shr .u64 (.op .add .u64 (.op .and .u64 (.op .shr .u64 (.var 0) (.lit 1)) (.lit 6148914691236517205)) (.op .and .u64 (.var 0) (.lit 6148914691236517205))) (.lit 2)) (.lit 3689348814741910323)) (.op .and .u64 (.op .add .u64 (.op .and .u64 (.op .shr .u64 (.var 0) (.lit 1)) (.lit 6148914691236517205)) (.op .and .u64 (.var 0) (.lit 6148914691236517205))) (.lit 3689348814741910323))) (.lit 4)) (.op .add .u64 (.op .and .u64 (.op .shr .u64 (.op .add .u64 (.op .and .u64 (.op .shr .u64 (.var 0) (.lit 1)) (.lit 6148914691236517205)) (.op .and .u64 (.var 0) (.lit 6148914691236517205))) (.lit 2)) (.lit 3689348814741910323)) (.op .and .u64 (.op .add .u64 (.op .and .u64 (.op .shr .u64 (.var 0) (.lit 1)) (.lit 6148914691236517205)) (.op .and .u64 (.var 0) (.lit 6148914691236517205))) (.lit 3689348814741910323)))) (.lit 1085102592571150095)) (.op .shr .u64 (.op .and .u64 (.op .add .u64 (.op .shr .u64 (.op .add .u64 (.op .and .u64 (.op .shr .u64 (.op .add .u64 (.op .and .u64 (.op .shr .u64 (.var 0) (.lit 1)) (.lit 6148914691236517205)) (.op .and .u64 (.var 0) (.lit 6148914691236517205))) (.lit 2)) (.lit 3689348814741910323)) (.op .and .u64 (.op .add .u64 (.op .and .u64 (.op .shr .u64 (.var 0) (.lit 1)) (.lit 6148914691236517205)) (.op .and .u64 (.var 0) (.lit 6148914691236517205))) (.lit 3689348814741910323))) (.lit 4)) (.op .add .u64 (.op .and .u64 (.op .shr .u64 (.op .add .u64 (.op .and .u64 (.op .shr .u64 (.var 0) (.lit 1)) (.lit 6148914691236517205)) (.op .and .u64 (.var 0) (.lit 6148914691236517205))) (.lit 2)) (.lit 3689348814741910323)) (.op .and .u64 (.op .add .u64 (.op .and .u64 (.op .shr .u64 (.var 0) (.lit 1)) (.lit 6148914691236517205)) (.op .and .u64 (.var 0) (.lit 6148914691236517205))) (.lit 3689348814741910323)))) (.lit 1085102592571150095)) (.lit 8))) (.op .shr .u64 (.op .add .u64 (.op .and .u64 (.op .add .u64 (.op .shr .u64 (.op .add .u64 (.op .and .u64 (.op .shr .u64 (.op .add .u64 (.op .and .u64 (.op .shr .u64 (.var 0) (.lit 1)) (.lit 6148914691236517205)) (.op .and .u64 (.var 0) (.lit 6148914691236517205))) (.lit 2)) (.lit 3689348814741910323)) (.op .and .u64 (.op .add .u64 (.op .and .u64 (.op .shr .u64 (.var 0) (.lit 1)) (.lit 6148914691236517205)) (.op .and .u64 (.var 0) (.lit 6148914691236517205))) (.lit 3689348814741910323))) (.lit 4)) (.op .add .u64 (.op .and .u64 (.op .shr .u64 (.op .add .u64 (.op .and .u64 (.op .shr .u64 (.var 0) (.lit 1)) (.lit 6148914691236517205)) (.op .and .u64 (.var 0) (.lit 6148914691236517205))) (.lit 2)) (.lit 3689348814741910323)) (.op .and .u64 (.op .add .u64 (.op .and .u64 (.op .shr .u64 (.var 0) (.lit 1)) (.lit 6148914691236517205)) (.op .and .u64 (.var 0) (.lit 6148914691236517205))) (.lit 3689348814741910323)))) (.lit 1085102592571150095)) (.op .shr .u64 (.op .and .u64 (.op .add .u64 (.op .shr .u64 (.op .add .u64 (.op .and .u64 (.op .shr .u64 (.op .add .u64 (.op .and .u64 (.op .shr .u64 (.var 0) (.lit 1)) (.lit 6148914691236517205)) (.op .and .u64 (.var 0) (.lit 6148914691236517205))) (.lit 2)) (.lit 3689348814741910323)) (.op .and .u64 (.op .add .u64 (.op .and .u64 (.op .shr .u64 (.var 0) (.lit 1)) (.lit 6148914691236517205)) (.op .and .u64 (.var 0) (.lit 6148914691236517205))) (.lit 3689348814741910323))) (.lit 4)) (.op .add .u64 (.op .and .u64 (.op .shr .u64 (.op .add .u64 (.op .and .u64 (.op .shr .u64 (.var 0) (.lit 1)) (.lit 6148914691236517205)) (.op .and .u64 (.var 0) (.lit 6148914691236517205))) (.lit 2)) (.lit 3689348814741910323)) (.op .and .u64 (.op .add .u64 (.op .and .u64 (.op .shr .u64 (.var 0) (.lit 1)) (.lit 6148914691236517205)) (.op .and .u64 (.var 0) (.lit 6148914691236517205))) (.lit 3689348814741910323)))) (.lit 1085102592571150095)) (.lit 8))) (.lit 16))) (.op .shr .u64 (.op .add .u64 (.op .add .u64 (.op .and .u64 (.op .add .u64 (.op .shr .u64 (.op .add .u64 (.op .and .u64 (.op .shr .u64 (.op .add .u64 (.op .and .u64 (.op .shr .u64 (.var 0) (.lit 1)) (.lit 6148914691236517205)) (.op .and .u64 (.var 0) (.lit 6148914691236517205))) (.lit 2)) (.lit 3689348814741910323)) (.op .and .u64 (.op .add .u64 (.op .and .u64 (.op .shr .u64 (.var 0) (.lit 1)) (.lit 6148914691236517205)) (.op .and .u64 (.var 0) (.lit 6148914691236517205))) (.lit 3689348814741910323))) (.lit 4)) (.op .add .u64 (.op .and .u64 (.op .shr .u64 (.op .add .u64 (.op .and .u64 (.op .shr .u64 (.var 0) (.lit 1)) (.lit 6148914691236517205)) (.op .and .u64 (.var 0) (.lit 6148914691236517205))) (.lit 2)) (.lit 3689348814741910323)) (.op .and .u64 (.op .add .u64 (.op .and .u64 (.op .shr .u64 (.var 0) (.lit 1)) (.lit 6148914691236517205)) (.op .and .u64 (.var 0) (.lit 6148914691236517205))) (.lit 3689348814741910323)))) (.lit 1085102592571150095)) (.op .shr .u64 (.op .and .u64 (.op .add .u64 (.op .shr .u64 (.op .add .u64 (.op .and .u64 (.op .shr .u64 (.op .add .u64 (.op .and .u64 (.op .shr .u64 (.var 0) (.lit 1)) (.lit 6148914691236517205)) (.op .and .u64 (.var 0) (.lit 6148914691236517205))) (.lit 2)) (.lit 3689348814741910323)) (.op .and .u64 (.op .add .u64 (.op .and .u64 (.op .shr .u64 (.var 0) (.lit 1)) (.lit 6148914691236517205)) (.op .and .u64 (.var 0) (.lit 6148914691236517205))) (.lit 3689348814741910323))) (.lit 4)) (.op .add .u64 (.op .and .u64 (.op .shr .u64 (.op .add .u64 (.op .and .u64 (.op .shr .u64 (.var 0) (.lit 1)) (.lit 6148914691236517205)) (.op .and .u64 (.var 0) (.lit 6148914691236517205))) (.lit 2)) (.lit 3689348814741910323)) (.op .and .u64 (.op .add .u64 (.op .and .u64 (.op .shr .u64 (.var 0) (.lit 1)) (.lit 6148914691236517205)) (.op .and .u64 (.var 0) (.lit 6148914691236517205))) (.lit 3689348814741910323)))) (.lit 1085102592571150095)) (.lit 8))) (.op .shr .u64 (.op .add .u64 (.op .and .u64 (.op .add .u64 (.op .shr .u64 (.op .add .u64 (.op .and .u64 (.op .shr .u64 (.op .add .u64 (.op .and .u64 (.op .shr .u64 (.var 0) (.lit 1)) (.lit 6148914691236517205)) (.op .and .u64 (.var 0) (.lit 6148914691236517205))) (.lit 2)) (.lit 3689348814741910323)) (.op .and .u64 (.op .add .u64 (.op .and .u64 (.op .shr .u64 (.var 0) (.lit 1)) (.lit 6148914691236517205)) (.op .and .u64 (.var 0) (.lit 6148914691236517205))) (.lit 3689348814741910323))) (.lit 4)) (.op .add .u64 (.op .and .u64 (.op .shr .u64 (.op .add .u64 (.op .and .u64 (.op .shr .u64 (.var 0) (.lit 1)) (.lit 6148914691236517205)) (.op .and .u64 (.var 0) (.lit 6148914691236517205))) (.lit 2)) (.lit 3689348814741910323)) (.op .and .u64 (.op .add .u64 (.op .and .u64 (.op .shr .u64 (.var 0) (.lit 1)) (.lit 6148914691236517205)) (.op .and .u64 (.var 0) (.lit 6148914691236517205))) (.lit 3689348814741910323)))) (.lit 1085102592571150095)) (.op .shr .u64 (.op .and .u64 (.op .add .u64 (.op .shr .u64 (.op .add .u64 (.op .and .u64 (.op .shr .u64 (.op .add .u64 (.op .and .u64 (.op .shr .u64 (.var 0) (.lit 1)) (.lit 6148914691236517205)) (.op .and .u64 (.var 0) (.lit 6148914691236517205))) (.lit 2)) (.lit 3689348814741910323)) (.op .and .u64 (.op .add .u64 (.op .and .u64 (.op .shr .u64 (.var 0) (.lit 1)) (.lit 6148914691236517205)) (.op .and .u64 (.var 0) (.lit 6148914691236517205))) (.lit 3689348814741910323))) (.lit 4)) (.op .add .u64 (.op .and .u64 (.op .shr .u64 (.op .add .u64 (.op .and .u64 (.op .shr .u64 (.var 0) (.lit 1)) (.lit 6148914691236517205)) (.op .and .u64 (.var 0) (.lit 6148914691236517205))) (.lit 2)) (.lit 3689348814741910323)) (.op .and .u64 (.op .add .u64 (.op .and .u64 (.op .shr .u64 (.var 0) (.lit 1)) (.lit 6148914691236517205)) (.op .and .u64 (.var 0) (.lit 6148914691236517205))) (.lit 3689348814741910323)))) (.lit 1085102592571150095)) (.lit 8))) (.lit 16))) (.lit 32)))) (.lit 127))) [])
def l64 : List (Nat × List Nat × List (Nat × Nat) × List Nat) := []
theorem e64 : ev Tryd.prog ⟨allF, [], l64⟩ (bodyOf Tryd.f64) 0 (initSt [(.int .u64 (.var 0))] [] Tryd.f64.ntmps [.int .u64]) (finK Tryd.prog Tryd.f64.results []) = t64 := by kernel_rfl
theorem c64 {G : List Value} {h : H} {R : Value → List (List Value) → H → Prop} (hG : FitsL [.int .u64] G) (H : holds Tryd.prog R t64 G [] h) : CallsA Tryd.prog 64 (fun e => SV.denL G (fun k => e (k - 1000000)) [(.int .u64 (.var 0))]) ([].map (SV.denL G dE)) h R :=
  CallsA.of_ev (cf := ⟨allF, [], l64⟩) (fn := Tryd.f64) (c := bodyOf Tryd.f64) (pcs := []) Tryd.func64 (by rfl) callOK (by rfl) hG (by rfl) (by rw [show ([] : List (List SV)).map List.length = [] from rfl, e64]; exact H)
/-- What is left of (outworker/bag.Set[int]).Copy. -/
def t51 : Out :=
 (.call 63 [(.val 0)] [] [] [] [(false, [.sl])] 
 (.done (.agg [(.val 1)]) []))
def l51 : List (Nat × List Nat × List (Nat × Nat) × List Nat) := []
theorem e51 : ev Tryd.prog ⟨allF, [], l51⟩ (bodyOf Tryd.f51) 0 (initSt [(.agg [(.val 0)])] [] Tryd.f51.ntmps [.sl]) (finK Tryd.prog Tryd.f51.results []) = t51 := by kernel_rfl
theorem c51 {G : List Value} {h : H} {R : Value → List (List Value) → H → Prop} (hG : FitsL [.sl] G) (H : holds Tryd.prog R t51 G [] h) : CallsA Tryd.prog 51 (fun e => SV.denL G (fun k => e (k - 1000000)) [(.agg [(.val 0)])]) ([].map (SV.denL G dE)) h R :=
  CallsA.of_ev (cf := ⟨allF, [], l51⟩) (fn := Tryd.f51) (c := bodyOf Tryd.f51) (pcs := []) Tryd.func51 (by rfl) callOK (by rfl) hG (by rfl) (by rw [show ([] : List (List SV)).map List.length = [] from rfl, e51]; exact H)
/-- What is left of slices.Index[[]outworker/api.Edge,outworker/api.Edge]. -/
def t58 : Out :=
 (.loop 0 [(.int .i64 (.lit 0))] [.int .i64] 
  (.ite (.cmp .lss (.var 3) (.len 0))
   (.need (.tt true) [(.cmp .geq (.var 3) (.lit 0)), (.cmp .lss (.var 3) (.len 0))] 
   (.load (.tt true) (.idx (.var 0) (.var 3) 2) [.int .i64, .int .i64] 
   (.ite (.and (.cmp .eql (.var 1) (.var 4)) (.cmp .eql (.var 2) (.var 5)))
    (.done (.int .i64 (.var 3)) [])
    (.again 0 [(.int .i64 (.op .add .i64 (.var 3) (.lit 1)))]))))
   (.done (.int .i64 (.lit (-1))) [])))
def l58 : List (Nat × List Nat × List (Nat × Nat) × List Nat) := [(2, [8], [], [9, 10, 5, 11, 12, 13, 14, 15, 16, 17, 4, 18])]
theorem e58 : ev Tryd.prog ⟨allF, [], l58⟩ (bodyOf Tryd.f58) 0 (initSt [(.val 0), (.agg [(.int .i64 (.var 1)), (.int .i64 (.var 2))])] [] Tryd.f58.ntmps [.sl, .int .i64, .int .i64]) (finK Tryd.prog Tryd.f58.results []) = t58 := by kernel_rfl
theorem c58 {G : List Value} {h : H} {R : Value → List (List Value) → H → Prop} (hG : FitsL [.sl, .int .i64, .int .i64] G) (H : holds Tryd.prog R t58 G [] h) : CallsA Tryd.prog 58 (fun e => SV.denL G (fun k => e (k - 1000000)) [(.val 0), (.agg [(.int .i64 (.var 1)), (.int .i64 (.var 2))])]) ([].map (SV.denL G dE)) h R :=
  CallsA.of_ev (cf := ⟨allF, [], l58⟩) (fn := Tryd.f58) (c := bodyOf Tryd.f58) (pcs := []) Tryd.func58 (by rfl) callOK (by rfl) hG (by rfl) (by rw [show ([] : List (List SV)).map List.length = [] from rfl, e58]; exact H)
/-- What is left of slices.IndexFunc[[]outworker/api.Edge,outworker/api.Edge]. -/
def t59 : Out :=
 (.loop 0 [(.int .i64 (.lit 0))] [.int .i64] 
  (.ite (.cmp .lss (.var 2) (.len 0))
   (.need (.tt true) [(.cmp .geq (.var 2) (.lit 0)), (.cmp .lss (.var 2) (.len 0))] 
   (.load (.tt true) (.idx (.var 0) (.var 2) 2) [.int .i64, .int .i64] 
   (.callv (.val 1) [(.agg [(.int .i64 (.var 3)), (.int .i64 (.var 4))])] [(false, [.bool])] 
   (.ite (.var 5)
    (.done (.int .i64 (.var 2)) [])
    (.again 0 [(.int .i64 (.op .add .i64 (.var 2) (.lit 1)))])))))
   (.done (.int .i64 (.lit (-1))) [])))
def l59 : List (Nat × List Nat × List (Nat × Nat) × List Nat) := [(2000016, [], [(0, 1)], [0]), (2, [8], [], [9, 10, 5, 11, 12, 13, 14, 15, 16, 17, 4, 18])]
theorem e59 : ev Tryd.prog ⟨allF, [], l59⟩ (bodyOf Tryd.f59) 0 (initSt [(.val 0), (.val 1)] [] Tryd.f59.ntmps [.sl, .fn]) (finK Tryd.prog Tryd.f59.results []) = t59 := by kernel_rfl
theorem c59 {G : List Value} {h : H} {R : Value → List (List Value) → H → Prop} (hG : FitsL [.sl, .fn] G) (H : holds Tryd.prog R t59 G [] h) : CallsA Tryd.prog 59 (fun e => SV.denL G (fun k => e (k - 1000000)) [(.val 0), (.val 1)]) ([].map (SV.denL G dE)) h R :=
  CallsA.of_ev (cf := ⟨allF, [], l59⟩) (fn := Tryd.f59) (c := bodyOf Tryd.f59) (pcs := []) Tryd.func59 (by rfl) callOK (by rfl) hG (by rfl) (by rw [show ([] : List (List SV)).map List.length = [] from rfl, e59]; exact H)
/-- What is left of (*outworker/bag.Set[int]).Join. -/
def t52 : Out :=
 (.load (.tt true) (.var 0) [.sl] 
 (.call 61 [(.agg [(.val 2)])] [] [] [] [(false, [.int .i64])] 
 (.call 45 [(.agg [(.val 1)])] [] [] [] [(false, [.sl])] 
 (.loop 0 [(.int .i64 (.lit 0))] [.int .i64] 
  (.ite (.cmp .lss (.var 5) (.len 4))
   (.need (.tt true) [(.cmp .geq (.var 5) (.lit 0)), (.cmp .lss (.var 5) (.len 4))] 
   (.load (.tt true) (.idx (.var 4) (.var 5) 1) [.int .i64] 
   (.call 32 [(.ptr (.var 0)), (.int .i64 (.var 6))] [] [] [] [(false, [.bool])] 
   (.again 0 [(.int .i64 (.op .add .i64 (.var 5) (.lit 1)))]))))
   (.load (.tt true) (.var 0) [.sl] 
   (.call 61 [(.agg [(.val 6)])] [] [] [] [(false, [.int .i64])] 
   (.done (.bool (.cmp .gtr (.var 7) (.var 3))) []))))))))
def l52 : List (Nat × List Nat × List (Nat × Nat) × List Nat) := [(3, [15], [], [16, 17, 18, 7, 19, 20, 21, 22])]
theorem e52 : ev Tryd.prog ⟨allF, [], l52⟩ (bodyOf Tryd.f52) 0 (initSt [(.ptr (.var 0)), (.agg [(.val 1)])] [] Tryd.f52.ntmps [.ptr, .sl]) (finK Tryd.prog Tryd.f52.results []) = t52 := by kernel_rfl
theorem c52 {G : List Value} {h : H} {R : Value → List (List Value) → H → Prop} (hG : FitsL [.ptr, .sl] G) (H : holds Tryd.prog R t52 G [] h) : CallsA Tryd.prog 52 (fun e => SV.denL G (fun k => e (k - 1000000)) [(.ptr (.var 0)), (.agg [(.val 1)])]) ([].map (SV.denL G dE)) h R :=
  CallsA.of_ev (cf := ⟨allF, [], l52⟩) (fn := Tryd.f52) (c := bodyOf Tryd.f52) (pcs := []) Tryd.func52 (by rfl) callOK (by rfl) hG (by rfl) (by rw [show ([] : List (List SV)).map List.length = [] from rfl, e52]; exact H)
end Go.Proofs.YtbgfabppmobpgaaDoor
