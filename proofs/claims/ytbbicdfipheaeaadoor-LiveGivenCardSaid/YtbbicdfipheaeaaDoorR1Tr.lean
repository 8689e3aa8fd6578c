/-
  What the evaluator leaves of the functions of this seat (trees, printed by a program of ours), and their contracts from it. Conditions: none.
-/
import Derived.Test.YtbbicdfipheaeaaDoorEc
import Derived.Test.YtbbicdfipheaeaaDoorProg
set_option linter.unusedVariables false
set_option linter.unusedSimpArgs false
namespace Go.Proofs.YtbbicdfipheaeaaDoor
open Go

def bodyOf (fn : Func) : Code := match fn.body with | some c => c | none => .seq (.exit 0) (.exit 0)
def allF : List Nat := [2, 3, 4, 5, 6, 7, 8, 9, 10, 11, 12, 13, 14, 15, 16, 17, 18, 19, 20, 21, 22, 23, 24, 25, 26, 27, 28, 29, 30, 31, 32, 33, 34, 35, 36, 37, 38, 39, 40, 41, 42, 43, 44, 45, 46, 47, 48, 49, 50, 51, 52, 53, 54, 55, 56, 57, 58, 59, 60, 61, 62, 63, 64, 65, 66, 67, 68, 69, 70, 71, 72, 73, 74, 75, 76, 77, 78, 79, 80, 81, 82, 83, 103]
theorem callOK : CallOK Tryd.prog allF := by
  intro f hf args w
  simp only [allF, List.mem_cons, List.not_mem_nil, or_false] at hf
  rcases hf with rfl | rfl | rfl | rfl | rfl | rfl | rfl | rfl | rfl | rfl | rfl | rfl | rfl | rfl | rfl | rfl | rfl | rfl | rfl | rfl | rfl | rfl | rfl | rfl | rfl | rfl | rfl | rfl | rfl | rfl | rfl | rfl | rfl | rfl | rfl | rfl | rfl | rfl | rfl | rfl | rfl | rfl | rfl | rfl | rfl | rfl | rfl | rfl | rfl | rfl | rfl | rfl | rfl | rfl | rfl | rfl | rfl | rfl | rfl | rfl | rfl | rfl | rfl | rfl | rfl | rfl | rfl | rfl | rfl | rfl | rfl | rfl | rfl | rfl | rfl | rfl | rfl | rfl | rfl | rfl | rfl | rfl | rfl
  · exact Tryd.call2 args w
  · exact Tryd.call3 args w
  · exact Tryd.call4 args w
  · exact Tryd.call5 args w
  · exact Tryd.call6 args w
  · exact Tryd.call7 args w
  · exact Tryd.call8 args w
  · exact Tryd.call9 args w
  · exact Tryd.call10 args w
  · exact Tryd.call11 args w
  · exact Tryd.call12 args w
  · exact Tryd.call13 args w
  · exact Tryd.call14 args w
  · exact Tryd.call15 args w
  · exact Tryd.call16 args w
  · exact Tryd.call17 args w
  · exact Tryd.call18 args w
  · exact Tryd.call19 args w
  · exact Tryd.call20 args w
  · exact Tryd.call21 args w
  · exact Tryd.call22 args w
  · exact Tryd.call23 args w
  · exact Tryd.call24 args w
  · exact Tryd.call25 args w
  · exact Tryd.call26 args w
  · exact Tryd.call27 args w
  · exact Tryd.call28 args w
  · exact Tryd.call29 args w
  · exact Tryd.call30 args w
  · exact Tryd.call31 args w
  · exact Tryd.call32 args w
  · exact Tryd.call33 args w
  · exact Tryd.call34 args w
  · exact Tryd.call35 args w
  · exact Tryd.call36 args w
  · exact Tryd.call37 args w
  · exact Tryd.call38 args w
  · exact Tryd.call39 args w
  · exact Tryd.call40 args w
  · exact Tryd.call41 args w
  · exact Tryd.call42 args w
  · exact Tryd.call43 args w
  · exact Tryd.call44 args w
  · exact Tryd.call45 args w
  · exact Tryd.call46 args w
  · exact Tryd.call47 args w
  · exact Tryd.call48 args w
  · exact Tryd.call49 args w
  · exact Tryd.call50 args w
  · exact Tryd.call51 args w
  · exact Tryd.call52 args w
  · exact Tryd.call53 args w
  · exact Tryd.call54 args w
  · exact Tryd.call55 args w
  · exact Tryd.call56 args w
  · exact Tryd.call57 args w
  · exact Tryd.call58 args w
  · exact Tryd.call59 args w
  · exact Tryd.call60 args w
  · exact Tryd.call61 args w
  · exact Tryd.call62 args w
  · exact Tryd.call63 args w
  · exact Tryd.call64 args w
  · exact Tryd.call65 args w
  · exact Tryd.call66 args w
  · exact Tryd.call67 args w
  · exact Tryd.call68 args w
  · exact Tryd.call69 args w
  · exact Tryd.call70 args w
  · exact Tryd.call71 args w
  · exact Tryd.call72 args w
  · exact Tryd.call73 args w
  · exact Tryd.call74 args w
  · exact Tryd.call75 args w
  · exact Tryd.call76 args w
  · exact Tryd.call77 args w
  · exact Tryd.call78 args w
  · exact Tryd.call79 args w
  · exact Tryd.call80 args w
  · exact Tryd.call81 args w
  · exact Tryd.call82 args w
  · exact Tryd.call83 args w
  · exact Tryd.call103 args w
/-- What is left of outworker/outworkerlaw04.Made. -/
def t12 : Out :=
 (.loop 0 [(.int .i64 (.lit 0)), (.val 3), (.cst (.slice none 0 0))] [.int .i64, .sl, .sl] 
  (.ite (.cmp .lss (.var 4) (.op .add .i64 (.lit 1) (.conv .i64 (.op .rem .u8 (.var 2) (.lit 7)))))
   (.call 44 [(.loc 24 0), (.int .i64 (.lit 9))] [24] [[(.val 5)]] [[.sl]] [(false, [.int .i64])] 
   (.loop 1 [(.int .i64 (.lit 0)), (.cst (.slice none 0 0)), (.val 7)] [.int .i64, .sl, .sl] 
    (.ite (.cmp .lss (.var 9) (.var 8))
     (.call 45 [(.loc 24 0), (.int .i64 (.op .add .i64 (.ite (.cmp .gtr (.lit 1) (.conv .i64 (.op .rem .u8 (.var 0) (.lit 5)))) (.lit 1) (.conv .i64 (.op .rem .u8 (.var 0) (.lit 5)))) (.conv .i64 (.op .rem .u8 (.var 1) (.lit 28)))))] [24] [[(.val 11)]] [[.sl]] [(true, [.int .u8, .int .u8, .int .i64, .int .i64, .int .i64, .int .i64, .sl])] 
     (.app 72 7 64 (.val 10) (.cells [(.int .u8 (.var 13)), (.int .u8 (.var 14)), (.int .i64 (.var 15)), (.int .i64 (.var 16)), (.int .i64 (.var 17)), (.int .i64 (.var 18)), (.val 19)] 1) 
     (.again 1 [(.int .i64 (.op .add .i64 (.var 9) (.lit 1))), (.val 20), (.val 12)])))
     (.call 44 [(.loc 24 0), (.int .i64 (.lit 4))] [24] [[(.val 11)]] [[.sl]] [(false, [.int .i64])] 
     (.ite (.cmp .eql (.var 13) (.lit 1))
      (.call 44 [(.loc 24 0), (.int .i64 (.op .add .i64 (.lit 1) (.conv .i64 (.op .rem .u8 (.var 2) (.lit 7)))))] [24] [[(.val 12)]] [[.sl]] [(false, [.int .i64])] 
      (.app 66 5 56 (.val 6) (.cells [(.val 10), (.int .u8 (.lit 1)), (.int .i64 (.lit 0)), (.int .i64 (.var 15)), (.int .i64 (.lit 0))] 1) 
      (.again 0 [(.int .i64 (.op .add .i64 (.var 4) (.lit 1))), (.val 14), (.val 16)])))
      (.ite (.ite (.cmp .eql (.var 13) (.lit 2)) (.cmp .eql (.var 13) (.lit 2)) (.cmp .eql (.var 13) (.lit 3)))
       (.call 44 [(.loc 24 0), (.int .i64 (.op .add .i64 (.ite (.cmp .gtr (.lit 1) (.conv .i64 (.op .rem .u8 (.var 0) (.lit 5)))) (.lit 1) (.conv .i64 (.op .rem .u8 (.var 0) (.lit 5)))) (.conv .i64 (.op .rem .u8 (.var 1) (.lit 28)))))] [24] [[(.val 12)]] [[.sl]] [(false, [.int .i64])] 
       (.call 44 [(.loc 24 0), (.int .i64 (.op .add .i64 (.lit 1) (.conv .i64 (.op .rem .u8 (.var 2) (.lit 7)))))] [24] [[(.val 14)]] [[.sl]] [(false, [.int .i64])] 
       (.call 44 [(.loc 24 0), (.int .i64 (.op .add .i64 (.lit 1) (.conv .i64 (.op .rem .u8 (.var 2) (.lit 7)))))] [24] [[(.val 16)]] [[.sl]] [(false, [.int .i64])] 
       (.app 66 5 56 (.val 6) (.cells [(.val 10), (.int .u8 (.lit 2)), (.int .i64 (.var 15)), (.int .i64 (.var 17)), (.int .i64 (.var 19))] 1) 
       (.again 0 [(.int .i64 (.op .add .i64 (.var 4) (.lit 1))), (.val 18), (.val 20)])))))
       (.call 44 [(.loc 24 0), (.int .i64 (.op .add .i64 (.ite (.cmp .gtr (.lit 1) (.conv .i64 (.op .rem .u8 (.var 0) (.lit 5)))) (.lit 1) (.conv .i64 (.op .rem .u8 (.var 0) (.lit 5)))) (.conv .i64 (.op .rem .u8 (.var 1) (.lit 28)))))] [24] [[(.val 12)]] [[.sl]] [(false, [.int .i64])] 
       (.app 66 5 56 (.val 6) (.cells [(.val 10), (.int .u8 (.lit 3)), (.int .i64 (.var 15)), (.int .i64 (.lit 0)), (.int .i64 (.lit 0))] 1) 
       (.again 0 [(.int .i64 (.op .add .i64 (.var 4) (.lit 1))), (.val 14), (.val 16)])))))))))
   (.done (.agg [(.int .i64 (.conv .i64 (.op .rem .u8 (.var 0) (.lit 5)))), (.int .i64 (.op .add .i64 (.ite (.cmp .gtr (.lit 1) (.conv .i64 (.op .rem .u8 (.var 0) (.lit 5)))) (.lit 1) (.conv .i64 (.op .rem .u8 (.var 0) (.lit 5)))) (.conv .i64 (.op .rem .u8 (.var 1) (.lit 28))))), (.val 6)]) [])))
def l12 : List (Nat × List Nat × List (Nat × Nat) × List Nat) := [(6, [31], [(24, 0), (3, 2)], [32, 6, 33, 34, 35, 36, 37, 38, 39, 40, 41, 42, 43, 44, 45, 46, 47, 48, 56, 55, 57, 58, 59, 60, 61, 63, 62, 64, 65, 66, 67, 68, 69, 70, 71, 72, 73, 74, 75, 76, 49, 50, 51, 52, 53, 54, 77, 78, 79, 80, 81, 82, 83]), (9, [35], [(6, 0), (24, 0)], [36, 37, 38, 39, 40, 41, 42, 43, 44, 45, 46])]
theorem e12 : ev Tryd.prog ⟨allF, [], l12⟩ (bodyOf Tryd.f12) 0 (initSt [(.agg [(.int .u8 (.var 0)), (.int .u8 (.var 1)), (.int .u8 (.var 2)), (.val 3)])] [] Tryd.f12.ntmps [.int .u8, .int .u8, .int .u8, .sl]) (finK Tryd.prog Tryd.f12.results []) = t12 := by kernel_rfl
theorem c12 {G : List Value} {h : H} {R : Value → List (List Value) → H → Prop} (hG : FitsL [.int .u8, .int .u8, .int .u8, .sl] G) (H : holds Tryd.prog R t12 G [] h) : CallsA Tryd.prog 12 (fun e => SV.denL G (fun k => e (k - 1000000)) [(.agg [(.int .u8 (.var 0)), (.int .u8 (.var 1)), (.int .u8 (.var 2)), (.val 3)])]) ([].map (SV.denL G dE)) h R :=
  CallsA.of_ev (cf := ⟨allF, [], l12⟩) (fn := Tryd.f12) (c := bodyOf Tryd.f12) (pcs := []) Tryd.func12 (by rfl) callOK (by rfl) hG (by rfl) (by rw [show ([] : List (List SV)).map List.length = [] from rfl, e12]; exact H)
/-- What is left of outworker/outworkerref10.In. -/
def t22 : Out :=
 (.loop 0 [(.int .i64 (.lit 0))] [.int .i64] 
  (.ite (.cmp .lss (.var 2) (.len 0))
   (.need (.tt true) [(.cmp .geq (.var 2) (.lit 0)), (.cmp .lss (.var 2) (.len 0))] 
   (.load (.tt true) (.idx (.var 0) (.var 2) 1) [.int .i64] 
   (.ite (.cmp .eql (.var 3) (.var 1))
    (.done (.bool (.tt true)) [])
    (.again 0 [(.int .i64 (.op .add .i64 (.var 2) (.lit 1)))]))))
   (.done (.bool (.tt false)) [])))
def l22 : List (Nat × List Nat × List (Nat × Nat) × List Nat) := [(2, [5], [], [6, 7, 8, 9, 12, 13, 14, 15, 16, 17, 4, 10, 11])]
theorem e22 : ev Tryd.prog ⟨allF, [], l22⟩ (bodyOf Tryd.f22) 0 (initSt [(.val 0), (.int .i64 (.var 1))] [] Tryd.f22.ntmps [.sl, .int .i64]) (finK Tryd.prog Tryd.f22.results []) = t22 := by kernel_rfl
theorem c22 {G : List Value} {h : H} {R : Value → List (List Value) → H → Prop} (hG : FitsL [.sl, .int .i64] G) (H : holds Tryd.prog R t22 G [] h) : CallsA Tryd.prog 22 (fun e => SV.denL G (fun k => e (k - 1000000)) [(.val 0), (.int .i64 (.var 1))]) ([].map (SV.denL G dE)) h R :=
  CallsA.of_ev (cf := ⟨allF, [], l22⟩) (fn := Tryd.f22) (c := bodyOf Tryd.f22) (pcs := []) Tryd.func22 (by rfl) callOK (by rfl) hG (by rfl) (by rw [show ([] : List (List SV)).map List.length = [] from rfl, e22]; exact H)
/-- What is left of (outworker/bag.Set[int]).Has. -/
def t23 : Out :=
 (.need (.ite (.cmp .geq (.var 1) (.lit 0)) (.cmp .lss (.op .quo .i64 (.var 1) (.lit 64)) (.len 0)) (.tt false)) [(.cmp .geq (.op .quo .i64 (.var 1) (.lit 64)) (.lit 0)), (.cmp .lss (.op .quo .i64 (.var 1) (.lit 64)) (.len 0))] 
 (.load (.ite (.cmp .geq (.var 1) (.lit 0)) (.cmp .lss (.op .quo .i64 (.var 1) (.lit 64)) (.len 0)) (.tt false)) (.idx (.var 0) (.op .quo .i64 (.var 1) (.lit 64)) 1) [.int .u64] 
 (.need (.ite (.cmp .geq (.var 1) (.lit 0)) (.cmp .lss (.op .quo .i64 (.var 1) (.lit 64)) (.len 0)) (.tt false)) [(.cmp .geq (.op .rem .i64 (.var 1) (.lit 64)) (.lit 0))] 
 (.done (.bool (.ite (.ite (.cmp .geq (.var 1) (.lit 0)) (.cmp .lss (.op .quo .i64 (.var 1) (.lit 64)) (.len 0)) (.tt false)) (.cmp .eql (.op .and .u64 (.op .shr .u64 (.var 2) (.op .rem .i64 (.var 1) (.lit 64))) (.lit 1)) (.lit 1)) (.tt false))) []))))
def l23 : List (Nat × List Nat × List (Nat × Nat) × List Nat) := []
theorem e23 : ev Tryd.prog ⟨allF, [], l23⟩ (bodyOf Tryd.f23) 0 (initSt [(.agg [(.val 0)]), (.int .i64 (.var 1))] [] Tryd.f23.ntmps [.sl, .int .i64]) (finK Tryd.prog Tryd.f23.results []) = t23 := by kernel_rfl
theorem c23 {G : List Value} {h : H} {R : Value → List (List Value) → H → Prop} (hG : FitsL [.sl, .int .i64] G) (H : holds Tryd.prog R t23 G [] h) : CallsA Tryd.prog 23 (fun e => SV.denL G (fun k => e (k - 1000000)) [(.agg [(.val 0)]), (.int .i64 (.var 1))]) ([].map (SV.denL G dE)) h R :=
  CallsA.of_ev (cf := ⟨allF, [], l23⟩) (fn := Tryd.f23) (c := bodyOf Tryd.f23) (pcs := []) Tryd.func23 (by rfl) callOK (by rfl) hG (by rfl) (by rw [show ([] : List (List SV)).map List.length = [] from rfl, e23]; exact H)
/-- What is left of outworker/outworkerref10.Next. -/
def t32 : Out :=
 (.ite (.cmp .eql (.var 0) (.lit 1))
  (.alloc 3 [(.int .i64 (.var 2))] (.lsl 1) 
  (.done (.val 4) []))
  (.ite (.cmp .eql (.var 0) (.lit 2))
   (.ite (.cmp .eql (.var 2) (.var 3))
    (.alloc 3 [(.int .i64 (.var 2))] (.lsl 1) 
    (.done (.val 4) []))
    (.alloc 3 [(.int .i64 (.var 2)), (.int .i64 (.var 3))] (.lsl 2) 
    (.done (.val 4) [])))
   (.done (.cst (.slice none 0 0)) [])))
def l32 : List (Nat × List Nat × List (Nat × Nat) × List Nat) := []
theorem e32 : ev Tryd.prog ⟨allF, [9, 19, 24], l32⟩ (bodyOf Tryd.f32) 0 (initSt [(.agg [(.int .u8 (.var 0)), (.int .i64 (.var 1)), (.int .i64 (.var 2)), (.int .i64 (.var 3))])] [] Tryd.f32.ntmps [.int .u8, .int .i64, .int .i64, .int .i64]) (finK Tryd.prog Tryd.f32.results []) = t32 := by kernel_rfl
theorem c32 {G : List Value} {h : H} {R : Value → List (List Value) → H → Prop} (hG : FitsL [.int .u8, .int .i64, .int .i64, .int .i64] G) (H : holds Tryd.prog R t32 G [] h) : CallsA Tryd.prog 32 (fun e => SV.denL G (fun k => e (k - 1000000)) [(.agg [(.int .u8 (.var 0)), (.int .i64 (.var 1)), (.int .i64 (.var 2)), (.int .i64 (.var 3))])]) ([].map (SV.denL G dE)) h R :=
  CallsA.of_ev (cf := ⟨allF, [9, 19, 24], l32⟩) (fn := Tryd.f32) (c := bodyOf Tryd.f32) (pcs := []) Tryd.func32 (by rfl) callOK (by rfl) hG (by rfl) (by rw [show ([] : List (List SV)).map List.length = [] from rfl, e32]; exact H)
/-- What is left of outworker/paths.Next. -/
def t47 : Out :=
 (.ite (.ite (.cmp .eql (.var 0) (.lit 1)) (.cmp .eql (.var 0) (.lit 1)) (.ite (.cmp .eql (.var 0) (.lit 2)) (.cmp .eql (.var 2) (.var 3)) (.tt false)))
  (.alloc 3 [(.int .i64 (.var 2))] (.lsl 1) 
  (.done (.val 4) []))
  (.ite (.cmp .eql (.var 0) (.lit 2))
   (.alloc 3 [(.int .i64 (.var 2)), (.int .i64 (.var 3))] (.lsl 2) 
   (.done (.val 4) []))
   (.done (.cst (.slice none 0 0)) [])))
def l47 : List (Nat × List Nat × List (Nat × Nat) × List Nat) := []
theorem e47 : ev Tryd.prog ⟨allF, [19, 28], l47⟩ (bodyOf Tryd.f47) 0 (initSt [(.agg [(.int .u8 (.var 0)), (.int .i64 (.var 1)), (.int .i64 (.var 2)), (.int .i64 (.var 3))])] [] Tryd.f47.ntmps [.int .u8, .int .i64, .int .i64, .int .i64]) (finK Tryd.prog Tryd.f47.results []) = t47 := by kernel_rfl
theorem c47 {G : List Value} {h : H} {R : Value → List (List Value) → H → Prop} (hG : FitsL [.int .u8, .int .i64, .int .i64, .int .i64] G) (H : holds Tryd.prog R t47 G [] h) : CallsA Tryd.prog 47 (fun e => SV.denL G (fun k => e (k - 1000000)) [(.agg [(.int .u8 (.var 0)), (.int .i64 (.var 1)), (.int .i64 (.var 2)), (.int .i64 (.var 3))])]) ([].map (SV.denL G dE)) h R :=
  CallsA.of_ev (cf := ⟨allF, [19, 28], l47⟩) (fn := Tryd.f47) (c := bodyOf Tryd.f47) (pcs := []) Tryd.func47 (by rfl) callOK (by rfl) hG (by rfl) (by rw [show ([] : List (List SV)).map List.length = [] from rfl, e47]; exact H)
/-- What is left of outworker/outworkerref10.Ahead. -/
def t49 : Out :=
 (.loop 0 [(.cst (.slice none 0 0)), (.int .i64 (.lit 0))] [.sl, .int .i64] 
  (.ite (.cmp .lss (.var 3) (.len 0))
   (.need (.tt true) [(.cmp .geq (.var 3) (.lit 0)), (.cmp .lss (.var 3) (.len 0))] 
   (.load (.tt true) (.fld (.idx (.var 0) (.var 3) 5) 1) [.int .u8, .int .i64, .int .i64, .int .i64] 
   (.call 32 [(.agg [(.int .u8 (.var 4)), (.int .i64 (.var 5)), (.int .i64 (.var 6)), (.int .i64 (.var 7))])] [] [] [] [(false, [.sl])] 
   (.call 22 [(.val 8), (.int .i64 (.var 1))] [] [] [] [(false, [.bool])] 
   (.ite (.var 9)
    (.app 3 1 8 (.val 2) (.cells [(.int .i64 (.var 3))] 1) 
    (.again 0 [(.val 10), (.int .i64 (.op .add .i64 (.var 3) (.lit 1)))]))
    (.again 0 [(.val 2), (.int .i64 (.op .add .i64 (.var 3) (.lit 1)))]))))))
   (.done (.val 2) [])))
def l49 : List (Nat × List Nat × List (Nat × Nat) × List Nat) := [(3, [5, 6], [], [7, 8, 9, 10, 13, 14, 15, 16, 17, 18, 19, 20, 21, 22, 23, 24, 11, 12])]
theorem e49 : ev Tryd.prog ⟨allF, [], l49⟩ (bodyOf Tryd.f49) 0 (initSt [(.val 0), (.int .i64 (.var 1))] [] Tryd.f49.ntmps [.sl, .int .i64]) (finK Tryd.prog Tryd.f49.results []) = t49 := by kernel_rfl
theorem c49 {G : List Value} {h : H} {R : Value → List (List Value) → H → Prop} (hG : FitsL [.sl, .int .i64] G) (H : holds Tryd.prog R t49 G [] h) : CallsA Tryd.prog 49 (fun e => SV.denL G (fun k => e (k - 1000000)) [(.val 0), (.int .i64 (.var 1))]) ([].map (SV.denL G dE)) h R :=
  CallsA.of_ev (cf := ⟨allF, [], l49⟩) (fn := Tryd.f49) (c := bodyOf Tryd.f49) (pcs := []) Tryd.func49 (by rfl) callOK (by rfl) hG (by rfl) (by rw [show ([] : List (List SV)).map List.length = [] from rfl, e49]; exact H)
/-- What is left of outworker/outworkerlaw11.ahead. -/
def t14 : Out :=
 (.alloc 26 [(.val 0)] .loc 
 (.ite (.var 1)
  (.done (.fn (.func 46) [] [(.ptr (.var 2))]) [])
  (.done (.fn (.func 48) [] [(.ptr (.var 2))]) [])))
def l14 : List (Nat × List Nat × List (Nat × Nat) × List Nat) := []
theorem e14 : ev Tryd.prog ⟨allF, [2], l14⟩ (bodyOf Tryd.f14) 0 (initSt [(.val 0), (.bool (.var 1))] [] Tryd.f14.ntmps [.sl, .bool]) (finK Tryd.prog Tryd.f14.results []) = t14 := by kernel_rfl
theorem c14 {G : List Value} {h : H} {R : Value → List (List Value) → H → Prop} (hG : FitsL [.sl, .bool] G) (H : holds Tryd.prog R t14 G [] h) : CallsA Tryd.prog 14 (fun e => SV.denL G (fun k => e (k - 1000000)) [(.val 0), (.bool (.var 1))]) ([].map (SV.denL G dE)) h R :=
  CallsA.of_ev (cf := ⟨allF, [2], l14⟩) (fn := Tryd.f14) (c := bodyOf Tryd.f14) (pcs := []) Tryd.func14 (by rfl) callOK (by rfl) hG (by rfl) (by rw [show ([] : List (List SV)).map List.length = [] from rfl, e14]; exact H)
/-- What is left of outworker/outworkerlaw11.ahead$1. -/
def t46 : Out :=
 (.load (.tt true) (.var 1) [.sl] 
 (.need (.tt true) [(.cmp .geq (.var 0) (.lit 0)), (.cmp .lss (.var 0) (.len 2))] 
 (.load (.tt true) (.fld (.idx (.var 2) (.var 0) 5) 1) [.int .u8, .int .i64, .int .i64, .int .i64] 
 (.call 47 [(.agg [(.int .u8 (.var 3)), (.int .i64 (.var 4)), (.int .i64 (.var 5)), (.int .i64 (.var 6))])] [] [] [] [(false, [.sl])] 
 (.done (.val 7) [])))))
def l46 : List (Nat × List Nat × List (Nat × Nat) × List Nat) := []
theorem e46 : ev Tryd.prog ⟨allF, [], l46⟩ (bodyOf Tryd.f46) 0 (initSt [(.int .i64 (.var 0)), (.ptr (.var 1))] [] Tryd.f46.ntmps [.int .i64, .ptr]) (finK Tryd.prog Tryd.f46.results []) = t46 := by kernel_rfl
theorem c46 {G : List Value} {h : H} {R : Value → List (List Value) → H → Prop} (hG : FitsL [.int .i64, .ptr] G) (H : holds Tryd.prog R t46 G [] h) : CallsA Tryd.prog 46 (fun e => SV.denL G (fun k => e (k - 1000000)) [(.int .i64 (.var 0)), (.ptr (.var 1))]) ([].map (SV.denL G dE)) h R :=
  CallsA.of_ev (cf := ⟨allF, [], l46⟩) (fn := Tryd.f46) (c := bodyOf Tryd.f46) (pcs := []) Tryd.func46 (by rfl) callOK (by rfl) hG (by rfl) (by rw [show ([] : List (List SV)).map List.length = [] from rfl, e46]; exact H)
/-- What is left of outworker/outworkerlaw11.ahead$2. -/
def t48 : Out :=
 (.load (.tt true) (.var 1) [.sl] 
 (.call 49 [(.val 2), (.int .i64 (.var 0))] [] [] [] [(false, [.sl])] 
 (.done (.val 3) [])))
def l48 : List (Nat × List Nat × List (Nat × Nat) × List Nat) := []
theorem e48 : ev Tryd.prog ⟨allF, [], l48⟩ (bodyOf Tryd.f48) 0 (initSt [(.int .i64 (.var 0)), (.ptr (.var 1))] [] Tryd.f48.ntmps [.int .i64, .ptr]) (finK Tryd.prog Tryd.f48.results []) = t48 := by kernel_rfl
theorem c48 {G : List Value} {h : H} {R : Value → List (List Value) → H → Prop} (hG : FitsL [.int .i64, .ptr] G) (H : holds Tryd.prog R t48 G [] h) : CallsA Tryd.prog 48 (fun e => SV.denL G (fun k => e (k - 1000000)) [(.int .i64 (.var 0)), (.ptr (.var 1))]) ([].map (SV.denL G dE)) h R :=
  CallsA.of_ev (cf := ⟨allF, [], l48⟩) (fn := Tryd.f48) (c := bodyOf Tryd.f48) (pcs := []) Tryd.func48 (by rfl) callOK (by rfl) hG (by rfl) (by rw [show ([] : List (List SV)).map List.length = [] from rfl, e48]; exact H)
/-- What is left of (outworker/bag.Set[int]).Len. -/
def t53 : Out :=
 (.loop 0 [(.int .i64 (.lit 0)), (.int .i64 (.lit 0))] [.int .i64, .int .i64] 
  (.ite (.cmp .lss (.var 2) (.len 0))
   (.need (.tt true) [(.cmp .geq (.var 2) (.lit 0)), (.cmp .lss (.var 2) (.len 0))] 
   (.load (.tt true) (.idx (.var 0) (.var 2) 1) [.int .u64] 
   (.call 67 [(.int .u64 (.var 3))] [] [] [] [(false, [.int .i64])] 
   (.again 0 [(.int .i64 (.op .add .i64 (.var 1) (.var 4))), (.int .i64 (.op .add .i64 (.var 2) (.lit 1)))]))))
   (.done (.int .i64 (.var 1)) [])))
def l53 : List (Nat × List Nat × List (Nat × Nat) × List Nat) := [(3, [3, 9], [], [10, 11, 12, 5, 13, 14, 15, 16, 17])]
theorem e53 : ev Tryd.prog ⟨allF, [], l53⟩ (bodyOf Tryd.f53) 0 (initSt [(.agg [(.val 0)])] [] Tryd.f53.ntmps [.sl]) (finK Tryd.prog Tryd.f53.results []) = t53 := by kernel_rfl
theorem c53 {G : List Value} {h : H} {R : Value → List (List Value) → H → Prop} (hG : FitsL [.sl] G) (H : holds Tryd.prog R t53 G [] h) : CallsA Tryd.prog 53 (fun e => SV.denL G (fun k => e (k - 1000000)) [(.agg [(.val 0)])]) ([].map (SV.denL G dE)) h R :=
  CallsA.of_ev (cf := ⟨allF, [], l53⟩) (fn := Tryd.f53) (c := bodyOf Tryd.f53) (pcs := []) Tryd.func53 (by rfl) callOK (by rfl) hG (by rfl) (by rw [show ([] : List (List SV)).map List.length = [] from rfl, e53]; exact H)
/-- What is left of (outworker/bag.Set[int]).All. -/
def t54 : Out :=
 (.loop 0 [(.cst (.slice none 0 0)), (.int .i64 (.lit 0))] [.sl, .int .i64] 
  (.ite (.cmp .lss (.var 2) (.len 0))
   (.need (.tt true) [(.cmp .geq (.var 2) (.lit 0)), (.cmp .lss (.var 2) (.len 0))] 
   (.load (.tt true) (.idx (.var 0) (.var 2) 1) [.int .u64] 
   (.loop 1 [(.val 1), (.int .u64 (.var 3))] [.sl, .int .u64] 
    (.ite (.cmp .neq (.var 5) (.lit 0))
     (.call 68 [(.int .u64 (.var 5))] [] [] [] [(false, [.int .i64])] 
     (.app 3 1 8 (.val 4) (.cells [(.int .i64 (.op .add .i64 (.op .mul .i64 (.lit 64) (.var 2)) (.var 6)))] 1) 
     (.again 1 [(.val 7), (.int .u64 (.op .and .u64 (.var 5) (.op .sub .u64 (.var 5) (.lit 1))))])))
     (.again 0 [(.val 4), (.int .i64 (.op .add .i64 (.var 2) (.lit 1)))])))))
   (.done (.val 1) [])))
def l54 : List (Nat × List Nat × List (Nat × Nat) × List Nat) := [(3, [3, 9], [], [10, 11, 12, 13, 4, 5, 14, 15, 20, 21, 22, 23, 24, 25, 26, 27, 16, 17, 18, 19, 28]), (5, [3, 5], [], [14, 15, 20, 21, 22, 23, 24, 25, 26, 27, 16, 17, 18, 19])]
theorem e54 : ev Tryd.prog ⟨allF, [], l54⟩ (bodyOf Tryd.f54) 0 (initSt [(.agg [(.val 0)])] [] Tryd.f54.ntmps [.sl]) (finK Tryd.prog Tryd.f54.results []) = t54 := by kernel_rfl
theorem c54 {G : List Value} {h : H} {R : Value → List (List Value) → H → Prop} (hG : FitsL [.sl] G) (H : holds Tryd.prog R t54 G [] h) : CallsA Tryd.prog 54 (fun e => SV.denL G (fun k => e (k - 1000000)) [(.agg [(.val 0)])]) ([].map (SV.denL G dE)) h R :=
  CallsA.of_ev (cf := ⟨allF, [], l54⟩) (fn := Tryd.f54) (c := bodyOf Tryd.f54) (pcs := []) Tryd.func54 (by rfl) callOK (by rfl) hG (by rfl) (by rw [show ([] : List (List SV)).map List.length = [] from rfl, e54]; exact H)
/-- What is left of (*outworker/bag.Set[int]).Put. -/
def t55 : Out :=
 (.load (.not (.ite (.cmp .lss (.var 1) (.lit 0)) (.tt true) (.cmp .geq (.var 1) (.lit 4096)))) (.var 0) [.sl] 
 (.ite (.not (.ite (.cmp .lss (.var 1) (.lit 0)) (.tt true) (.cmp .geq (.var 1) (.lit 4096))))
  (.call 23 [(.agg [(.val 2)]), (.int .i64 (.var 1))] [] [] [] [(false, [.bool])] 
  (.ite (.var 3)
   (.done (.bool (.tt false)) [])
   (.loop 0 [] [] 
    (.load (.tt true) (.fld (.var 0) 0) [.sl] 
    (.ite (.cmp .leq (.len 4) (.op .quo .i64 (.var 1) (.lit 64)))
     (.load (.tt true) (.fld (.var 0) 0) [.sl] 
     (.app 111 1 8 (.val 5) (.cells [(.int .u64 (.lit 0))] 1) 
     (.store (.fld (.var 0) 0) [(.val 6)] 
     (.again 0 []))))
     (.load (.tt true) (.fld (.var 0) 0) [.sl] 
     (.need (.tt true) [(.cmp .geq (.op .quo .i64 (.var 1) (.lit 64)) (.lit 0)), (.cmp .lss (.op .quo .i64 (.var 1) (.lit 64)) (.len 5))] 
     (.load (.tt true) (.idx (.var 5) (.op .quo .i64 (.var 1) (.lit 64)) 1) [.int .u64] 
     (.need (.tt true) [(.cmp .geq (.op .rem .i64 (.var 1) (.lit 64)) (.lit 0))] 
     (.need (.tt true) [(.cmp .geq (.op .quo .i64 (.var 1) (.lit 64)) (.lit 0)), (.cmp .lss (.op .quo .i64 (.var 1) (.lit 64)) (.len 5))] 
     (.store (.idx (.var 5) (.op .quo .i64 (.var 1) (.lit 64)) 1) [(.int .u64 (.op .or .u64 (.var 6) (.op .shl .u64 (.lit 1) (.op .rem .i64 (.var 1) (.lit 64)))))] 
     (.done (.bool (.tt true)) []))))))))))))
  (.done (.bool (.tt false)) [])))
def l55 : List (Nat × List Nat × List (Nat × Nat) × List Nat) := [(3, [], [], [18, 19, 20, 21, 22, 23, 24, 25, 26, 27, 28, 29, 30, 31, 32, 33, 34])]
theorem e55 : ev Tryd.prog ⟨allF, [], l55⟩ (bodyOf Tryd.f55) 0 (initSt [(.ptr (.var 0)), (.int .i64 (.var 1))] [] Tryd.f55.ntmps [.ptr, .int .i64]) (finK Tryd.prog Tryd.f55.results []) = t55 := by kernel_rfl
theorem c55 {G : List Value} {h : H} {R : Value → List (List Value) → H → Prop} (hG : FitsL [.ptr, .int .i64] G) (H : holds Tryd.prog R t55 G [] h) : CallsA Tryd.prog 55 (fun e => SV.denL G (fun k => e (k - 1000000)) [(.ptr (.var 0)), (.int .i64 (.var 1))]) ([].map (SV.denL G dE)) h R :=
  CallsA.of_ev (cf := ⟨allF, [], l55⟩) (fn := Tryd.f55) (c := bodyOf Tryd.f55) (pcs := []) Tryd.func55 (by rfl) callOK (by rfl) hG (by rfl) (by rw [show ([] : List (List SV)).map List.length = [] from rfl, e55]; exact H)
/-- What is left of (*outworker/bag.Set[int]).Join. -/
def t17 : Out :=
 (.load (.tt true) (.var 0) [.sl] 
 (.call 53 [(.agg [(.val 2)])] [] [] [] [(false, [.int .i64])] 
 (.call 54 [(.agg [(.val 1)])] [] [] [] [(false, [.sl])] 
 (.loop 0 [(.int .i64 (.lit 0))] [.int .i64] 
  (.ite (.cmp .lss (.var 5) (.len 4))
   (.need (.tt true) [(.cmp .geq (.var 5) (.lit 0)), (.cmp .lss (.var 5) (.len 4))] 
   (.load (.tt true) (.idx (.var 4) (.var 5) 1) [.int .i64] 
   (.call 55 [(.ptr (.var 0)), (.int .i64 (.var 6))] [] [] [] [(false, [.bool])] 
   (.again 0 [(.int .i64 (.op .add .i64 (.var 5) (.lit 1)))]))))
   (.load (.tt true) (.var 0) [.sl] 
   (.call 53 [(.agg [(.val 6)])] [] [] [] [(false, [.int .i64])] 
   (.done (.bool (.cmp .gtr (.var 7) (.var 3))) []))))))))
def l17 : List (Nat × List Nat × List (Nat × Nat) × List Nat) := [(3, [15], [], [16, 17, 18, 7, 19, 20, 21, 22])]
theorem e17 : ev Tryd.prog ⟨allF, [], l17⟩ (bodyOf Tryd.f17) 0 (initSt [(.ptr (.var 0)), (.agg [(.val 1)])] [] Tryd.f17.ntmps [.ptr, .sl]) (finK Tryd.prog Tryd.f17.results []) = t17 := by kernel_rfl
theorem c17 {G : List Value} {h : H} {R : Value → List (List Value) → H → Prop} (hG : FitsL [.ptr, .sl] G) (H : holds Tryd.prog R t17 G [] h) : CallsA Tryd.prog 17 (fun e => SV.denL G (fun k => e (k - 1000000)) [(.ptr (.var 0)), (.agg [(.val 1)])]) ([].map (SV.denL G dE)) h R :=
  CallsA.of_ev (cf := ⟨allF, [], l17⟩) (fn := Tryd.f17) (c := bodyOf Tryd.f17) (pcs := []) Tryd.func17 (by rfl) callOK (by rfl) hG (by rfl) (by rw [show ([] : List (List SV)).map List.length = [] from rfl, e17]; exact H)
/-- What is left of slices.Clone[[]uint64,uint64]. -/
def t56 : Out :=
 (.ite (.nilp 0)
  (.done (.cst (.slice none 0 0)) [])
  (.alloc 111 [] (.lsl 0) 
  (.app 111 1 8 (.val 1) (.sl (.val 0)) 
  (.done (.val 2) []))))
def l56 : List (Nat × List Nat × List (Nat × Nat) × List Nat) := []
theorem e56 : ev Tryd.prog ⟨allF, [5], l56⟩ (bodyOf Tryd.f56) 0 (initSt [(.val 0)] [] Tryd.f56.ntmps [.sl]) (finK Tryd.prog Tryd.f56.results []) = t56 := by kernel_rfl
theorem c56 {G : List Value} {h : H} {R : Value → List (List Value) → H → Prop} (hG : FitsL [.sl] G) (H : holds Tryd.prog R t56 G [] h) : CallsA Tryd.prog 56 (fun e => SV.denL G (fun k => e (k - 1000000)) [(.val 0)]) ([].map (SV.denL G dE)) h R :=
  CallsA.of_ev (cf := ⟨allF, [5], l56⟩) (fn := Tryd.f56) (c := bodyOf Tryd.f56) (pcs := []) Tryd.func56 (by rfl) callOK (by rfl) hG (by rfl) (by rw [show ([] : List (List SV)).map List.length = [] from rfl, e56]; exact H)
/-- What is left of (outworker/bag.Set[int]).Copy. -/
def t19 : Out :=
 (.call 56 [(.val 0)] [] [] [] [(false, [.sl])] 
 (.done (.agg [(.val 1)]) []))
def l19 : List (Nat × List Nat × List (Nat × Nat) × List Nat) := []
theorem e19 : ev Tryd.prog ⟨allF, [], l19⟩ (bodyOf Tryd.f19) 0 (initSt [(.agg [(.val 0)])] [] Tryd.f19.ntmps [.sl]) (finK Tryd.prog Tryd.f19.results []) = t19 := by kernel_rfl
theorem c19 {G : List Value} {h : H} {R : Value → List (List Value) → H → Prop} (hG : FitsL [.sl] G) (H : holds Tryd.prog R t19 G [] h) : CallsA Tryd.prog 19 (fun e => SV.denL G (fun k => e (k - 1000000)) [(.agg [(.val 0)])]) ([].map (SV.denL G dE)) h R :=
  CallsA.of_ev (cf := ⟨allF, [], l19⟩) (fn := Tryd.f19) (c := bodyOf Tryd.f19) (pcs := []) Tryd.func19 (by rfl) callOK (by rfl) hG (by rfl) (by rw [show ([] : List (List SV)).map List.length = [] from rfl, e19]; exact H)
/-- What is left of math/bits.OnesCount64. -/
def t67 : Out :=
 (.done (.int .i64 (.op .and .i64 (.conv .i64 (.op .add .u64 (.op .add .u64 (.op .add .u64 (.op .and .u64 (.op .add .u64 (.op .shr .u64 (.op .add .u64 (.op .and .u64 (.op .shr .u64 (.op .add .u64 (.op .and .u64 (.op .shr .u64 (.var 0) (.lit 1)) (.lit 6148914691236517205)) (.op .and .u64 (.var 0) (.lit 6148914691236517205))) (.lit 2)) (.lit 3689348814741910323)) (.op .and .u64 (.op .add .u64 (.op .and .u64 (.op .shr .u64 (.var 0) (.lit 1)) (.lit 6148914691236517205)) (.op .and .u64 (.var 0) (.lit 6148914691236517205))) (.lit 3689348814741910323))) (.lit 4)) (.op .add .u64 (.op .and .u64 (.op .shr .u64 (.op .add .u64 (.op .and .u64 (.op .shr .u64 (.var 0) (.lit 1)) (.lit 6148914691236517205)) (.op .and .u64 (.var 0) (.lit 6148914691236517205))) (.lit 2)) (.lit 3689348814741910323)) (.op .and .u64 (.op .add .u64 (.op .and .u64 (.op .shr .u64 (.var 0) (.lit 1)) (.lit 6148914691236517205)) (.op .and .u64 (.var 0) (.lit 6148914691236517205))) (.lit 3689348814741910323)))) (.lit 1085102592571150095)) (.op .shr .u64 (.op .and .u64 (.op .add .u64 (.op .shr .u64 (.op .add .u64 (.op .and .u64 (.op .shr .u64 (.op .add .u64 (.op .and .u64 (.op .shr .u64 (.var 0) (.lit 1)) (.lit 6148914691236517205)) (.op .and .u64 (.var 0) (.lit 6148914691236517205))) (.lit 2)) (.lit 3689348814741910323)) (.op .and .u64 (.op .add .u64 (.op .and .u64 (.op .shr .u64 (.var 0) (.lit 1)) (.lit 6148914691236517205)) (.op .and .u64 (.var 0) (.lit 6148914691236517205))) (.lit 3689348814741910323))) (.lit 4)) (.op .add .u64 (.op .and .u64 (.op .shr .u64 (.op .add .u64 (.op .and .u64 (.op .shr .u64 (.var 0) (.lit 1)) (.lit 6148914691236517205)) (.op .and .u64 (.var 0) (.lit 6148914691236517205))) (.lit 2)) (.lit 3689348814741910323)) (.op .and .u64 (.op .add .u64 (.op .and .u64 (.op .shr .u64 (.var 0) (.lit 1)) (.lit 6148914691236517205)) (.op .and .u64 (.var 0) (.lit 6148914691236517205))) (.lit 3689348814741910323)))) (.lit 1085102592571150095)) (.lit 8))) (.op .shr .u64 (.op .add .u64 (.op .and .u64 (.op .add .u64 (.op .shr .u64 (.op .add .u64 (.op .and .u64 (.op .shr .u64 (.op .add .u64 (.op .and .u64 (.op .shr .u64 (.var 0) (.lit 1)) (.lit 6148914691236517205)) (.op .and .u64 (.var 0) (.lit 6148914691236517205))) (.lit 2)) (.lit 3689348814741910323)) (.op .and .u64 (.op .add .u64 (.op .and .u64 (.op .shr .u64 (.var 0) (.lit 1)) (.lit 6148914691236517205)) (.op .and .u64 (.var 0) (.lit 6148914691236517205))) (.lit 3689348814741910323))) (.lit 4)) (.op .add .u64 (.op .and .u64 (.op .shr .u64 (.op .add .u64 (.op .and .u64 (.op .shr .u64 (.var 0) (.lit 1)) (.lit 6148914691236517205)) (.op .and .u64 (.var 0) (.lit 6148914691236517205))) (.lit 2)) (.lit 3689348814741910323)) (.op .and .u64 (.op .add .u64 (.op .and .u64 (.op .shr .u64 (.var 0) (.lit 1)) (.lit 6148914691236517205)) (.op .and .u64 (.var 0) (.lit 6148914691236517205))) (.lit 3689348814741910323)))) (.lit 1085102592571150095)) (.op .shr .u64 (.op .and .u64 (.op .add .u64 (.op .shr .u64 (.op .add .u64 (.op .and .u64 (.op .shr .u64 (.op .add .u64 (.op .and .u64 (.op .shr .u64 (.var 0) (.lit 1)) (.lit 6148914691236517205)) (.op .and .u64 (.var 0) (.lit 6148914691236517205))) (.lit 2)) (.lit 3689348814741910323)) (.op .and .u64 (.op .add .u64 (.op .and .u64 (.op .shr .u64 (.var 0) (.lit 1)) (.lit 6148914691236517205)) (.op .and .u64 (.var 0) (.lit 6148914691236517205))) (.lit 3689348814741910323))) (.lit 4)) (.op .add .u64 (.op .and .u64 (.op .shr .u64 (.op .add .u64 (.op .and .u64 (.op .shr .u64 (.var 0) (.lit 1)) (.lit 6148914691236517205)) (.op .and .u64 (.var 0) (.lit 6148914691236517205))) (.lit 2)) (.lit 3689348814741910323)) (.op .and .u64 (.op .add .u64 (.op .and .u64 (.op .shr .u64 (.var 0) (.lit 1)) (.lit 6148914691236517205)) (.op .and .u64 (.var 0) (.lit 6148914691236517205))) (.lit 3689348814741910323)))) (.lit 1085102592571150095)) (.lit 8))) (.lit 16))) (.op .shr .u64 (.op .add .u64 (.op .add .u64 (.op .and .u64 (.op .add .u64 (.op .shr .u64 (.op .add .u64 (.op .and .u64 (.op .shr .u64 (.op .add .u64 (.op .and .u64 (.op .shr .u64 (.var 0) (.lit 1)) (.lit 6148914691236517205)) (.op .and .u64 (.var 0) (.lit 6148914691236517205))) (.lit 2)) (.lit 3689348814741910323)) (.op .and .u64 (.op .add .u64 (.op .and .u64 (.op .shr .u64 (.var 0) (.lit 1)) (.lit 6148914691236517205)) (.op .and .u64 (.var 0) (.lit 6148914691236517205))) (.lit 3689348814741910323))) (.lit 4)) (.op .add .u64 (.op .and .u64 (.op .shr .u64 (.op .add .u64 (.op .and .u64 (.op .shr .u64 (.var 0) (.lit 1)) (.lit 6148914691236517205)) (.op .and .u64 (.var 0) (.lit 6148914691236517205))) (.lit 2)) (.lit 3689348814741910323)) (.op .and .u64 (.op .add .u64 (.op .and .u64 (.op .shr .u64 (.var 0) (.lit 1)) (.lit 6148914691236517205)) (.op .and .u64 (.var 0) (.lit 6148914691236517205))) (.lit 3689348814741910323)))) (.lit 1085102592571150095)) (.op .shr .u64 (.op .and .u64 (.op .add .u64 (.op .shr .u64 (.op .add .u64 (.op .and .u64 (.op .shr .u64 (.op .add .u64 (.op .and .u64 (.op .shr .u64 (.var 0) (.lit 1)) (.lit 6148914691236517205)) (.op .and .u64 (.var 0) (.lit 6148914691236517205))) (.lit 2)) (.lit 3689348814741910323)) (.op .and .u64 (.op .add .u64 (.op .and .u64 (.op .shr .u64 (.var 0) (.lit 1)) (.lit 6148914691236517205)) (.op .and .u64 (.var 0) (.lit 6148914691236517205))) (.lit 3689348814741910323))) (.lit 4)) (.op .add .u64 (.op .and .u64 (.op .shr .u64 (.op .add .u64 (.op .and .u64 (.op .shr .u64 (.var 0) (.lit 1)) (.lit 6148914691236517205)) (.op .and .u64 (.var 0) (.lit 6148914691236517205))) (.lit 2)) (.lit 3689348814741910323)) (.op .and .u64 (.op .add .u64 (.op .and .u64 (.op .shr .u64 (.var 0) (.lit 1)) (.lit 6148914691236517205)) (.op .and .u64 (.var 0) (.lit 6148914691236517205))) (.lit 3689348814741910323)))) (.lit 1085102592571150095)) (.lit 8))) (.op .shr .u64 (.op .add .u64 (.op .and .u64 (.op .add .u64 (.op .shr .u64 (.op .add .u64 (.op .and .u64 (.op .shr .u64 (.op .add .u64 (.op .and .u64 (.op .shr .u64 (.var 0) (.lit 1)) (.lit 6148914691236517205)) (.op .and .u64 (.var 0) (.lit 6148914691236517205))) (.lit 2)) (.lit 3689348814741910323)) (.op .and .u64 (.op .add .u64 (.op .and .u64 (.op .shr .u64 (.var 0) (.lit 1)) (.lit 6148914691236517205)) (.op .and .u64 (.var 0) (.lit 6148914691236517205))) (.lit 3689348814741910323))) (.lit 4)) (.op .add .u64 (.op .and .u64 (.op .shr .u64 (.op .add .u64 (.op .and .u64 (.op .shr .u64 (.var 0) (.lit 1)) (.lit 6148914691236517205)) (.op .and .u64 (.var 0) (.lit 6148914691236517205))) (.lit 2)) (.lit 3689348814741910323)) (.op .and .u64 (.op .add .u64 (.op .and .u64 (.op .shr .u64 (.var 0) (.lit 1)) (.lit 6148914691236517205)) (.op .and .u64 (.var 0) (.lit 6148914691236517205))) (.lit 3689348814741910323)))) (.lit 1085102592571150095)) (.op .shr .u64 (.op .and .u64 (.op .add .u64 (.op .shr .u64 (.op .add .u64 (.op .and .u64 (.op .shr .u64 (.op .add .u64 (.op .and .u64 (.op .shr .u64 (.var 0) (.lit 1)) (.lit 6148914691236517205)) (.op .and .u64 (.var 0) (.lit 6148914691236517205))) (.lit 2)) (.lit 3689348814741910323)) (.op .and .u64 (.op .add .u64 (.op .and .u64 (.op .shr .u64 (.var 0) (.lit 1)) (.lit 6148914691236517205)) (.op .and .u64 (.var 0) (.lit 6148914691236517205))) (.lit 3689348814741910323))) (.lit 4)) (.op .add .u64 (.op .and .u64 (.op .shr .u64 (.op .add .u64 (.op .and .u64 (.op .shr .u64 (.var 0) (.lit 1)) (.lit 6148914691236517205)) (.op .and .u64 (.var 0) (.lit 6148914691236517205))) (.lit 2)) (.lit 3689348814741910323)) (.op .and .u64 (.op .add .u64 (.op .and .u64 (.op .shr .u64 (.var 0) (.lit 1)) (.lit 6148914691236517205)) (.op .and .u64 (.var 0) (.lit 6148914691236517205))) (.lit 3689348814741910323)))) (.lit 1085102592571150095)) (.lit 8))) (.lit 16))) (.lit 32)))) (.lit 127))) [])
def l67 : List (Nat × List Nat × List (Nat × Nat) × List Nat) := []
theorem e67 : ev Tryd.prog ⟨allF, [], l67⟩ (bodyOf Tryd.f67) 0 (initSt [(.int .u64 (.var 0))] [] Tryd.f67.ntmps [.int .u64]) (finK Tryd.prog Tryd.f67.results []) = t67 := by kernel_rfl
theorem c67 {G : List Value} {h : H} {R : Value → List (List Value) → H → Prop} (hG : FitsL [.int .u64] G) (H : holds Tryd.prog R t67 G [] h) : CallsA Tryd.prog 67 (fun e => SV.denL G (fun k => e (k - 1000000)) [(.int .u64 (.var 0))]) ([].map (SV.denL G dE)) h R :=
  CallsA.of_ev (cf := ⟨allF, [], l67⟩) (fn := Tryd.f67) (c := bodyOf Tryd.f67) (pcs := []) Tryd.func67 (by rfl) callOK (by rfl) hG (by rfl) (by rw [show ([] : List (List SV)).map List.length = [] from rfl, e67]; exact H)
/-- What is left of math/bits.TrailingZeros64. -/
def t68 : Out :=
 (.ite (.cmp .eql (.var 0) (.lit 0))
  (.done (.int .i64 (.lit 64)) [])
  (.need (.tt true) [(.cmp .geq (.op .shr .u64 (.op .mul .u64 (.op .and .u64 (.var 0) (.op .sub .u64 (.lit 0) (.var 0))) (.lit 285870213051353865)) (.lit 58)) (.lit 0)), (.cmp .lss (.op .shr .u64 (.op .mul .u64 (.op .and .u64 (.var 0) (.op .sub .u64 (.lit 0) (.var 0))) (.lit 285870213051353865)) (.lit 58)) (.lit 64))] 
  (.load (.tt true) (.idx (.glob 0) (.op .shr .u64 (.op .mul .u64 (.op .and .u64 (.var 0) (.op .sub .u64 (.lit 0) (.var 0))) (.lit 285870213051353865)) (.lit 58)) 1) [.int .u8] 
  (.done (.int .i64 (.conv .i64 (.var 1))) []))))
def l68 : List (Nat × List Nat × List (Nat × Nat) × List Nat) := []
theorem e68 : ev Tryd.prog ⟨allF, [], l68⟩ (bodyOf Tryd.f68) 0 (initSt [(.int .u64 (.var 0))] [] Tryd.f68.ntmps [.int .u64]) (finK Tryd.prog Tryd.f68.results []) = t68 := by kernel_rfl
theorem c68 {G : List Value} {h : H} {R : Value → List (List Value) → H → Prop} (hG : FitsL [.int .u64] G) (H : holds Tryd.prog R t68 G [] h) : CallsA Tryd.prog 68 (fun e => SV.denL G (fun k => e (k - 1000000)) [(.int .u64 (.var 0))]) ([].map (SV.denL G dE)) h R :=
  CallsA.of_ev (cf := ⟨allF, [], l68⟩) (fn := Tryd.f68) (c := bodyOf Tryd.f68) (pcs := []) Tryd.func68 (by rfl) callOK (by rfl) hG (by rfl) (by rw [show ([] : List (List SV)).map List.length = [] from rfl, e68]; exact H)
/-- What is left of outworker/outworkerlaw11.marks. -/
def t13 : Out :=
 (.both 
  (.mk 47 1 24 (.len 0) 
  (.both 
   (.mk 47 1 24 (.len 0) 
   (.loop 0 [(.int .i64 (.lit 0))] [.int .i64] 
    (.ite (.cmp .lss (.var 5) (.len 1))
     (.need (.tt true) [(.cmp .geq (.var 5) (.lit 0)), (.cmp .lss (.var 5) (.len 1))] 
     (.load (.tt true) (.idx (.var 1) (.var 5) 1) [.int .u8] 
     (.ite (.cmp .lss (.var 5) (.lit 40))
      (.need (.tt true) [(.cmp .neq (.len 0) (.lit 0))] 
      (.need (.tt true) [(.cmp .neq (.len 0) (.lit 0))] 
      (.need (.tt true) [(.cmp .geq (.op .rem .i64 (.var 5) (.len 0)) (.lit 0)), (.cmp .lss (.op .rem .i64 (.var 5) (.len 0)) (.len 3))] 
      (.load (.tt true) (.idx (.var 3) (.op .rem .i64 (.var 5) (.len 0)) 1) [.sl] 
      (.still (.tt true) (.idx (.var 3) (.op .rem .i64 (.var 5) (.len 0)) 1) [(.val 7)] 
      (.app 3 1 8 (.val 7) (.cells [(.int .i64 (.conv .i64 (.op .rem .u8 (.var 6) (.lit 20))))] 1) 
      (.need (.tt true) [(.cmp .geq (.op .rem .i64 (.var 5) (.len 0)) (.lit 0)), (.cmp .lss (.op .rem .i64 (.var 5) (.len 0)) (.len 3))] 
      (.store (.idx (.var 3) (.op .rem .i64 (.var 5) (.len 0)) 1) [(.val 8)] 
      (.again 0 [(.int .i64 (.op .add .i64 (.var 5) (.lit 1)))])))))))))
      (.again 0 [(.int .i64 (.op .add .i64 (.var 5) (.lit 1)))]))))
     (.loop 0 [(.int .i64 (.lit 0))] [.int .i64] 
      (.ite (.cmp .lss (.var 6) (.len 2))
       (.need (.tt true) [(.cmp .geq (.var 6) (.lit 0)), (.cmp .lss (.var 6) (.len 2))] 
       (.load (.tt true) (.idx (.var 2) (.var 6) 1) [.int .u8] 
       (.ite (.cmp .lss (.var 6) (.lit 40))
        (.need (.tt true) [(.cmp .neq (.len 0) (.lit 0))] 
        (.need (.tt true) [(.cmp .neq (.len 0) (.lit 0))] 
        (.need (.tt true) [(.cmp .geq (.op .rem .i64 (.var 6) (.len 0)) (.lit 0)), (.cmp .lss (.op .rem .i64 (.var 6) (.len 0)) (.len 4))] 
        (.load (.tt true) (.idx (.var 4) (.op .rem .i64 (.var 6) (.len 0)) 1) [.sl] 
        (.still (.tt true) (.idx (.var 4) (.op .rem .i64 (.var 6) (.len 0)) 1) [(.val 8)] 
        (.app 3 1 8 (.val 8) (.cells [(.int .i64 (.conv .i64 (.op .rem .u8 (.var 7) (.lit 20))))] 1) 
        (.need (.tt true) [(.cmp .geq (.op .rem .i64 (.var 6) (.len 0)) (.lit 0)), (.cmp .lss (.op .rem .i64 (.var 6) (.len 0)) (.len 4))] 
        (.store (.idx (.var 4) (.op .rem .i64 (.var 6) (.len 0)) 1) [(.val 9)] 
        (.again 0 [(.int .i64 (.op .add .i64 (.var 6) (.lit 1)))])))))))))
        (.again 0 [(.int .i64 (.op .add .i64 (.var 6) (.lit 1)))]))))
       (.done (.tup [(.val 3), (.val 4)]) [])))))) 
   (.mk 47 1 24 (.len 0) 
   (.loop 0 [(.int .i64 (.lit 0))] [.int .i64] 
    (.ite (.cmp .lss (.var 5) (.len 1))
     (.need (.tt true) [(.cmp .geq (.var 5) (.lit 0)), (.cmp .lss (.var 5) (.len 1))] 
     (.load (.tt true) (.idx (.var 1) (.var 5) 1) [.int .u8] 
     (.ite (.cmp .lss (.var 5) (.lit 40))
      (.need (.tt true) [(.cmp .neq (.len 0) (.lit 0))] 
      (.need (.tt true) [(.cmp .neq (.len 0) (.lit 0))] 
      (.need (.tt true) [(.cmp .geq (.op .rem .i64 (.var 5) (.len 0)) (.lit 0)), (.cmp .lss (.op .rem .i64 (.var 5) (.len 0)) (.len 3))] 
      (.load (.tt true) (.idx (.var 3) (.op .rem .i64 (.var 5) (.len 0)) 1) [.sl] 
      (.still (.tt true) (.idx (.var 3) (.op .rem .i64 (.var 5) (.len 0)) 1) [(.val 7)] 
      (.app 3 1 8 (.val 7) (.cells [(.int .i64 (.conv .i64 (.op .rem .u8 (.var 6) (.lit 20))))] 1) 
      (.need (.tt true) [(.cmp .geq (.op .rem .i64 (.var 5) (.len 0)) (.lit 0)), (.cmp .lss (.op .rem .i64 (.var 5) (.len 0)) (.len 3))] 
      (.store (.idx (.var 3) (.op .rem .i64 (.var 5) (.len 0)) 1) [(.val 8)] 
      (.again 0 [(.int .i64 (.op .add .i64 (.var 5) (.lit 1)))])))))))))
      (.again 0 [(.int .i64 (.op .add .i64 (.var 5) (.lit 1)))]))))
     (.loop 0 [(.int .i64 (.lit 0))] [.int .i64] 
      (.ite (.cmp .lss (.var 6) (.len 2))
       (.need (.tt true) [(.cmp .geq (.var 6) (.lit 0)), (.cmp .lss (.var 6) (.len 2))] 
       (.load (.tt true) (.idx (.var 2) (.var 6) 1) [.int .u8] 
       (.ite (.cmp .lss (.var 6) (.lit 40))
        (.need (.tt true) [(.cmp .neq (.len 0) (.lit 0))] 
        (.need (.tt true) [(.cmp .neq (.len 0) (.lit 0))] 
        (.need (.tt true) [(.cmp .geq (.op .rem .i64 (.var 6) (.len 0)) (.lit 0)), (.cmp .lss (.op .rem .i64 (.var 6) (.len 0)) (.len 4))] 
        (.load (.tt true) (.idx (.var 4) (.op .rem .i64 (.var 6) (.len 0)) 1) [.sl] 
        (.still (.tt true) (.idx (.var 4) (.op .rem .i64 (.var 6) (.len 0)) 1) [(.val 8)] 
        (.app 3 1 8 (.val 8) (.cells [(.int .i64 (.conv .i64 (.op .rem .u8 (.var 7) (.lit 20))))] 1) 
        (.need (.tt true) [(.cmp .geq (.op .rem .i64 (.var 6) (.len 0)) (.lit 0)), (.cmp .lss (.op .rem .i64 (.var 6) (.len 0)) (.len 4))] 
        (.store (.idx (.var 4) (.op .rem .i64 (.var 6) (.len 0)) 1) [(.val 9)] 
        (.again 0 [(.int .i64 (.op .add .i64 (.var 6) (.lit 1)))])))))))))
        (.again 0 [(.int .i64 (.op .add .i64 (.var 6) (.lit 1)))]))))
       (.done (.tup [(.val 3), (.val 4)]) [])))))))) 
  (.mk 47 1 24 (.len 0) 
  (.mk 47 1 24 (.len 0) 
  (.loop 0 [(.int .i64 (.lit 0))] [.int .i64] 
   (.ite (.cmp .lss (.var 5) (.len 1))
    (.need (.tt true) [(.cmp .geq (.var 5) (.lit 0)), (.cmp .lss (.var 5) (.len 1))] 
    (.load (.tt true) (.idx (.var 1) (.var 5) 1) [.int .u8] 
    (.ite (.cmp .lss (.var 5) (.lit 40))
     (.need (.tt true) [(.cmp .neq (.len 0) (.lit 0))] 
     (.need (.tt true) [(.cmp .neq (.len 0) (.lit 0))] 
     (.need (.tt true) [(.cmp .geq (.op .rem .i64 (.var 5) (.len 0)) (.lit 0)), (.cmp .lss (.op .rem .i64 (.var 5) (.len 0)) (.len 4))] 
     (.load (.tt true) (.idx (.var 4) (.op .rem .i64 (.var 5) (.len 0)) 1) [.sl] 
     (.still (.tt true) (.idx (.var 4) (.op .rem .i64 (.var 5) (.len 0)) 1) [(.val 7)] 
     (.app 3 1 8 (.val 7) (.cells [(.int .i64 (.conv .i64 (.op .rem .u8 (.var 6) (.lit 20))))] 1) 
     (.need (.tt true) [(.cmp .geq (.op .rem .i64 (.var 5) (.len 0)) (.lit 0)), (.cmp .lss (.op .rem .i64 (.var 5) (.len 0)) (.len 4))] 
     (.store (.idx (.var 4) (.op .rem .i64 (.var 5) (.len 0)) 1) [(.val 8)] 
     (.again 0 [(.int .i64 (.op .add .i64 (.var 5) (.lit 1)))])))))))))
     (.again 0 [(.int .i64 (.op .add .i64 (.var 5) (.lit 1)))]))))
    (.loop 0 [(.int .i64 (.lit 0))] [.int .i64] 
     (.ite (.cmp .lss (.var 6) (.len 2))
      (.need (.tt true) [(.cmp .geq (.var 6) (.lit 0)), (.cmp .lss (.var 6) (.len 2))] 
      (.load (.tt true) (.idx (.var 2) (.var 6) 1) [.int .u8] 
      (.ite (.cmp .lss (.var 6) (.lit 40))
       (.need (.tt true) [(.cmp .neq (.len 0) (.lit 0))] 
       (.need (.tt true) [(.cmp .neq (.len 0) (.lit 0))] 
       (.need (.tt true) [(.cmp .geq (.op .rem .i64 (.var 6) (.len 0)) (.lit 0)), (.cmp .lss (.op .rem .i64 (.var 6) (.len 0)) (.len 3))] 
       (.load (.tt true) (.idx (.var 3) (.op .rem .i64 (.var 6) (.len 0)) 1) [.sl] 
       (.still (.tt true) (.idx (.var 3) (.op .rem .i64 (.var 6) (.len 0)) 1) [(.val 8)] 
       (.app 3 1 8 (.val 8) (.cells [(.int .i64 (.conv .i64 (.op .rem .u8 (.var 7) (.lit 20))))] 1) 
       (.need (.tt true) [(.cmp .geq (.op .rem .i64 (.var 6) (.len 0)) (.lit 0)), (.cmp .lss (.op .rem .i64 (.var 6) (.len 0)) (.len 3))] 
       (.store (.idx (.var 3) (.op .rem .i64 (.var 6) (.len 0)) 1) [(.val 9)] 
       (.again 0 [(.int .i64 (.op .add .i64 (.var 6) (.lit 1)))])))))))))
       (.again 0 [(.int .i64 (.op .add .i64 (.var 6) (.lit 1)))]))))
      (.done (.tup [(.val 4), (.val 3)]) []))))))))
def l13 : List (Nat × List Nat × List (Nat × Nat) × List Nat) := [(3, [20], [], [21, 22, 23, 24, 8, 9, 25, 26, 27, 28, 29, 30, 31, 32, 33, 34, 35, 36, 37, 38, 39, 40, 41, 42, 43, 44, 45]), (9, [48], [], [49, 50, 51, 52, 10, 11, 53, 54, 55, 56, 57, 58, 59, 60, 61, 62, 63, 64, 65, 66, 67, 68, 69, 70, 71, 72, 73])]
theorem e13 : ev Tryd.prog ⟨allF, [], l13⟩ (bodyOf Tryd.f13) 0 (initSt [(.val 0), (.val 1), (.val 2)] [] Tryd.f13.ntmps [.sl, .sl, .sl]) (finK Tryd.prog Tryd.f13.results []) = t13 := by kernel_rfl
theorem c13 {G : List Value} {h : H} {R : Value → List (List Value) → H → Prop} (hG : FitsL [.sl, .sl, .sl] G) (H : holds Tryd.prog R t13 G [] h) : CallsA Tryd.prog 13 (fun e => SV.denL G (fun k => e (k - 1000000)) [(.val 0), (.val 1), (.val 2)]) ([].map (SV.denL G dE)) h R :=
  CallsA.of_ev (cf := ⟨allF, [], l13⟩) (fn := Tryd.f13) (c := bodyOf Tryd.f13) (pcs := []) Tryd.func13 (by rfl) callOK (by rfl) hG (by rfl) (by rw [show ([] : List (List SV)).map List.length = [] from rfl, e13]; exact H)
/-- What is left of outworker/bag.Of[int]. -/
def t21 : Out :=
 (.loop 0 [(.int .i64 (.lit 0)), (.cst (.slice none 0 0))] [.int .i64, .sl] 
  (.ite (.cmp .lss (.var 1) (.len 0))
   (.need (.tt true) [(.cmp .geq (.var 1) (.lit 0)), (.cmp .lss (.var 1) (.len 0))] 
   (.load (.tt true) (.idx (.var 0) (.var 1) 1) [.int .i64] 
   (.call 55 [(.loc 3 0), (.int .i64 (.var 3))] [3] [[(.val 2)]] [[.sl]] [(false, [.bool])] 
   (.again 0 [(.int .i64 (.op .add .i64 (.var 1) (.lit 1))), (.val 4)]))))
   (.done (.agg [(.val 2)]) [])))
def l21 : List (Nat × List Nat × List (Nat × Nat) × List Nat) := [(3, [8], [(3, 0)], [9, 10, 11, 5, 12, 13, 14])]
theorem e21 : ev Tryd.prog ⟨allF, [], l21⟩ (bodyOf Tryd.f21) 0 (initSt [(.val 0)] [] Tryd.f21.ntmps [.sl]) (finK Tryd.prog Tryd.f21.results []) = t21 := by kernel_rfl
theorem c21 {G : List Value} {h : H} {R : Value → List (List Value) → H → Prop} (hG : FitsL [.sl] G) (H : holds Tryd.prog R t21 G [] h) : CallsA Tryd.prog 21 (fun e => SV.denL G (fun k => e (k - 1000000)) [(.val 0)]) ([].map (SV.denL G dE)) h R :=
  CallsA.of_ev (cf := ⟨allF, [], l21⟩) (fn := Tryd.f21) (c := bodyOf Tryd.f21) (pcs := []) Tryd.func21 (by rfl) callOK (by rfl) hG (by rfl) (by rw [show ([] : List (List SV)).map List.length = [] from rfl, e21]; exact H)
/-- What is left of outworker/outworkerlaw11.Awake. -/
def t11 : Out :=
 (.call 39 [(.agg [(.int .i64 (.lit 3)), (.fn (.func 40) [] []), (.fn (.func 41) [] []), (.fn (.func 42) [] []), (.fn (.func 43) [] [])])] [] [] [] [(false, [.sl])] 
 (.need (.cmp .eql (.len 0) (.lit 3)) [(.tt true), (.cmp .lss (.lit 0) (.len 0))] 
 (.load (.cmp .eql (.len 0) (.lit 3)) (.idx (.var 0) (.lit 0) 1) [.int .i64] 
 (.need (.ite (.cmp .eql (.len 0) (.lit 3)) (.cmp .eql (.var 1) (.lit 1)) (.tt false)) [(.tt true), (.cmp .lss (.lit 1) (.len 0))] 
 (.load (.ite (.cmp .eql (.len 0) (.lit 3)) (.cmp .eql (.var 1) (.lit 1)) (.tt false)) (.idx (.var 0) (.lit 1) 1) [.int .i64] 
 (.need (.ite (.ite (.cmp .eql (.len 0) (.lit 3)) (.cmp .eql (.var 1) (.lit 1)) (.tt false)) (.cmp .eql (.var 2) (.lit 2)) (.tt false)) [(.tt true), (.cmp .lss (.lit 2) (.len 0))] 
 (.load (.ite (.ite (.cmp .eql (.len 0) (.lit 3)) (.cmp .eql (.var 1) (.lit 1)) (.tt false)) (.cmp .eql (.var 2) (.lit 2)) (.tt false)) (.idx (.var 0) (.lit 2) 1) [.int .i64] 
 (.done (.bool (.ite (.ite (.ite (.cmp .eql (.len 0) (.lit 3)) (.cmp .eql (.var 1) (.lit 1)) (.tt false)) (.cmp .eql (.var 2) (.lit 2)) (.tt false)) (.cmp .eql (.var 3) (.lit 3)) (.tt false))) []))))))))
def l11 : List (Nat × List Nat × List (Nat × Nat) × List Nat) := []
theorem e11 : ev Tryd.prog ⟨allF, [], l11⟩ (bodyOf Tryd.f11) 0 (initSt [] [] Tryd.f11.ntmps []) (finK Tryd.prog Tryd.f11.results []) = t11 := by kernel_rfl
theorem c11 {G : List Value} {h : H} {R : Value → List (List Value) → H → Prop} (hG : FitsL [] G) (H : holds Tryd.prog R t11 G [] h) : CallsA Tryd.prog 11 (fun e => SV.denL G (fun k => e (k - 1000000)) []) ([].map (SV.denL G dE)) h R :=
  CallsA.of_ev (cf := ⟨allF, [], l11⟩) (fn := Tryd.f11) (c := bodyOf Tryd.f11) (pcs := []) Tryd.func11 (by rfl) callOK (by rfl) hG (by rfl) (by rw [show ([] : List (List SV)).map List.length = [] from rfl, e11]; exact H)
/-- What is left of outworker/outworkerlaw11.Awake$1. -/
def t40 : Out :=
 (.alloc 3 [(.int .i64 (.lit 0))] (.lsl 1) 
 (.alloc 3 [(.int .i64 (.lit 1))] (.lsl 1) 
 (.alloc 47 [(.cst (.slice none 0 0)), (.val 1), (.val 2)] (.lsl 3) 
 (.need (.tt true) [(.cmp .geq (.var 0) (.lit 0)), (.cmp .lss (.var 0) (.len 3))] 
 (.load (.tt true) (.idx (.var 3) (.var 0) 1) [.sl] 
 (.done (.val 4) []))))))
def l40 : List (Nat × List Nat × List (Nat × Nat) × List Nat) := []
theorem e40 : ev Tryd.prog ⟨allF, [3, 4, 5], l40⟩ (bodyOf Tryd.f40) 0 (initSt [(.int .i64 (.var 0))] [] Tryd.f40.ntmps [.int .i64]) (finK Tryd.prog Tryd.f40.results []) = t40 := by kernel_rfl
theorem c40 {G : List Value} {h : H} {R : Value → List (List Value) → H → Prop} (hG : FitsL [.int .i64] G) (H : holds Tryd.prog R t40 G [] h) : CallsA Tryd.prog 40 (fun e => SV.denL G (fun k => e (k - 1000000)) [(.int .i64 (.var 0))]) ([].map (SV.denL G dE)) h R :=
  CallsA.of_ev (cf := ⟨allF, [3, 4, 5], l40⟩) (fn := Tryd.f40) (c := bodyOf Tryd.f40) (pcs := []) Tryd.func40 (by rfl) callOK (by rfl) hG (by rfl) (by rw [show ([] : List (List SV)).map List.length = [] from rfl, e40]; exact H)
/-- What is left of outworker/outworkerlaw11.Awake$2. -/
def t41 : Out :=
 (.alloc 3 [(.int .i64 (.lit 1)), (.int .i64 (.lit 0)), (.int .i64 (.lit 0))] (.lsl 3) 
 (.need (.tt true) [(.cmp .geq (.var 0) (.lit 0)), (.cmp .lss (.var 0) (.len 1))] 
 (.load (.tt true) (.idx (.var 1) (.var 0) 1) [.int .i64] 
 (.done (.int .i64 (.var 2)) []))))
def l41 : List (Nat × List Nat × List (Nat × Nat) × List Nat) := []
theorem e41 : ev Tryd.prog ⟨allF, [3], l41⟩ (bodyOf Tryd.f41) 0 (initSt [(.int .i64 (.var 0))] [] Tryd.f41.ntmps [.int .i64]) (finK Tryd.prog Tryd.f41.results []) = t41 := by kernel_rfl
theorem c41 {G : List Value} {h : H} {R : Value → List (List Value) → H → Prop} (hG : FitsL [.int .i64] G) (H : holds Tryd.prog R t41 G [] h) : CallsA Tryd.prog 41 (fun e => SV.denL G (fun k => e (k - 1000000)) [(.int .i64 (.var 0))]) ([].map (SV.denL G dE)) h R :=
  CallsA.of_ev (cf := ⟨allF, [3], l41⟩) (fn := Tryd.f41) (c := bodyOf Tryd.f41) (pcs := []) Tryd.func41 (by rfl) callOK (by rfl) hG (by rfl) (by rw [show ([] : List (List SV)).map List.length = [] from rfl, e41]; exact H)
/-- What is left of outworker/outworkerlaw11.Awake$3. -/
def t42 : Out :=
 (.load (.tt true) (.var 0) [.int .i64] 
 (.store (.var 0) [(.int .i64 (.ite (.cmp .gtr (.var 1) (.var 2)) (.var 1) (.var 2)))] 
 (.load (.tt true) (.var 0) [.int .i64] 
 (.done (.bool (.cmp .gtr (.var 3) (.var 2))) []))))
def l42 : List (Nat × List Nat × List (Nat × Nat) × List Nat) := []
theorem e42 : ev Tryd.prog ⟨allF, [], l42⟩ (bodyOf Tryd.f42) 0 (initSt [(.ptr (.var 0)), (.int .i64 (.var 1))] [] Tryd.f42.ntmps [.ptr, .int .i64]) (finK Tryd.prog Tryd.f42.results []) = t42 := by kernel_rfl
theorem c42 {G : List Value} {h : H} {R : Value → List (List Value) → H → Prop} (hG : FitsL [.ptr, .int .i64] G) (H : holds Tryd.prog R t42 G [] h) : CallsA Tryd.prog 42 (fun e => SV.denL G (fun k => e (k - 1000000)) [(.ptr (.var 0)), (.int .i64 (.var 1))]) ([].map (SV.denL G dE)) h R :=
  CallsA.of_ev (cf := ⟨allF, [], l42⟩) (fn := Tryd.f42) (c := bodyOf Tryd.f42) (pcs := []) Tryd.func42 (by rfl) callOK (by rfl) hG (by rfl) (by rw [show ([] : List (List SV)).map List.length = [] from rfl, e42]; exact H)
/-- What is left of outworker/outworkerlaw11.Awake$4. -/
def t43 : Out :=
 (.done (.int .i64 (.op .add .i64 (.var 1) (.lit 1))) [])
def l43 : List (Nat × List Nat × List (Nat × Nat) × List Nat) := []
theorem e43 : ev Tryd.prog ⟨allF, [], l43⟩ (bodyOf Tryd.f43) 0 (initSt [(.int .i64 (.var 0)), (.int .i64 (.var 1))] [] Tryd.f43.ntmps [.int .i64, .int .i64]) (finK Tryd.prog Tryd.f43.results []) = t43 := by kernel_rfl
theorem c43 {G : List Value} {h : H} {R : Value → List (List Value) → H → Prop} (hG : FitsL [.int .i64, .int .i64] G) (H : holds Tryd.prog R t43 G [] h) : CallsA Tryd.prog 43 (fun e => SV.denL G (fun k => e (k - 1000000)) [(.int .i64 (.var 0)), (.int .i64 (.var 1))]) ([].map (SV.denL G dE)) h R :=
  CallsA.of_ev (cf := ⟨allF, [], l43⟩) (fn := Tryd.f43) (c := bodyOf Tryd.f43) (pcs := []) Tryd.func43 (by rfl) callOK (by rfl) hG (by rfl) (by rw [show ([] : List (List SV)).map List.length = [] from rfl, e43]; exact H)
/-- What is left of outworker/flow.Solve[int]. -/
def t39 : Out :=
 (.mk 3 1 8 (.var 0) 
 (.mk 47 1 24 (.var 0) 
 (.loop 0 [(.int .i64 (.lit 0)), (.cst (.slice none 0 0)), (.cst (.map none))] [.int .i64, .sl, .map] 
  (.ite (.cmp .lss (.var 7) (.var 0))
   (.callv (.val 2) [(.int .i64 (.var 7))] [(false, [.int .i64])] 
   (.need (.tt true) [(.cmp .geq (.var 7) (.lit 0)), (.cmp .lss (.var 7) (.len 5))] 
   (.store (.idx (.var 5) (.var 7) 1) [(.int .i64 (.var 10))] 
   (.call 50 [(.loc 5 0), (.int .i64 (.var 7))] [5] [[(.val 8), (.val 9)]] [[.sl, .map]] [(false, [.bool])] 
   (.callv (.val 1) [(.int .i64 (.var 7))] [(false, [.sl])] 
   (.loop 1 [(.int .i64 (.lit 0))] [.int .i64] 
    (.ite (.cmp .lss (.var 15) (.len 14))
     (.need (.tt true) [(.cmp .geq (.var 15) (.lit 0)), (.cmp .lss (.var 15) (.len 14))] 
     (.load (.tt true) (.idx (.var 14) (.var 15) 1) [.int .i64] 
     (.need (.tt true) [(.cmp .geq (.var 16) (.lit 0)), (.cmp .lss (.var 16) (.len 6))] 
     (.load (.tt true) (.idx (.var 6) (.var 16) 1) [.sl] 
     (.app 3 1 8 (.val 17) (.cells [(.int .i64 (.var 7))] 1) 
     (.need (.tt true) [(.cmp .geq (.var 16) (.lit 0)), (.cmp .lss (.var 16) (.len 6))] 
     (.store (.idx (.var 6) (.var 16) 1) [(.val 18)] 
     (.again 1 [(.int .i64 (.op .add .i64 (.var 15) (.lit 1)))]))))))))
     (.again 0 [(.int .i64 (.op .add .i64 (.var 7) (.lit 1))), (.val 11), (.val 12)]))))))))
   (.loop 0 [(.val 8), (.val 9)] [.sl, .map] 
    (.call 51 [(.loc 5 0)] [5] [[(.val 10), (.val 11)]] [[.sl, .map]] [(false, [.int .i64])] 
    (.ite (.cmp .gtr (.var 14) (.lit 0))
     (.call 52 [(.loc 5 0)] [5] [[(.val 12), (.val 13)]] [[.sl, .map]] [(false, [.int .i64]), (false, [.bool])] 
     (.need (.tt true) [(.cmp .geq (.var 17) (.lit 0)), (.cmp .lss (.var 17) (.len 5))] 
     (.load (.tt true) (.idx (.var 5) (.var 17) 1) [.int .i64] 
     (.callv (.val 4) [(.int .i64 (.var 17)), (.int .i64 (.var 19))] [(false, [.int .i64])] 
     (.need (.tt true) [(.cmp .geq (.var 17) (.lit 0)), (.cmp .lss (.var 17) (.len 6))] 
     (.load (.tt true) (.idx (.var 6) (.var 17) 1) [.sl] 
     (.loop 1 [(.int .i64 (.lit 0)), (.val 15), (.val 16)] [.int .i64, .sl, .map] 
      (.ite (.cmp .lss (.var 22) (.len 21))
       (.need (.tt true) [(.cmp .geq (.var 22) (.lit 0)), (.cmp .lss (.var 22) (.len 21))] 
       (.load (.tt true) (.idx (.var 21) (.var 22) 1) [.int .i64] 
       (.need (.tt true) [(.cmp .geq (.var 25) (.lit 0)), (.cmp .lss (.var 25) (.len 5))] 
       (.callv (.val 3) [(.ptr (.idx (.var 5) (.var 25) 1)), (.int .i64 (.var 20))] [(false, [.bool])] 
       (.ite (.var 26)
        (.call 50 [(.loc 5 0), (.int .i64 (.var 25))] [5] [[(.val 23), (.val 24)]] [[.sl, .map]] [(false, [.bool])] 
        (.again 1 [(.int .i64 (.op .add .i64 (.var 22) (.lit 1))), (.val 27), (.val 28)]))
        (.again 1 [(.int .i64 (.op .add .i64 (.var 22) (.lit 1))), (.val 23), (.val 24)]))))))
       (.again 0 [(.val 23), (.val 24)])))))))))
     (.done (.val 5) []))))))))
def l39 : List (Nat × List Nat × List (Nat × Nat) × List Nat) := [(2000030, [], [(0, 1)], [10]), (2000037, [], [(0, 1)], [2]), (2000068, [], [(0, 1)], [10]), (2000084, [], [(0, 1)], [0]), (5, [22], [(5, 0), (5, 1)], [23, 24, 6, 25, 26, 27, 28, 29, 30, 31, 32, 33, 34, 35, 36, 37, 38, 39, 40, 41, 42, 8, 43, 44, 45, 46, 47, 48, 49, 50, 51, 52, 53, 54]), (10, [39], [], [40, 41, 42, 8, 43, 44, 45, 46, 47, 48, 49, 50, 51, 52, 53]), (15, [], [(5, 0), (5, 1)], [55, 56, 58, 57, 59, 60, 9, 10, 61, 62, 63, 64, 65, 66, 67, 68, 11, 69, 70, 71, 72, 73, 74, 75, 76, 77, 13, 78, 79, 80, 81, 82, 83, 84, 85, 86, 87]), (19, [74], [(5, 0), (5, 1)], [75, 76, 77, 13, 78, 79, 80, 81, 82, 83, 84, 85, 86, 87])]
theorem e39 : ev Tryd.prog ⟨allF, [], l39⟩ (bodyOf Tryd.f39) 0 (initSt [(.agg [(.int .i64 (.var 0)), (.val 1), (.val 2), (.val 3), (.val 4)])] [] Tryd.f39.ntmps [.int .i64, .fn, .fn, .fn, .fn]) (finK Tryd.prog Tryd.f39.results []) = t39 := by kernel_rfl
theorem c39 {G : List Value} {h : H} {R : Value → List (List Value) → H → Prop} (hG : FitsL [.int .i64, .fn, .fn, .fn, .fn] G) (H : holds Tryd.prog R t39 G [] h) : CallsA Tryd.prog 39 (fun e => SV.denL G (fun k => e (k - 1000000)) [(.agg [(.int .i64 (.var 0)), (.val 1), (.val 2), (.val 3), (.val 4)])]) ([].map (SV.denL G dE)) h R :=
  CallsA.of_ev (cf := ⟨allF, [], l39⟩) (fn := Tryd.f39) (c := bodyOf Tryd.f39) (pcs := []) Tryd.func39 (by rfl) callOK (by rfl) hG (by rfl) (by rw [show ([] : List (List SV)).map List.length = [] from rfl, e39]; exact H)
/-- What is left of outworker/flow.Solve[outworker/bag.Set[int]]. -/
def t15 : Out :=
 (.mk 39 1 24 (.var 0) 
 (.mk 47 1 24 (.var 0) 
 (.loop 0 [(.int .i64 (.lit 0)), (.cst (.slice none 0 0)), (.cst (.map none))] [.int .i64, .sl, .map] 
  (.ite (.cmp .lss (.var 7) (.var 0))
   (.callv (.val 2) [(.int .i64 (.var 7))] [(true, [.sl])] 
   (.need (.tt true) [(.cmp .geq (.var 7) (.lit 0)), (.cmp .lss (.var 7) (.len 5))] 
   (.store (.idx (.var 5) (.var 7) 1) [(.val 10)] 
   (.call 50 [(.loc 5 0), (.int .i64 (.var 7))] [5] [[(.val 8), (.val 9)]] [[.sl, .map]] [(false, [.bool])] 
   (.callv (.val 1) [(.int .i64 (.var 7))] [(false, [.sl])] 
   (.loop 1 [(.int .i64 (.lit 0))] [.int .i64] 
    (.ite (.cmp .lss (.var 15) (.len 14))
     (.need (.tt true) [(.cmp .geq (.var 15) (.lit 0)), (.cmp .lss (.var 15) (.len 14))] 
     (.load (.tt true) (.idx (.var 14) (.var 15) 1) [.int .i64] 
     (.need (.tt true) [(.cmp .geq (.var 16) (.lit 0)), (.cmp .lss (.var 16) (.len 6))] 
     (.load (.tt true) (.idx (.var 6) (.var 16) 1) [.sl] 
     (.app 3 1 8 (.val 17) (.cells [(.int .i64 (.var 7))] 1) 
     (.need (.tt true) [(.cmp .geq (.var 16) (.lit 0)), (.cmp .lss (.var 16) (.len 6))] 
     (.store (.idx (.var 6) (.var 16) 1) [(.val 18)] 
     (.again 1 [(.int .i64 (.op .add .i64 (.var 15) (.lit 1)))]))))))))
     (.again 0 [(.int .i64 (.op .add .i64 (.var 7) (.lit 1))), (.val 11), (.val 12)]))))))))
   (.loop 0 [(.val 8), (.val 9)] [.sl, .map] 
    (.call 51 [(.loc 5 0)] [5] [[(.val 10), (.val 11)]] [[.sl, .map]] [(false, [.int .i64])] 
    (.ite (.cmp .gtr (.var 14) (.lit 0))
     (.call 52 [(.loc 5 0)] [5] [[(.val 12), (.val 13)]] [[.sl, .map]] [(false, [.int .i64]), (false, [.bool])] 
     (.need (.tt true) [(.cmp .geq (.var 17) (.lit 0)), (.cmp .lss (.var 17) (.len 5))] 
     (.load (.tt true) (.idx (.var 5) (.var 17) 1) [.sl] 
     (.both 
      (.callv (.val 4) [(.int .i64 (.var 17)), (.agg [(.val 19)])] [(true, [.sl])] 
      (.need (.tt true) [(.cmp .geq (.var 17) (.lit 0)), (.cmp .lss (.var 17) (.len 6))] 
      (.load (.tt true) (.idx (.var 6) (.var 17) 1) [.sl] 
      (.loop 1 [(.int .i64 (.lit 0)), (.val 15), (.val 16)] [.int .i64, .sl, .map] 
       (.ite (.cmp .lss (.var 22) (.len 21))
        (.need (.tt true) [(.cmp .geq (.var 22) (.lit 0)), (.cmp .lss (.var 22) (.len 21))] 
        (.load (.tt true) (.idx (.var 21) (.var 22) 1) [.int .i64] 
        (.need (.tt true) [(.cmp .geq (.var 25) (.lit 0)), (.cmp .lss (.var 25) (.len 5))] 
        (.callv (.val 3) [(.ptr (.idx (.var 5) (.var 25) 1)), (.agg [(.val 20)])] [(false, [.bool])] 
        (.ite (.var 26)
         (.call 50 [(.loc 5 0), (.int .i64 (.var 25))] [5] [[(.val 23), (.val 24)]] [[.sl, .map]] [(false, [.bool])] 
         (.again 1 [(.int .i64 (.op .add .i64 (.var 22) (.lit 1))), (.val 27), (.val 28)]))
         (.again 1 [(.int .i64 (.op .add .i64 (.var 22) (.lit 1))), (.val 23), (.val 24)]))))))
        (.again 0 [(.val 23), (.val 24)])))))) 
      (.still (.tt true) (.idx (.var 5) (.var 17) 1) [(.val 19)] 
      (.callv (.val 4) [(.int .i64 (.var 17)), (.agg [(.val 19)])] [(true, [.sl])] 
      (.need (.tt true) [(.cmp .geq (.var 17) (.lit 0)), (.cmp .lss (.var 17) (.len 6))] 
      (.load (.tt true) (.idx (.var 6) (.var 17) 1) [.sl] 
      (.loop 1 [(.int .i64 (.lit 0)), (.val 15), (.val 16)] [.int .i64, .sl, .map] 
       (.ite (.cmp .lss (.var 22) (.len 21))
        (.need (.tt true) [(.cmp .geq (.var 22) (.lit 0)), (.cmp .lss (.var 22) (.len 21))] 
        (.load (.tt true) (.idx (.var 21) (.var 22) 1) [.int .i64] 
        (.need (.tt true) [(.cmp .geq (.var 25) (.lit 0)), (.cmp .lss (.var 25) (.len 5))] 
        (.callv (.val 3) [(.ptr (.idx (.var 5) (.var 25) 1)), (.agg [(.val 20)])] [(false, [.bool])] 
        (.ite (.var 26)
         (.call 50 [(.loc 5 0), (.int .i64 (.var 25))] [5] [[(.val 23), (.val 24)]] [[.sl, .map]] [(false, [.bool])] 
         (.again 1 [(.int .i64 (.op .add .i64 (.var 22) (.lit 1))), (.val 27), (.val 28)]))
         (.again 1 [(.int .i64 (.op .add .i64 (.var 22) (.lit 1))), (.val 23), (.val 24)]))))))
        (.again 0 [(.val 23), (.val 24)])))))))))))
     (.done (.val 5) []))))))))
def l15 : List (Nat × List Nat × List (Nat × Nat) × List Nat) := [(2000030, [], [(1, 1)], [2]), (2000037, [], [(0, 1)], [2]), (2000068, [], [(1, 1)], [2]), (2000084, [], [(0, 1)], [0]), (5, [22], [(5, 0), (5, 1)], [23, 24, 6, 25, 26, 27, 28, 29, 30, 31, 32, 33, 34, 35, 36, 37, 38, 39, 40, 41, 42, 8, 43, 44, 45, 46, 47, 48, 49, 50, 51, 52, 53, 54]), (10, [39], [], [40, 41, 42, 8, 43, 44, 45, 46, 47, 48, 49, 50, 51, 52, 53]), (15, [], [(5, 0), (5, 1)], [55, 56, 58, 57, 59, 60, 9, 10, 61, 62, 63, 64, 65, 66, 67, 68, 11, 69, 70, 71, 72, 73, 74, 75, 76, 77, 13, 78, 79, 80, 81, 82, 83, 84, 85, 86, 87]), (19, [74], [(5, 0), (5, 1)], [75, 76, 77, 13, 78, 79, 80, 81, 82, 83, 84, 85, 86, 87])]
theorem e15 : ev Tryd.prog ⟨allF, [], l15⟩ (bodyOf Tryd.f15) 0 (initSt [(.agg [(.int .i64 (.var 0)), (.val 1), (.val 2), (.val 3), (.val 4)])] [] Tryd.f15.ntmps [.int .i64, .fn, .fn, .fn, .fn]) (finK Tryd.prog Tryd.f15.results []) = t15 := by kernel_rfl
theorem c15 {G : List Value} {h : H} {R : Value → List (List Value) → H → Prop} (hG : FitsL [.int .i64, .fn, .fn, .fn, .fn] G) (H : holds Tryd.prog R t15 G [] h) : CallsA Tryd.prog 15 (fun e => SV.denL G (fun k => e (k - 1000000)) [(.agg [(.int .i64 (.var 0)), (.val 1), (.val 2), (.val 3), (.val 4)])]) ([].map (SV.denL G dE)) h R :=
  CallsA.of_ev (cf := ⟨allF, [], l15⟩) (fn := Tryd.f15) (c := bodyOf Tryd.f15) (pcs := []) Tryd.func15 (by rfl) callOK (by rfl) hG (by rfl) (by rw [show ([] : List (List SV)).map List.length = [] from rfl, e15]; exact H)
/-- What is left of outworker/outworkerlaw11.FlowSets$1. -/
def t16 : Out :=
 (.done (.agg [(.cst (.slice none 0 0))]) [])
def l16 : List (Nat × List Nat × List (Nat × Nat) × List Nat) := []
theorem e16 : ev Tryd.prog ⟨allF, [], l16⟩ (bodyOf Tryd.f16) 0 (initSt [(.int .i64 (.var 0))] [] Tryd.f16.ntmps [.int .i64]) (finK Tryd.prog Tryd.f16.results []) = t16 := by kernel_rfl
theorem c16 {G : List Value} {h : H} {R : Value → List (List Value) → H → Prop} (hG : FitsL [.int .i64] G) (H : holds Tryd.prog R t16 G [] h) : CallsA Tryd.prog 16 (fun e => SV.denL G (fun k => e (k - 1000000)) [(.int .i64 (.var 0))]) ([].map (SV.denL G dE)) h R :=
  CallsA.of_ev (cf := ⟨allF, [], l16⟩) (fn := Tryd.f16) (c := bodyOf Tryd.f16) (pcs := []) Tryd.func16 (by rfl) callOK (by rfl) hG (by rfl) (by rw [show ([] : List (List SV)).map List.length = [] from rfl, e16]; exact H)
/-- What is left of outworker/ir.Last. -/
def t61 : Out :=
 (.done (.tup [(.int .i64 (.var 1)), (.bool (.ite (.cmp .eql (.var 0) (.lit 2)) (.tt true) (.cmp .eql (.var 0) (.lit 3))))]) [])
def l61 : List (Nat × List Nat × List (Nat × Nat) × List Nat) := []
theorem e61 : ev Tryd.prog ⟨allF, [], l61⟩ (bodyOf Tryd.f61) 0 (initSt [(.agg [(.int .u8 (.var 0)), (.int .i64 (.var 1)), (.int .i64 (.var 2)), (.int .i64 (.var 3))])] [] Tryd.f61.ntmps [.int .u8, .int .i64, .int .i64, .int .i64]) (finK Tryd.prog Tryd.f61.results []) = t61 := by kernel_rfl
theorem c61 {G : List Value} {h : H} {R : Value → List (List Value) → H → Prop} (hG : FitsL [.int .u8, .int .i64, .int .i64, .int .i64] G) (H : holds Tryd.prog R t61 G [] h) : CallsA Tryd.prog 61 (fun e => SV.denL G (fun k => e (k - 1000000)) [(.agg [(.int .u8 (.var 0)), (.int .i64 (.var 1)), (.int .i64 (.var 2)), (.int .i64 (.var 3))])]) ([].map (SV.denL G dE)) h R :=
  CallsA.of_ev (cf := ⟨allF, [], l61⟩) (fn := Tryd.f61) (c := bodyOf Tryd.f61) (pcs := []) Tryd.func61 (by rfl) callOK (by rfl) hG (by rfl) (by rw [show ([] : List (List SV)).map List.length = [] from rfl, e61]; exact H)
/-- What is left of outworker/ir.Gives. -/
def t69 : Out :=
 (.ite (.ite (.cmp .eql (.var 0) (.lit 1)) (.cmp .eql (.var 0) (.lit 1)) (.ite (.cmp .eql (.var 0) (.lit 2)) (.cmp .eql (.var 0) (.lit 2)) (.ite (.cmp .eql (.var 0) (.lit 3)) (.cmp .eql (.var 0) (.lit 3)) (.ite (.cmp .eql (.var 0) (.lit 4)) (.cmp .eql (.var 0) (.lit 4)) (.ite (.cmp .eql (.var 0) (.lit 6)) (.cmp .eql (.var 0) (.lit 6)) (.cmp .eql (.var 0) (.lit 8)))))))
  (.done (.tup [(.int .i64 (.var 2)), (.bool (.tt true))]) [])
  (.done (.tup [(.int .i64 (.lit 0)), (.bool (.tt false))]) []))
def l69 : List (Nat × List Nat × List (Nat × Nat) × List Nat) := []
theorem e69 : ev Tryd.prog ⟨allF, [], l69⟩ (bodyOf Tryd.f69) 0 (initSt [(.agg [(.int .u8 (.var 0)), (.int .u8 (.var 1)), (.int .i64 (.var 2)), (.int .i64 (.var 3)), (.int .i64 (.var 4)), (.int .i64 (.var 5)), (.val 6)])] [] Tryd.f69.ntmps [.int .u8, .int .u8, .int .i64, .int .i64, .int .i64, .int .i64, .sl]) (finK Tryd.prog Tryd.f69.results []) = t69 := by kernel_rfl
theorem c69 {G : List Value} {h : H} {R : Value → List (List Value) → H → Prop} (hG : FitsL [.int .u8, .int .u8, .int .i64, .int .i64, .int .i64, .int .i64, .sl] G) (H : holds Tryd.prog R t69 G [] h) : CallsA Tryd.prog 69 (fun e => SV.denL G (fun k => e (k - 1000000)) [(.agg [(.int .u8 (.var 0)), (.int .u8 (.var 1)), (.int .i64 (.var 2)), (.int .i64 (.var 3)), (.int .i64 (.var 4)), (.int .i64 (.var 5)), (.val 6)])]) ([].map (SV.denL G dE)) h R :=
  CallsA.of_ev (cf := ⟨allF, [], l69⟩) (fn := Tryd.f69) (c := bodyOf Tryd.f69) (pcs := []) Tryd.func69 (by rfl) callOK (by rfl) hG (by rfl) (by rw [show ([] : List (List SV)).map List.length = [] from rfl, e69]; exact H)
/-- What is left of outworker/ir.Uses. -/
def t71 : Out :=
 (.ite (.ite (.cmp .eql (.var 0) (.lit 2)) (.cmp .eql (.var 0) (.lit 2)) (.ite (.cmp .eql (.var 0) (.lit 4)) (.cmp .eql (.var 0) (.lit 4)) (.cmp .eql (.var 0) (.lit 7))))
  (.alloc 3 [(.int .i64 (.var 3))] (.lsl 1) 
  (.done (.val 7) []))
  (.ite (.ite (.cmp .eql (.var 0) (.lit 3)) (.cmp .eql (.var 0) (.lit 3)) (.cmp .eql (.var 0) (.lit 5)))
   (.alloc 3 [(.int .i64 (.var 3)), (.int .i64 (.var 4))] (.lsl 2) 
   (.done (.val 7) []))
   (.ite (.cmp .eql (.var 0) (.lit 6))
    (.alloc 3 [] (.lsl 0) 
    (.app 3 1 8 (.val 7) (.sl (.val 6)) 
    (.done (.val 8) [])))
    (.done (.cst (.slice none 0 0)) []))))
def l71 : List (Nat × List Nat × List (Nat × Nat) × List Nat) := []
theorem e71 : ev Tryd.prog ⟨allF, [11, 19, 22], l71⟩ (bodyOf Tryd.f71) 0 (initSt [(.agg [(.int .u8 (.var 0)), (.int .u8 (.var 1)), (.int .i64 (.var 2)), (.int .i64 (.var 3)), (.int .i64 (.var 4)), (.int .i64 (.var 5)), (.val 6)])] [] Tryd.f71.ntmps [.int .u8, .int .u8, .int .i64, .int .i64, .int .i64, .int .i64, .sl]) (finK Tryd.prog Tryd.f71.results []) = t71 := by kernel_rfl
theorem c71 {G : List Value} {h : H} {R : Value → List (List Value) → H → Prop} (hG : FitsL [.int .u8, .int .u8, .int .i64, .int .i64, .int .i64, .int .i64, .sl] G) (H : holds Tryd.prog R t71 G [] h) : CallsA Tryd.prog 71 (fun e => SV.denL G (fun k => e (k - 1000000)) [(.agg [(.int .u8 (.var 0)), (.int .u8 (.var 1)), (.int .i64 (.var 2)), (.int .i64 (.var 3)), (.int .i64 (.var 4)), (.int .i64 (.var 5)), (.val 6)])]) ([].map (SV.denL G dE)) h R :=
  CallsA.of_ev (cf := ⟨allF, [11, 19, 22], l71⟩) (fn := Tryd.f71) (c := bodyOf Tryd.f71) (pcs := []) Tryd.func71 (by rfl) callOK (by rfl) hG (by rfl) (by rw [show ([] : List (List SV)).map List.length = [] from rfl, e71]; exact H)
/-- What is left of outworker/outworkerref04.Uses. -/
def t72 : Out :=
 (.ite (.ite (.cmp .eql (.var 0) (.lit 2)) (.cmp .eql (.var 0) (.lit 2)) (.ite (.cmp .eql (.var 0) (.lit 4)) (.cmp .eql (.var 0) (.lit 4)) (.cmp .eql (.var 0) (.lit 7))))
  (.alloc 3 [(.int .i64 (.var 3))] (.lsl 1) 
  (.done (.val 7) []))
  (.ite (.ite (.cmp .eql (.var 0) (.lit 3)) (.cmp .eql (.var 0) (.lit 3)) (.cmp .eql (.var 0) (.lit 5)))
   (.alloc 3 [(.int .i64 (.var 3)), (.int .i64 (.var 4))] (.lsl 2) 
   (.done (.val 7) []))
   (.ite (.cmp .eql (.var 0) (.lit 6))
    (.done (.val 6) [])
    (.done (.cst (.slice none 0 0)) []))))
def l72 : List (Nat × List Nat × List (Nat × Nat) × List Nat) := []
theorem e72 : ev Tryd.prog ⟨allF, [11, 19], l72⟩ (bodyOf Tryd.f72) 0 (initSt [(.agg [(.int .u8 (.var 0)), (.int .u8 (.var 1)), (.int .i64 (.var 2)), (.int .i64 (.var 3)), (.int .i64 (.var 4)), (.int .i64 (.var 5)), (.val 6)])] [] Tryd.f72.ntmps [.int .u8, .int .u8, .int .i64, .int .i64, .int .i64, .int .i64, .sl]) (finK Tryd.prog Tryd.f72.results []) = t72 := by kernel_rfl
theorem c72 {G : List Value} {h : H} {R : Value → List (List Value) → H → Prop} (hG : FitsL [.int .u8, .int .u8, .int .i64, .int .i64, .int .i64, .int .i64, .sl] G) (H : holds Tryd.prog R t72 G [] h) : CallsA Tryd.prog 72 (fun e => SV.denL G (fun k => e (k - 1000000)) [(.agg [(.int .u8 (.var 0)), (.int .u8 (.var 1)), (.int .i64 (.var 2)), (.int .i64 (.var 3)), (.int .i64 (.var 4)), (.int .i64 (.var 5)), (.val 6)])]) ([].map (SV.denL G dE)) h R :=
  CallsA.of_ev (cf := ⟨allF, [11, 19], l72⟩) (fn := Tryd.f72) (c := bodyOf Tryd.f72) (pcs := []) Tryd.func72 (by rfl) callOK (by rfl) hG (by rfl) (by rw [show ([] : List (List SV)).map List.length = [] from rfl, e72]; exact H)
/-- What is left of outworker/outworkerref04.Gives. -/
def t73 : Out :=
 (.done (.bool (.ite (.ite (.ite (.ite (.ite (.cmp .eql (.var 0) (.lit 1)) (.tt true) (.cmp .eql (.var 0) (.lit 2))) (.tt true) (.cmp .eql (.var 0) (.lit 3))) (.tt true) (.cmp .eql (.var 0) (.lit 4))) (.tt true) (.cmp .eql (.var 0) (.lit 6))) (.tt true) (.cmp .eql (.var 0) (.lit 8)))) [])
def l73 : List (Nat × List Nat × List (Nat × Nat) × List Nat) := []
theorem e73 : ev Tryd.prog ⟨allF, [], l73⟩ (bodyOf Tryd.f73) 0 (initSt [(.int .u8 (.var 0))] [] Tryd.f73.ntmps [.int .u8]) (finK Tryd.prog Tryd.f73.results []) = t73 := by kernel_rfl
theorem c73 {G : List Value} {h : H} {R : Value → List (List Value) → H → Prop} (hG : FitsL [.int .u8] G) (H : holds Tryd.prog R t73 G [] h) : CallsA Tryd.prog 73 (fun e => SV.denL G (fun k => e (k - 1000000)) [(.int .u8 (.var 0))]) ([].map (SV.denL G dE)) h R :=
  CallsA.of_ev (cf := ⟨allF, [], l73⟩) (fn := Tryd.f73) (c := bodyOf Tryd.f73) (pcs := []) Tryd.func73 (by rfl) callOK (by rfl) hG (by rfl) (by rw [show ([] : List (List SV)).map List.length = [] from rfl, e73]; exact H)
/-- What is left of outworker/outworkerref04.Takes. -/
def t74 : Out :=
 (.done (.bool (.ite (.cmp .eql (.var 0) (.lit 2)) (.tt true) (.cmp .eql (.var 0) (.lit 3)))) [])
def l74 : List (Nat × List Nat × List (Nat × Nat) × List Nat) := []
theorem e74 : ev Tryd.prog ⟨allF, [], l74⟩ (bodyOf Tryd.f74) 0 (initSt [(.agg [(.int .u8 (.var 0)), (.int .i64 (.var 1)), (.int .i64 (.var 2)), (.int .i64 (.var 3))])] [] Tryd.f74.ntmps [.int .u8, .int .i64, .int .i64, .int .i64]) (finK Tryd.prog Tryd.f74.results []) = t74 := by kernel_rfl
theorem c74 {G : List Value} {h : H} {R : Value → List (List Value) → H → Prop} (hG : FitsL [.int .u8, .int .i64, .int .i64, .int .i64] G) (H : holds Tryd.prog R t74 G [] h) : CallsA Tryd.prog 74 (fun e => SV.denL G (fun k => e (k - 1000000)) [(.agg [(.int .u8 (.var 0)), (.int .i64 (.var 1)), (.int .i64 (.var 2)), (.int .i64 (.var 3))])]) ([].map (SV.denL G dE)) h R :=
  CallsA.of_ev (cf := ⟨allF, [], l74⟩) (fn := Tryd.f74) (c := bodyOf Tryd.f74) (pcs := []) Tryd.func74 (by rfl) callOK (by rfl) hG (by rfl) (by rw [show ([] : List (List SV)).map List.length = [] from rfl, e74]; exact H)
/-- What is left of outworker/ir.of. -/
def t75 : Out :=
 (.ite (.not (.ite (.ite (.cmp .lss (.var 0) (.lit 1)) (.tt true) (.cmp .gtr (.var 0) (.lit 6))) (.tt true) (.ite (.cmp .eql (.var 0) (.lit 3)) (.ite (.cmp .lss (.var 1) (.lit 1)) (.tt true) (.cmp .gtr (.var 1) (.lit 7))) (.tt false))))
  (.call 79 [(.agg [(.int .u8 (.var 0)), (.int .u8 (.var 1)), (.int .i64 (.var 2)), (.int .i64 (.var 3)), (.int .i64 (.var 4)), (.int .i64 (.var 5)), (.val 6)])] [] [] [] [(false, [.bool])] 
  (.ite (.not (.var 8))
   (.done (.int .i64 (.lit 20)) [])
   (.ite (.cmp .gtr (.len 6) (.lit 3))
    (.done (.int .i64 (.lit 25)) [])
    (.call 71 [(.agg [(.int .u8 (.var 0)), (.int .u8 (.var 1)), (.int .i64 (.var 2)), (.int .i64 (.var 3)), (.int .i64 (.var 4)), (.int .i64 (.var 5)), (.val 6)])] [] [] [] [(false, [.sl])] 
    (.call 69 [(.agg [(.int .u8 (.var 0)), (.int .u8 (.var 1)), (.int .i64 (.var 2)), (.int .i64 (.var 3)), (.int .i64 (.var 4)), (.int .i64 (.var 5)), (.val 6)])] [] [] [] [(false, [.int .i64]), (false, [.bool])] 
    (.ite (.var 11)
     (.app 3 1 8 (.val 9) (.cells [(.int .i64 (.var 10))] 1) 
     (.loop 0 [(.int .i64 (.lit 0))] [.int .i64] 
      (.ite (.cmp .lss (.var 13) (.len 12))
       (.need (.tt true) [(.cmp .geq (.var 13) (.lit 0)), (.cmp .lss (.var 13) (.len 12))] 
       (.load (.tt true) (.idx (.var 12) (.var 13) 1) [.int .i64] 
       (.ite (.ite (.cmp .lss (.var 14) (.lit 0)) (.tt true) (.cmp .geq (.var 14) (.var 7)))
        (.done (.int .i64 (.lit 21)) [])
        (.again 0 [(.int .i64 (.op .add .i64 (.var 13) (.lit 1)))]))))
       (.done (.int .i64 (.lit 0)) []))))
     (.loop 0 [(.int .i64 (.lit 0))] [.int .i64] 
      (.ite (.cmp .lss (.var 12) (.len 9))
       (.need (.tt true) [(.cmp .geq (.var 12) (.lit 0)), (.cmp .lss (.var 12) (.len 9))] 
       (.load (.tt true) (.idx (.var 9) (.var 12) 1) [.int .i64] 
       (.ite (.ite (.cmp .lss (.var 13) (.lit 0)) (.tt true) (.cmp .geq (.var 13) (.var 7)))
        (.done (.int .i64 (.lit 21)) [])
        (.again 0 [(.int .i64 (.op .add .i64 (.var 12) (.lit 1)))]))))
       (.done (.int .i64 (.lit 0)) [])))))))))
  (.done (.int .i64 (.lit 20)) []))
def l75 : List (Nat × List Nat × List (Nat × Nat) × List Nat) := [(10, [58], [], [59, 60, 61, 9, 62, 63, 64, 65, 66, 67, 68, 4, 69])]
theorem e75 : ev Tryd.prog ⟨allF, [], l75⟩ (bodyOf Tryd.f75) 0 (initSt [(.agg [(.int .u8 (.var 0)), (.int .u8 (.var 1)), (.int .i64 (.var 2)), (.int .i64 (.var 3)), (.int .i64 (.var 4)), (.int .i64 (.var 5)), (.val 6)]), (.int .i64 (.var 7))] [] Tryd.f75.ntmps [.int .u8, .int .u8, .int .i64, .int .i64, .int .i64, .int .i64, .sl, .int .i64]) (finK Tryd.prog Tryd.f75.results []) = t75 := by kernel_rfl
theorem c75 {G : List Value} {h : H} {R : Value → List (List Value) → H → Prop} (hG : FitsL [.int .u8, .int .u8, .int .i64, .int .i64, .int .i64, .int .i64, .sl, .int .i64] G) (H : holds Tryd.prog R t75 G [] h) : CallsA Tryd.prog 75 (fun e => SV.denL G (fun k => e (k - 1000000)) [(.agg [(.int .u8 (.var 0)), (.int .u8 (.var 1)), (.int .i64 (.var 2)), (.int .i64 (.var 3)), (.int .i64 (.var 4)), (.int .i64 (.var 5)), (.val 6)]), (.int .i64 (.var 7))]) ([].map (SV.denL G dE)) h R :=
  CallsA.of_ev (cf := ⟨allF, [], l75⟩) (fn := Tryd.f75) (c := bodyOf Tryd.f75) (pcs := []) Tryd.func75 (by rfl) callOK (by rfl) hG (by rfl) (by rw [show ([] : List (List SV)).map List.length = [] from rfl, e75]; exact H)
/-- What is left of outworker/ir.Ends. -/
def t76 : Out :=
 (.call 61 [(.agg [(.int .u8 (.var 0)), (.int .i64 (.var 1)), (.int .i64 (.var 2)), (.int .i64 (.var 3))])] [] [] [] [(false, [.int .i64]), (false, [.bool])] 
 (.ite (.ite (.ite (.ite (.ite (.cmp .lss (.var 0) (.lit 1)) (.tt true) (.cmp .gtr (.var 0) (.lit 3))) (.tt true) (.ite (.not (.var 7)) (.cmp .neq (.var 1) (.lit 0)) (.tt false))) (.tt true) (.ite (.cmp .eql (.var 0) (.lit 3)) (.cmp .neq (.var 2) (.lit 0)) (.tt false))) (.tt true) (.ite (.cmp .neq (.var 0) (.lit 2)) (.cmp .neq (.var 3) (.lit 0)) (.tt false)))
  (.done (.int .i64 (.lit 20)) [])
  (.ite (.ite (.var 7) (.ite (.cmp .lss (.var 6) (.lit 0)) (.tt true) (.cmp .geq (.var 6) (.var 4))) (.tt false))
   (.done (.int .i64 (.lit 21)) [])
   (.ite (.ite (.ite (.cmp .neq (.var 0) (.lit 3)) (.ite (.cmp .lss (.var 2) (.lit 0)) (.tt true) (.cmp .geq (.var 2) (.var 5))) (.tt false)) (.ite (.cmp .neq (.var 0) (.lit 3)) (.ite (.cmp .lss (.var 2) (.lit 0)) (.tt true) (.cmp .geq (.var 2) (.var 5))) (.tt false)) (.ite (.cmp .eql (.var 0) (.lit 2)) (.ite (.cmp .lss (.var 3) (.lit 0)) (.tt true) (.cmp .geq (.var 3) (.var 5))) (.tt false)))
    (.done (.int .i64 (.lit 22)) [])
    (.done (.int .i64 (.lit 0)) [])))))
def l76 : List (Nat × List Nat × List (Nat × Nat) × List Nat) := []
theorem e76 : ev Tryd.prog ⟨allF, [], l76⟩ (bodyOf Tryd.f76) 0 (initSt [(.agg [(.int .u8 (.var 0)), (.int .i64 (.var 1)), (.int .i64 (.var 2)), (.int .i64 (.var 3))]), (.int .i64 (.var 4)), (.int .i64 (.var 5))] [] Tryd.f76.ntmps [.int .u8, .int .i64, .int .i64, .int .i64, .int .i64, .int .i64]) (finK Tryd.prog Tryd.f76.results []) = t76 := by kernel_rfl
theorem c76 {G : List Value} {h : H} {R : Value → List (List Value) → H → Prop} (hG : FitsL [.int .u8, .int .i64, .int .i64, .int .i64, .int .i64, .int .i64] G) (H : holds Tryd.prog R t76 G [] h) : CallsA Tryd.prog 76 (fun e => SV.denL G (fun k => e (k - 1000000)) [(.agg [(.int .u8 (.var 0)), (.int .i64 (.var 1)), (.int .i64 (.var 2)), (.int .i64 (.var 3))]), (.int .i64 (.var 4)), (.int .i64 (.var 5))]) ([].map (SV.denL G dE)) h R :=
  CallsA.of_ev (cf := ⟨allF, [], l76⟩) (fn := Tryd.f76) (c := bodyOf Tryd.f76) (pcs := []) Tryd.func76 (by rfl) callOK (by rfl) hG (by rfl) (by rw [show ([] : List (List SV)).map List.length = [] from rfl, e76]; exact H)
/-- What is left of outworker/ir.plain. -/
def t79 : Out :=
 (.ite (.cmp .eql (.var 0) (.lit 1))
  (.done (.bool (.ite (.ite (.ite (.ite (.ite (.cmp .eql (.var 1) (.lit 0)) (.cmp .eql (.var 2) (.var 2)) (.tt false)) (.cmp .eql (.var 3) (.lit 0)) (.tt false)) (.cmp .eql (.var 4) (.lit 0)) (.tt false)) (.cmp .eql (.var 5) (.var 5)) (.tt false)) (.ite (.cmp .eql (.len 6) (.lit 0)) (.tt true) (.cmp .eql (.var 0) (.lit 6))) (.tt false))) [])
  (.ite (.ite (.cmp .eql (.var 0) (.lit 2)) (.cmp .eql (.var 0) (.lit 2)) (.cmp .eql (.var 0) (.lit 4)))
   (.done (.bool (.ite (.ite (.ite (.ite (.ite (.cmp .eql (.var 1) (.lit 0)) (.cmp .eql (.var 2) (.var 2)) (.tt false)) (.cmp .eql (.var 3) (.var 3)) (.tt false)) (.cmp .eql (.var 4) (.lit 0)) (.tt false)) (.cmp .eql (.var 5) (.lit 0)) (.tt false)) (.ite (.cmp .eql (.len 6) (.lit 0)) (.tt true) (.cmp .eql (.var 0) (.lit 6))) (.tt false))) [])
   (.ite (.cmp .eql (.var 0) (.lit 3))
    (.done (.bool (.ite (.ite (.ite (.ite (.ite (.cmp .eql (.var 1) (.var 1)) (.cmp .eql (.var 2) (.var 2)) (.tt false)) (.cmp .eql (.var 3) (.var 3)) (.tt false)) (.cmp .eql (.var 4) (.var 4)) (.tt false)) (.cmp .eql (.var 5) (.lit 0)) (.tt false)) (.ite (.cmp .eql (.len 6) (.lit 0)) (.tt true) (.cmp .eql (.var 0) (.lit 6))) (.tt false))) [])
    (.ite (.cmp .eql (.var 0) (.lit 5))
     (.done (.bool (.ite (.ite (.ite (.ite (.ite (.cmp .eql (.var 1) (.lit 0)) (.cmp .eql (.var 2) (.lit 0)) (.tt false)) (.cmp .eql (.var 3) (.var 3)) (.tt false)) (.cmp .eql (.var 4) (.var 4)) (.tt false)) (.cmp .eql (.var 5) (.lit 0)) (.tt false)) (.ite (.cmp .eql (.len 6) (.lit 0)) (.tt true) (.cmp .eql (.var 0) (.lit 6))) (.tt false))) [])
     (.ite (.cmp .eql (.var 0) (.lit 6))
      (.done (.bool (.ite (.ite (.ite (.ite (.ite (.cmp .eql (.var 1) (.lit 0)) (.cmp .eql (.var 2) (.var 2)) (.tt false)) (.cmp .eql (.var 3) (.lit 0)) (.tt false)) (.cmp .eql (.var 4) (.lit 0)) (.tt false)) (.cmp .eql (.var 5) (.var 5)) (.tt false)) (.ite (.cmp .eql (.len 6) (.lit 0)) (.tt true) (.cmp .eql (.var 0) (.lit 6))) (.tt false))) [])
      (.done (.bool (.ite (.ite (.ite (.ite (.ite (.cmp .eql (.var 1) (.lit 0)) (.cmp .eql (.var 2) (.lit 0)) (.tt false)) (.cmp .eql (.var 3) (.lit 0)) (.tt false)) (.cmp .eql (.var 4) (.lit 0)) (.tt false)) (.cmp .eql (.var 5) (.lit 0)) (.tt false)) (.ite (.cmp .eql (.len 6) (.lit 0)) (.tt true) (.cmp .eql (.var 0) (.lit 6))) (.tt false))) []))))))
def l79 : List (Nat × List Nat × List (Nat × Nat) × List Nat) := []
theorem e79 : ev Tryd.prog ⟨allF, [], l79⟩ (bodyOf Tryd.f79) 0 (initSt [(.agg [(.int .u8 (.var 0)), (.int .u8 (.var 1)), (.int .i64 (.var 2)), (.int .i64 (.var 3)), (.int .i64 (.var 4)), (.int .i64 (.var 5)), (.val 6)])] [] Tryd.f79.ntmps [.int .u8, .int .u8, .int .i64, .int .i64, .int .i64, .int .i64, .sl]) (finK Tryd.prog Tryd.f79.results []) = t79 := by kernel_rfl
theorem c79 {G : List Value} {h : H} {R : Value → List (List Value) → H → Prop} (hG : FitsL [.int .u8, .int .u8, .int .i64, .int .i64, .int .i64, .int .i64, .sl] G) (H : holds Tryd.prog R t79 G [] h) : CallsA Tryd.prog 79 (fun e => SV.denL G (fun k => e (k - 1000000)) [(.agg [(.int .u8 (.var 0)), (.int .u8 (.var 1)), (.int .i64 (.var 2)), (.int .i64 (.var 3)), (.int .i64 (.var 4)), (.int .i64 (.var 5)), (.val 6)])]) ([].map (SV.denL G dE)) h R :=
  CallsA.of_ev (cf := ⟨allF, [], l79⟩) (fn := Tryd.f79) (c := bodyOf Tryd.f79) (pcs := []) Tryd.func79 (by rfl) callOK (by rfl) hG (by rfl) (by rw [show ([] : List (List SV)).map List.length = [] from rfl, e79]; exact H)
/-- What is left of outworker/ir.Check. -/
def t64 : Out :=
 (.ite (.ite (.ite (.ite (.ite (.ite (.cmp .lss (.var 0) (.lit 0)) (.tt true) (.cmp .gtr (.var 0) (.lit 4))) (.tt true) (.cmp .lss (.var 1) (.var 0))) (.tt true) (.cmp .gtr (.var 1) (.lit 32))) (.tt true) (.cmp .lss (.len 2) (.lit 1))) (.tt true) (.cmp .gtr (.len 2) (.lit 16)))
  (.done (.agg [(.int .i64 (.lit 2)), (.int .i64 (.lit (-1))), (.int .i64 (.lit (-1)))]) [])
  (.loop 0 [(.int .i64 (.lit 0))] [.int .i64] 
   (.ite (.cmp .lss (.var 3) (.len 2))
    (.need (.tt true) [(.cmp .geq (.var 3) (.lit 0)), (.cmp .lss (.var 3) (.len 2))] 
    (.load (.tt true) (.idx (.var 2) (.var 3) 5) [.sl, .int .u8, .int .i64, .int .i64, .int .i64] 
    (.ite (.cmp .gtr (.len 4) (.lit 32))
     (.done (.agg [(.int .i64 (.lit 9)), (.int .i64 (.var 3)), (.int .i64 (.lit (-1)))]) [])
     (.loop 1 [(.int .i64 (.lit 0))] [.int .i64] 
      (.ite (.cmp .lss (.var 9) (.len 4))
       (.need (.tt true) [(.cmp .geq (.var 9) (.lit 0)), (.cmp .lss (.var 9) (.len 4))] 
       (.load (.tt true) (.idx (.var 4) (.var 9) 7) [.int .u8, .int .u8, .int .i64, .int .i64, .int .i64, .int .i64, .sl] 
       (.call 75 [(.agg [(.int .u8 (.var 10)), (.int .u8 (.var 11)), (.int .i64 (.var 12)), (.int .i64 (.var 13)), (.int .i64 (.var 14)), (.int .i64 (.var 15)), (.val 16)]), (.int .i64 (.var 1))] [] [] [] [(false, [.int .i64])] 
       (.ite (.cmp .neq (.var 17) (.lit 0))
        (.done (.agg [(.int .i64 (.var 17)), (.int .i64 (.var 3)), (.int .i64 (.var 9))]) [])
        (.again 1 [(.int .i64 (.op .add .i64 (.var 9) (.lit 1)))])))))
       (.call 76 [(.agg [(.int .u8 (.var 5)), (.int .i64 (.var 6)), (.int .i64 (.var 7)), (.int .i64 (.var 8))]), (.int .i64 (.var 1)), (.int .i64 (.len 2))] [] [] [] [(false, [.int .i64])] 
       (.ite (.cmp .neq (.var 10) (.lit 0))
        (.done (.agg [(.int .i64 (.var 10)), (.int .i64 (.var 3)), (.int .i64 (.len 4))]) [])
        (.again 0 [(.int .i64 (.op .add .i64 (.var 3) (.lit 1)))]))))))))
    (.done (.agg [(.int .i64 (.lit 0)), (.int .i64 (.lit 0)), (.int .i64 (.lit 0))]) []))))
def l64 : List (Nat × List Nat × List (Nat × Nat) × List Nat) := [(4, [45], [], [46, 47, 48, 49, 4, 3, 50, 51, 52, 53, 54, 55, 56, 57, 58, 59, 60, 61, 62, 63, 6, 5, 64, 65, 66, 67, 7, 68, 69, 70, 71, 72, 73, 74, 75, 76, 77, 78, 79, 80, 81, 82, 8, 83, 84, 85, 86, 87, 88, 89, 90, 91]), (9, [59], [], [60, 61, 62, 63, 6, 5, 64, 65, 66, 67, 7, 68, 69, 70, 71, 72, 73, 74])]
theorem e64 : ev Tryd.prog ⟨allF, [], l64⟩ (bodyOf Tryd.f64) 0 (initSt [(.agg [(.int .i64 (.var 0)), (.int .i64 (.var 1)), (.val 2)])] [] Tryd.f64.ntmps [.int .i64, .int .i64, .sl]) (finK Tryd.prog Tryd.f64.results []) = t64 := by kernel_rfl
theorem c64 {G : List Value} {h : H} {R : Value → List (List Value) → H → Prop} (hG : FitsL [.int .i64, .int .i64, .sl] G) (H : holds Tryd.prog R t64 G [] h) : CallsA Tryd.prog 64 (fun e => SV.denL G (fun k => e (k - 1000000)) [(.agg [(.int .i64 (.var 0)), (.int .i64 (.var 1)), (.val 2)])]) ([].map (SV.denL G dE)) h R :=
  CallsA.of_ev (cf := ⟨allF, [], l64⟩) (fn := Tryd.f64) (c := bodyOf Tryd.f64) (pcs := []) Tryd.func64 (by rfl) callOK (by rfl) hG (by rfl) (by rw [show ([] : List (List SV)).map List.length = [] from rfl, e64]; exact H)
end Go.Proofs.YtbbicdfipheaeaaDoor
