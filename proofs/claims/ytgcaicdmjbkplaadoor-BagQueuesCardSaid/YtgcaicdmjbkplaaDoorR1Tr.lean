/-
  What the evaluator leaves of the functions of this seat (trees, printed by a program of ours), and their contracts from it. Conditions: none.
-/
import Derived.Test.YtgcaicdmjbkplaaDoorEc
import Derived.Test.YtgcaicdmjbkplaaDoorProg
set_option linter.unusedVariables false
set_option linter.unusedSimpArgs false
namespace Go.Proofs.YtgcaicdmjbkplaaDoor
open Go

def bodyOf (fn : Func) : Code := match fn.body with | some c => c | none => .seq (.exit 0) (.exit 0)
def allF : List Nat := [2, 3, 4, 5, 6, 7, 8, 9, 10, 11, 12, 13, 14, 15, 16, 17, 18, 19, 20, 21, 22, 23, 24, 25, 26, 27, 28, 29, 30, 31, 32, 33, 34, 35, 36, 37, 38, 39, 40, 41, 42, 43, 44, 45, 46, 47, 48, 49, 50, 51, 52, 53, 54, 55, 56, 57, 58, 59, 60, 61, 62, 63, 64, 66, 68, 70, 71, 72, 73, 74, 75, 76, 77, 107]
theorem callOK : CallOK Tryd.prog allF := by
  intro f hf args w
  simp only [allF, List.mem_cons, List.not_mem_nil, or_false] at hf
  rcases hf with rfl | rfl | rfl | rfl | rfl | rfl | rfl | rfl | rfl | rfl | rfl | rfl | rfl | rfl | rfl | rfl | rfl | rfl | rfl | rfl | rfl | rfl | rfl | rfl | rfl | rfl | rfl | rfl | rfl | rfl | rfl | rfl | rfl | rfl | rfl | rfl | rfl | rfl | rfl | rfl | rfl | rfl | rfl | rfl | rfl | rfl | rfl | rfl | rfl | rfl | rfl | rfl | rfl | rfl | rfl | rfl | rfl | rfl | rfl | rfl | rfl | rfl | rfl | rfl | rfl | rfl | rfl | rfl | rfl | rfl | rfl | rfl | rfl | rfl
  · exact Tryd.call2 args w
  · exact Tryd.call3 args w
  · exact Tryd.call4 args w
  · exact Tryd.call5 args w
  · exact Tryd.call6 args w
  · exact Tryd.call7 args w
  · exact Tryd.call8 args w
  · exact Tryd.call9 args w
  · exact Tryd.call10 args w
  · exact Tryd.call11 args w
  · exact Tryd.call12 args w
  · exact Tryd.call13 args w
  · exact Tryd.call14 args w
  · exact Tryd.call15 args w
  · exact Tryd.call16 args w
  · exact Tryd.call17 args w
  · exact Tryd.call18 args w
  · exact Tryd.call19 args w
  · exact Tryd.call20 args w
  · exact Tryd.call21 args w
  · exact Tryd.call22 args w
  · exact Tryd.call23 args w
  · exact Tryd.call24 args w
  · exact Tryd.call25 args w
  · exact Tryd.call26 args w
  · exact Tryd.call27 args w
  · exact Tryd.call28 args w
  · exact Tryd.call29 args w
  · exact Tryd.call30 args w
  · exact Tryd.call31 args w
  · exact Tryd.call32 args w
  · exact Tryd.call33 args w
  · exact Tryd.call34 args w
  · exact Tryd.call35 args w
  · exact Tryd.call36 args w
  · exact Tryd.call37 args w
  · exact Tryd.call38 args w
  · exact Tryd.call39 args w
  · exact Tryd.call40 args w
  · exact Tryd.call41 args w
  · exact Tryd.call42 args w
  · exact Tryd.call43 args w
  · exact Tryd.call44 args w
  · exact Tryd.call45 args w
  · exact Tryd.call46 args w
  · exact Tryd.call47 args w
  · exact Tryd.call48 args w
  · exact Tryd.call49 args w
  · exact Tryd.call50 args w
  · exact Tryd.call51 args w
  · exact Tryd.call52 args w
  · exact Tryd.call53 args w
  · exact Tryd.call54 args w
  · exact Tryd.call55 args w
  · exact Tryd.call56 args w
  · exact Tryd.call57 args w
  · exact Tryd.call58 args w
  · exact Tryd.call59 args w
  · exact Tryd.call60 args w
  · exact Tryd.call61 args w
  · exact Tryd.call62 args w
  · exact Tryd.call63 args w
  · exact Tryd.call64 args w
  · exact Tryd.call66 args w
  · exact Tryd.call68 args w
  · exact Tryd.call70 args w
  · exact Tryd.call71 args w
  · exact Tryd.call72 args w
  · exact Tryd.call73 args w
  · exact Tryd.call74 args w
  · exact Tryd.call75 args w
  · exact Tryd.call76 args w
  · exact Tryd.call77 args w
  · exact Tryd.call107 args w
/-- What is left of outworker/outworkerlaw10.Awake. -/
def t10 : Out :=
 (.alloc 36 [(.cst (.slice none 0 0)), (.int .u8 (.lit 2)), (.int .i64 (.lit 0)), (.int .i64 (.lit 2)), (.int .i64 (.lit 1)), (.cst (.slice none 0 0)), (.int .u8 (.lit 1)), (.int .i64 (.lit 0)), (.int .i64 (.lit 3)), (.int .i64 (.lit 0)), (.cst (.slice none 0 0)), (.int .u8 (.lit 1)), (.int .i64 (.lit 0)), (.int .i64 (.lit 3)), (.int .i64 (.lit 0)), (.cst (.slice none 0 0)), (.int .u8 (.lit 3)), (.int .i64 (.lit 0)), (.int .i64 (.lit 0)), (.int .i64 (.lit 0))] (.lsl 4) 
 (.call 41 [(.val 0)] [] [] [] [(false, [.sl])] 
 (.alloc 3 [(.int .i64 (.lit 0)), (.int .i64 (.lit 1)), (.int .i64 (.lit 2)), (.int .i64 (.lit 3))] (.lsl 4) 
 (.call 40 [(.val 1), (.val 2)] [] [] [] [(false, [.bool])] 
 (.ite (.var 3)
  (.call 42 [(.val 0)] [] [] [] [(false, [.sl])] 
  (.need (.tt true) [(.tt true), (.cmp .lss (.lit 3) (.len 4))] 
  (.load (.tt true) (.idx (.var 4) (.lit 3) 1) [.sl] 
  (.alloc 3 [(.int .i64 (.lit 1)), (.int .i64 (.lit 2))] (.lsl 2) 
  (.call 40 [(.val 5), (.val 6)] [] [] [] [(false, [.bool])] 
  (.done (.bool (.var 7)) []))))))
  (.done (.bool (.tt false)) []))))))
def l10 : List (Nat × List Nat × List (Nat × Nat) × List Nat) := []
theorem e10 : ev Tryd.prog ⟨allF, [10, 13, 20], l10⟩ (bodyOf Tryd.f10) 0 (initSt [] [] Tryd.f10.ntmps []) (finK Tryd.prog Tryd.f10.results []) = t10 := by kernel_rfl
theorem c10 {G : List Value} {h : H} {R : Value → List (List Value) → H → Prop} (hG : FitsL [] G) (H : holds Tryd.prog R t10 G [] h) : CallsA Tryd.prog 10 (fun e => SV.denL G (fun k => e (k - 1000000)) []) ([].map (SV.denL G dE)) h R :=
  CallsA.of_ev (cf := ⟨allF, [10, 13, 20], l10⟩) (fn := Tryd.f10) (c := bodyOf Tryd.f10) (pcs := []) Tryd.func10 (by rfl) callOK (by rfl) hG (by rfl) (by rw [show ([] : List (List SV)).map List.length = [] from rfl, e10]; exact H)
/-- What is left of outworker/outworkerlaw04.Made. -/
def t11 : Out :=
 (.loop 0 [(.int .i64 (.lit 0)), (.val 3), (.cst (.slice none 0 0))] [.int .i64, .sl, .sl] 
  (.ite (.cmp .lss (.var 4) (.op .add .i64 (.lit 1) (.conv .i64 (.op .rem .u8 (.var 2) (.lit 7)))))
   (.call 43 [(.loc 24 0), (.int .i64 (.lit 9))] [24] [[(.val 5)]] [[.sl]] [(false, [.int .i64])] 
   (.loop 1 [(.int .i64 (.lit 0)), (.cst (.slice none 0 0)), (.val 7)] [.int .i64, .sl, .sl] 
    (.ite (.cmp .lss (.var 9) (.var 8))
     (.call 44 [(.loc 24 0), (.int .i64 (.op .add .i64 (.ite (.cmp .gtr (.lit 1) (.conv .i64 (.op .rem .u8 (.var 0) (.lit 5)))) (.lit 1) (.conv .i64 (.op .rem .u8 (.var 0) (.lit 5)))) (.conv .i64 (.op .rem .u8 (.var 1) (.lit 28)))))] [24] [[(.val 11)]] [[.sl]] [(true, [.int .u8, .int .u8, .int .i64, .int .i64, .int .i64, .int .i64, .sl])] 
     (.app 108 7 64 (.val 10) (.cells [(.int .u8 (.var 13)), (.int .u8 (.var 14)), (.int .i64 (.var 15)), (.int .i64 (.var 16)), (.int .i64 (.var 17)), (.int .i64 (.var 18)), (.val 19)] 1) 
     (.again 1 [(.int .i64 (.op .add .i64 (.var 9) (.lit 1))), (.val 20), (.val 12)])))
     (.call 43 [(.loc 24 0), (.int .i64 (.lit 4))] [24] [[(.val 11)]] [[.sl]] [(false, [.int .i64])] 
     (.ite (.cmp .eql (.var 13) (.lit 1))
      (.call 43 [(.loc 24 0), (.int .i64 (.op .add .i64 (.lit 1) (.conv .i64 (.op .rem .u8 (.var 2) (.lit 7)))))] [24] [[(.val 12)]] [[.sl]] [(false, [.int .i64])] 
      (.app 36 5 56 (.val 6) (.cells [(.val 10), (.int .u8 (.lit 1)), (.int .i64 (.lit 0)), (.int .i64 (.var 15)), (.int .i64 (.lit 0))] 1) 
      (.again 0 [(.int .i64 (.op .add .i64 (.var 4) (.lit 1))), (.val 14), (.val 16)])))
      (.ite (.ite (.cmp .eql (.var 13) (.lit 2)) (.cmp .eql (.var 13) (.lit 2)) (.cmp .eql (.var 13) (.lit 3)))
       (.call 43 [(.loc 24 0), (.int .i64 (.op .add .i64 (.ite (.cmp .gtr (.lit 1) (.conv .i64 (.op .rem .u8 (.var 0) (.lit 5)))) (.lit 1) (.conv .i64 (.op .rem .u8 (.var 0) (.lit 5)))) (.conv .i64 (.op .rem .u8 (.var 1) (.lit 28)))))] [24] [[(.val 12)]] [[.sl]] [(false, [.int .i64])] 
       (.call 43 [(.loc 24 0), (.int .i64 (.op .add .i64 (.lit 1) (.conv .i64 (.op .rem .u8 (.var 2) (.lit 7)))))] [24] [[(.val 14)]] [[.sl]] [(false, [.int .i64])] 
       (.call 43 [(.loc 24 0), (.int .i64 (.op .add .i64 (.lit 1) (.conv .i64 (.op .rem .u8 (.var 2) (.lit 7)))))] [24] [[(.val 16)]] [[.sl]] [(false, [.int .i64])] 
       (.app 36 5 56 (.val 6) (.cells [(.val 10), (.int .u8 (.lit 2)), (.int .i64 (.var 15)), (.int .i64 (.var 17)), (.int .i64 (.var 19))] 1) 
       (.again 0 [(.int .i64 (.op .add .i64 (.var 4) (.lit 1))), (.val 18), (.val 20)])))))
       (.call 43 [(.loc 24 0), (.int .i64 (.op .add .i64 (.ite (.cmp .gtr (.lit 1) (.conv .i64 (.op .rem .u8 (.var 0) (.lit 5)))) (.lit 1) (.conv .i64 (.op .rem .u8 (.var 0) (.lit 5)))) (.conv .i64 (.op .rem .u8 (.var 1) (.lit 28)))))] [24] [[(.val 12)]] [[.sl]] [(false, [.int .i64])] 
       (.app 36 5 56 (.val 6) (.cells [(.val 10), (.int .u8 (.lit 3)), (.int .i64 (.var 15)), (.int .i64 (.lit 0)), (.int .i64 (.lit 0))] 1) 
       (.again 0 [(.int .i64 (.op .add .i64 (.var 4) (.lit 1))), (.val 14), (.val 16)])))))))))
   (.done (.agg [(.int .i64 (.conv .i64 (.op .rem .u8 (.var 0) (.lit 5)))), (.int .i64 (.op .add .i64 (.ite (.cmp .gtr (.lit 1) (.conv .i64 (.op .rem .u8 (.var 0) (.lit 5)))) (.lit 1) (.conv .i64 (.op .rem .u8 (.var 0) (.lit 5)))) (.conv .i64 (.op .rem .u8 (.var 1) (.lit 28))))), (.val 6)]) [])))
def l11 : List (Nat × List Nat × List (Nat × Nat) × List Nat) := [(6, [31], [(24, 0), (3, 2)], [32, 6, 33, 34, 35, 36, 37, 38, 39, 40, 41, 42, 43, 44, 45, 46, 47, 48, 56, 55, 57, 58, 59, 60, 61, 63, 62, 64, 65, 66, 67, 68, 69, 70, 71, 72, 73, 74, 75, 76, 49, 50, 51, 52, 53, 54, 77, 78, 79, 80, 81, 82, 83]), (9, [35], [(6, 0), (24, 0)], [36, 37, 38, 39, 40, 41, 42, 43, 44, 45, 46])]
theorem e11 : ev Tryd.prog ⟨allF, [], l11⟩ (bodyOf Tryd.f11) 0 (initSt [(.agg [(.int .u8 (.var 0)), (.int .u8 (.var 1)), (.int .u8 (.var 2)), (.val 3)])] [] Tryd.f11.ntmps [.int .u8, .int .u8, .int .u8, .sl]) (finK Tryd.prog Tryd.f11.results []) = t11 := by kernel_rfl
theorem c11 {G : List Value} {h : H} {R : Value → List (List Value) → H → Prop} (hG : FitsL [.int .u8, .int .u8, .int .u8, .sl] G) (H : holds Tryd.prog R t11 G [] h) : CallsA Tryd.prog 11 (fun e => SV.denL G (fun k => e (k - 1000000)) [(.agg [(.int .u8 (.var 0)), (.int .u8 (.var 1)), (.int .u8 (.var 2)), (.val 3)])]) ([].map (SV.denL G dE)) h R :=
  CallsA.of_ev (cf := ⟨allF, [], l11⟩) (fn := Tryd.f11) (c := bodyOf Tryd.f11) (pcs := []) Tryd.func11 (by rfl) callOK (by rfl) hG (by rfl) (by rw [show ([] : List (List SV)).map List.length = [] from rfl, e11]; exact H)
/-- What is left of outworker/paths.Reach. -/
def t12 : Out :=
 (.alloc 3 [(.int .i64 (.lit 0))] (.lsl 1) 
 (.call 45 [(.val 1)] [] [] [] [(true, [.sl])] 
 (.call 46 [(.loc 3 0), (.int .i64 (.lit 0))] [3] [[(.cst (.slice none 0 0)), (.cst (.map none))]] [[.sl, .map]] [(false, [.bool])] 
 (.loop 0 [(.val 2), (.val 3), (.val 4)] [.sl, .sl, .map] 
  (.call 47 [(.loc 3 0)] [3] [[(.val 7), (.val 8)]] [[.sl, .map]] [(false, [.int .i64])] 
  (.ite (.cmp .gtr (.var 11) (.lit 0))
   (.call 48 [(.loc 3 0)] [3] [[(.val 9), (.val 10)]] [[.sl, .map]] [(false, [.int .i64]), (false, [.bool])] 
   (.need (.tt true) [(.cmp .geq (.var 14) (.lit 0)), (.cmp .lss (.var 14) (.len 0))] 
   (.load (.tt true) (.fld (.idx (.var 0) (.var 14) 5) 1) [.int .u8, .int .i64, .int .i64, .int .i64] 
   (.call 49 [(.agg [(.int .u8 (.var 16)), (.int .i64 (.var 17)), (.int .i64 (.var 18)), (.int .i64 (.var 19))])] [] [] [] [(false, [.sl])] 
   (.loop 1 [(.int .i64 (.lit 0)), (.val 6), (.val 12), (.val 13)] [.int .i64, .sl, .sl, .map] 
    (.ite (.cmp .lss (.var 21) (.len 20))
     (.need (.tt true) [(.cmp .geq (.var 21) (.lit 0)), (.cmp .lss (.var 21) (.len 20))] 
     (.load (.tt true) (.idx (.var 20) (.var 21) 1) [.int .i64] 
     (.call 19 [(.loc 4 0), (.int .i64 (.var 25))] [4] [[(.val 22)]] [[.sl]] [(false, [.bool])] 
     (.ite (.var 27)
      (.call 46 [(.loc 3 0), (.int .i64 (.var 25))] [3] [[(.val 23), (.val 24)]] [[.sl, .map]] [(false, [.bool])] 
      (.again 1 [(.int .i64 (.op .add .i64 (.var 21) (.lit 1))), (.val 26), (.val 28), (.val 29)]))
      (.again 1 [(.int .i64 (.op .add .i64 (.var 21) (.lit 1))), (.val 26), (.val 23), (.val 24)])))))
     (.again 0 [(.val 22), (.val 23), (.val 24)])))))))
   (.done (.agg [(.val 6)]) [])))))))
def l12 : List (Nat × List Nat × List (Nat × Nat) × List Nat) := [(4, [], [(4, 0), (3, 0), (3, 1)], [12, 13, 15, 14, 16, 17, 5, 6, 18, 19, 20, 21, 22, 23, 24, 25, 26, 27, 28, 8, 29, 30, 31, 32, 33]), (7, [25], [(4, 0), (3, 0), (3, 1)], [26, 27, 28, 8, 29, 30, 31, 32, 33])]
theorem e12 : ev Tryd.prog ⟨allF, [9], l12⟩ (bodyOf Tryd.f12) 0 (initSt [(.val 0)] [] Tryd.f12.ntmps [.sl]) (finK Tryd.prog Tryd.f12.results []) = t12 := by kernel_rfl
theorem c12 {G : List Value} {h : H} {R : Value → List (List Value) → H → Prop} (hG : FitsL [.sl] G) (H : holds Tryd.prog R t12 G [] h) : CallsA Tryd.prog 12 (fun e => SV.denL G (fun k => e (k - 1000000)) [(.val 0)]) ([].map (SV.denL G dE)) h R :=
  CallsA.of_ev (cf := ⟨allF, [9], l12⟩) (fn := Tryd.f12) (c := bodyOf Tryd.f12) (pcs := []) Tryd.func12 (by rfl) callOK (by rfl) hG (by rfl) (by rw [show ([] : List (List SV)).map List.length = [] from rfl, e12]; exact H)
/-- What is left of (outworker/bag.Set[int]).Copy. -/
def t13 : Out :=
 (.call 50 [(.val 0)] [] [] [] [(false, [.sl])] 
 (.done (.agg [(.val 1)]) []))
def l13 : List (Nat × List Nat × List (Nat × Nat) × List Nat) := []
theorem e13 : ev Tryd.prog ⟨allF, [], l13⟩ (bodyOf Tryd.f13) 0 (initSt [(.agg [(.val 0)])] [] Tryd.f13.ntmps [.sl]) (finK Tryd.prog Tryd.f13.results []) = t13 := by kernel_rfl
theorem c13 {G : List Value} {h : H} {R : Value → List (List Value) → H → Prop} (hG : FitsL [.sl] G) (H : holds Tryd.prog R t13 G [] h) : CallsA Tryd.prog 13 (fun e => SV.denL G (fun k => e (k - 1000000)) [(.agg [(.val 0)])]) ([].map (SV.denL G dE)) h R :=
  CallsA.of_ev (cf := ⟨allF, [], l13⟩) (fn := Tryd.f13) (c := bodyOf Tryd.f13) (pcs := []) Tryd.func13 (by rfl) callOK (by rfl) hG (by rfl) (by rw [show ([] : List (List SV)).map List.length = [] from rfl, e13]; exact H)
/-- What is left of (outworker/bag.Set[int]).Same. -/
def t15 : Out :=
 (.call 23 [(.agg [(.val 0)])] [] [] [] [(false, [.sl])] 
 (.call 23 [(.agg [(.val 1)])] [] [] [] [(false, [.sl])] 
 (.call 51 [(.val 2), (.val 3)] [] [] [] [(false, [.bool])] 
 (.done (.bool (.var 4)) []))))
def l15 : List (Nat × List Nat × List (Nat × Nat) × List Nat) := []
theorem e15 : ev Tryd.prog ⟨allF, [], l15⟩ (bodyOf Tryd.f15) 0 (initSt [(.agg [(.val 0)]), (.agg [(.val 1)])] [] Tryd.f15.ntmps [.sl, .sl]) (finK Tryd.prog Tryd.f15.results []) = t15 := by kernel_rfl
theorem c15 {G : List Value} {h : H} {R : Value → List (List Value) → H → Prop} (hG : FitsL [.sl, .sl] G) (H : holds Tryd.prog R t15 G [] h) : CallsA Tryd.prog 15 (fun e => SV.denL G (fun k => e (k - 1000000)) [(.agg [(.val 0)]), (.agg [(.val 1)])]) ([].map (SV.denL G dE)) h R :=
  CallsA.of_ev (cf := ⟨allF, [], l15⟩) (fn := Tryd.f15) (c := bodyOf Tryd.f15) (pcs := []) Tryd.func15 (by rfl) callOK (by rfl) hG (by rfl) (by rw [show ([] : List (List SV)).map List.length = [] from rfl, e15]; exact H)
/-- What is left of (outworker/bag.Set[int]).Has. -/
def t16 : Out :=
 (.need (.ite (.cmp .geq (.var 1) (.lit 0)) (.cmp .lss (.op .quo .i64 (.var 1) (.lit 64)) (.len 0)) (.tt false)) [(.cmp .geq (.op .quo .i64 (.var 1) (.lit 64)) (.lit 0)), (.cmp .lss (.op .quo .i64 (.var 1) (.lit 64)) (.len 0))] 
 (.load (.ite (.cmp .geq (.var 1) (.lit 0)) (.cmp .lss (.op .quo .i64 (.var 1) (.lit 64)) (.len 0)) (.tt false)) (.idx (.var 0) (.op .quo .i64 (.var 1) (.lit 64)) 1) [.int .u64] 
 (.need (.ite (.cmp .geq (.var 1) (.lit 0)) (.cmp .lss (.op .quo .i64 (.var 1) (.lit 64)) (.len 0)) (.tt false)) [(.cmp .geq (.op .rem .i64 (.var 1) (.lit 64)) (.lit 0))] 
 (.done (.bool (.ite (.ite (.cmp .geq (.var 1) (.lit 0)) (.cmp .lss (.op .quo .i64 (.var 1) (.lit 64)) (.len 0)) (.tt false)) (.cmp .eql (.op .and .u64 (.op .shr .u64 (.var 2) (.op .rem .i64 (.var 1) (.lit 64))) (.lit 1)) (.lit 1)) (.tt false))) []))))
def l16 : List (Nat × List Nat × List (Nat × Nat) × List Nat) := []
theorem e16 : ev Tryd.prog ⟨allF, [], l16⟩ (bodyOf Tryd.f16) 0 (initSt [(.agg [(.val 0)]), (.int .i64 (.var 1))] [] Tryd.f16.ntmps [.sl, .int .i64]) (finK Tryd.prog Tryd.f16.results []) = t16 := by kernel_rfl
theorem c16 {G : List Value} {h : H} {R : Value → List (List Value) → H → Prop} (hG : FitsL [.sl, .int .i64] G) (H : holds Tryd.prog R t16 G [] h) : CallsA Tryd.prog 16 (fun e => SV.denL G (fun k => e (k - 1000000)) [(.agg [(.val 0)]), (.int .i64 (.var 1))]) ([].map (SV.denL G dE)) h R :=
  CallsA.of_ev (cf := ⟨allF, [], l16⟩) (fn := Tryd.f16) (c := bodyOf Tryd.f16) (pcs := []) Tryd.func16 (by rfl) callOK (by rfl) hG (by rfl) (by rw [show ([] : List (List SV)).map List.length = [] from rfl, e16]; exact H)
/-- What is left of (outworker/bag.Set[int]).All. -/
def t23 : Out :=
 (.loop 0 [(.cst (.slice none 0 0)), (.int .i64 (.lit 0))] [.sl, .int .i64] 
  (.ite (.cmp .lss (.var 2) (.len 0))
   (.need (.tt true) [(.cmp .geq (.var 2) (.lit 0)), (.cmp .lss (.var 2) (.len 0))] 
   (.load (.tt true) (.idx (.var 0) (.var 2) 1) [.int .u64] 
   (.loop 1 [(.val 1), (.int .u64 (.var 3))] [.sl, .int .u64] 
    (.ite (.cmp .neq (.var 5) (.lit 0))
     (.call 56 [(.int .u64 (.var 5))] [] [] [] [(false, [.int .i64])] 
     (.app 3 1 8 (.val 4) (.cells [(.int .i64 (.op .add .i64 (.op .mul .i64 (.lit 64) (.var 2)) (.var 6)))] 1) 
     (.again 1 [(.val 7), (.int .u64 (.op .and .u64 (.var 5) (.op .sub .u64 (.var 5) (.lit 1))))])))
     (.again 0 [(.val 4), (.int .i64 (.op .add .i64 (.var 2) (.lit 1)))])))))
   (.done (.val 1) [])))
def l23 : List (Nat × List Nat × List (Nat × Nat) × List Nat) := [(3, [3, 9], [], [10, 11, 12, 13, 4, 5, 14, 15, 20, 21, 22, 23, 24, 25, 26, 27, 16, 17, 18, 19, 28]), (5, [3, 5], [], [14, 15, 20, 21, 22, 23, 24, 25, 26, 27, 16, 17, 18, 19])]
theorem e23 : ev Tryd.prog ⟨allF, [], l23⟩ (bodyOf Tryd.f23) 0 (initSt [(.agg [(.val 0)])] [] Tryd.f23.ntmps [.sl]) (finK Tryd.prog Tryd.f23.results []) = t23 := by kernel_rfl
theorem c23 {G : List Value} {h : H} {R : Value → List (List Value) → H → Prop} (hG : FitsL [.sl] G) (H : holds Tryd.prog R t23 G [] h) : CallsA Tryd.prog 23 (fun e => SV.denL G (fun k => e (k - 1000000)) [(.agg [(.val 0)])]) ([].map (SV.denL G dE)) h R :=
  CallsA.of_ev (cf := ⟨allF, [], l23⟩) (fn := Tryd.f23) (c := bodyOf Tryd.f23) (pcs := []) Tryd.func23 (by rfl) callOK (by rfl) hG (by rfl) (by rw [show ([] : List (List SV)).map List.length = [] from rfl, e23]; exact H)
/-- What is left of (outworker/bag.Set[int]).Len. -/
def t33 : Out :=
 (.loop 0 [(.int .i64 (.lit 0)), (.int .i64 (.lit 0))] [.int .i64, .int .i64] 
  (.ite (.cmp .lss (.var 2) (.len 0))
   (.need (.tt true) [(.cmp .geq (.var 2) (.lit 0)), (.cmp .lss (.var 2) (.len 0))] 
   (.load (.tt true) (.idx (.var 0) (.var 2) 1) [.int .u64] 
   (.call 61 [(.int .u64 (.var 3))] [] [] [] [(false, [.int .i64])] 
   (.again 0 [(.int .i64 (.op .add .i64 (.var 1) (.var 4))), (.int .i64 (.op .add .i64 (.var 2) (.lit 1)))]))))
   (.done (.int .i64 (.var 1)) [])))
def l33 : List (Nat × List Nat × List (Nat × Nat) × List Nat) := [(3, [3, 9], [], [10, 11, 12, 5, 13, 14, 15, 16, 17])]
theorem e33 : ev Tryd.prog ⟨allF, [], l33⟩ (bodyOf Tryd.f33) 0 (initSt [(.agg [(.val 0)])] [] Tryd.f33.ntmps [.sl]) (finK Tryd.prog Tryd.f33.results []) = t33 := by kernel_rfl
theorem c33 {G : List Value} {h : H} {R : Value → List (List Value) → H → Prop} (hG : FitsL [.sl] G) (H : holds Tryd.prog R t33 G [] h) : CallsA Tryd.prog 33 (fun e => SV.denL G (fun k => e (k - 1000000)) [(.agg [(.val 0)])]) ([].map (SV.denL G dE)) h R :=
  CallsA.of_ev (cf := ⟨allF, [], l33⟩) (fn := Tryd.f33) (c := bodyOf Tryd.f33) (pcs := []) Tryd.func33 (by rfl) callOK (by rfl) hG (by rfl) (by rw [show ([] : List (List SV)).map List.length = [] from rfl, e33]; exact H)
/-- What is left of outworker/outworkerref04.SameInts. -/
def t40 : Out :=
 (.ite (.cmp .neq (.len 0) (.len 1))
  (.done (.bool (.tt false)) [])
  (.loop 0 [(.int .i64 (.lit 0))] [.int .i64] 
   (.ite (.cmp .lss (.var 2) (.len 0))
    (.need (.tt true) [(.cmp .geq (.var 2) (.lit 0)), (.cmp .lss (.var 2) (.len 0))] 
    (.load (.tt true) (.idx (.var 0) (.var 2) 1) [.int .i64] 
    (.need (.tt true) [(.cmp .geq (.var 2) (.lit 0)), (.cmp .lss (.var 2) (.len 1))] 
    (.load (.tt true) (.idx (.var 1) (.var 2) 1) [.int .i64] 
    (.ite (.cmp .neq (.var 3) (.var 4))
     (.done (.bool (.tt false)) [])
     (.again 0 [(.int .i64 (.op .add .i64 (.var 2) (.lit 1)))]))))))
    (.done (.bool (.tt true)) []))))
def l40 : List (Nat × List Nat × List (Nat × Nat) × List Nat) := [(4, [5], [], [11, 12, 13, 14, 17, 18, 19, 20, 21, 22, 23, 24, 25, 4, 15, 16])]
theorem e40 : ev Tryd.prog ⟨allF, [], l40⟩ (bodyOf Tryd.f40) 0 (initSt [(.val 0), (.val 1)] [] Tryd.f40.ntmps [.sl, .sl]) (finK Tryd.prog Tryd.f40.results []) = t40 := by kernel_rfl
theorem c40 {G : List Value} {h : H} {R : Value → List (List Value) → H → Prop} (hG : FitsL [.sl, .sl] G) (H : holds Tryd.prog R t40 G [] h) : CallsA Tryd.prog 40 (fun e => SV.denL G (fun k => e (k - 1000000)) [(.val 0), (.val 1)]) ([].map (SV.denL G dE)) h R :=
  CallsA.of_ev (cf := ⟨allF, [], l40⟩) (fn := Tryd.f40) (c := bodyOf Tryd.f40) (pcs := []) Tryd.func40 (by rfl) callOK (by rfl) hG (by rfl) (by rw [show ([] : List (List SV)).map List.length = [] from rfl, e40]; exact H)
/-- What is left of outworker/paths.Order. -/
def t41 : Out :=
 (.call 62 [(.loc 8 0), (.int .i64 (.lit 0))] [8] [[(.val 0), (.cst (.slice none 0 0)), (.cst (.slice none 0 0))]] [[.sl, .sl, .sl]] [] 
 (.loop 0 [(.int .i64 (.lit 0)), (.int .i64 (.op .sub .i64 (.len 3) (.lit 1)))] [.int .i64, .int .i64] 
  (.ite (.cmp .lss (.var 4) (.var 5))
   (.need (.tt true) [(.cmp .geq (.var 5) (.lit 0)), (.cmp .lss (.var 5) (.len 3))] 
   (.load (.tt true) (.idx (.var 3) (.var 5) 1) [.int .i64] 
   (.need (.tt true) [(.cmp .geq (.var 4) (.lit 0)), (.cmp .lss (.var 4) (.len 3))] 
   (.load (.tt true) (.idx (.var 3) (.var 4) 1) [.int .i64] 
   (.need (.tt true) [(.cmp .geq (.var 4) (.lit 0)), (.cmp .lss (.var 4) (.len 3))] 
   (.store (.idx (.var 3) (.var 4) 1) [(.int .i64 (.var 6))] 
   (.need (.tt true) [(.cmp .geq (.var 5) (.lit 0)), (.cmp .lss (.var 5) (.len 3))] 
   (.store (.idx (.var 3) (.var 5) 1) [(.int .i64 (.var 7))] 
   (.again 0 [(.int .i64 (.op .add .i64 (.var 4) (.lit 1))), (.int .i64 (.op .sub .i64 (.var 5) (.lit 1)))])))))))))
   (.done (.val 3) []))))
def l41 : List (Nat × List Nat × List (Nat × Nat) × List Nat) := [(4, [4, 5], [], [17, 18, 19, 24, 25, 26, 27, 28, 29, 30, 31, 32, 33, 34, 35, 36, 37, 38, 39, 40, 41, 42, 43, 44, 45, 46, 47, 48, 49, 20, 21, 22, 23])]
theorem e41 : ev Tryd.prog ⟨allF, [], l41⟩ (bodyOf Tryd.f41) 0 (initSt [(.val 0)] [] Tryd.f41.ntmps [.sl]) (finK Tryd.prog Tryd.f41.results []) = t41 := by kernel_rfl
theorem c41 {G : List Value} {h : H} {R : Value → List (List Value) → H → Prop} (hG : FitsL [.sl] G) (H : holds Tryd.prog R t41 G [] h) : CallsA Tryd.prog 41 (fun e => SV.denL G (fun k => e (k - 1000000)) [(.val 0)]) ([].map (SV.denL G dE)) h R :=
  CallsA.of_ev (cf := ⟨allF, [], l41⟩) (fn := Tryd.f41) (c := bodyOf Tryd.f41) (pcs := []) Tryd.func41 (by rfl) callOK (by rfl) hG (by rfl) (by rw [show ([] : List (List SV)).map List.length = [] from rfl, e41]; exact H)
/-- What is left of outworker/paths.Ahead. -/
def t42 : Out :=
 (.mk 64 1 24 (.len 0) 
 (.loop 0 [(.int .i64 (.lit 0))] [.int .i64] 
  (.ite (.cmp .lss (.var 2) (.len 0))
   (.need (.tt true) [(.cmp .geq (.var 2) (.lit 0)), (.cmp .lss (.var 2) (.len 0))] 
   (.load (.tt true) (.idx (.var 0) (.var 2) 5) [.sl, .int .u8, .int .i64, .int .i64, .int .i64] 
   (.call 49 [(.agg [(.int .u8 (.var 4)), (.int .i64 (.var 5)), (.int .i64 (.var 6)), (.int .i64 (.var 7))])] [] [] [] [(false, [.sl])] 
   (.loop 1 [(.int .i64 (.lit 0))] [.int .i64] 
    (.ite (.cmp .lss (.var 9) (.len 8))
     (.need (.tt true) [(.cmp .geq (.var 9) (.lit 0)), (.cmp .lss (.var 9) (.len 8))] 
     (.load (.tt true) (.idx (.var 8) (.var 9) 1) [.int .i64] 
     (.need (.tt true) [(.cmp .geq (.var 10) (.lit 0)), (.cmp .lss (.var 10) (.len 1))] 
     (.load (.tt true) (.idx (.var 1) (.var 10) 1) [.sl] 
     (.app 3 1 8 (.val 11) (.cells [(.int .i64 (.var 2))] 1) 
     (.need (.tt true) [(.cmp .geq (.var 10) (.lit 0)), (.cmp .lss (.var 10) (.len 1))] 
     (.store (.idx (.var 1) (.var 10) 1) [(.val 12)] 
     (.again 1 [(.int .i64 (.op .add .i64 (.var 9) (.lit 1)))]))))))))
     (.again 0 [(.int .i64 (.op .add .i64 (.var 2) (.lit 1)))]))))))
   (.done (.val 1) []))))
def l42 : List (Nat × List Nat × List (Nat × Nat) × List Nat) := [(3, [13], [], [14, 15, 16, 17, 5, 4, 18, 19, 20, 21, 22, 23, 24, 25, 7, 26, 27, 28, 29, 30, 31, 32, 33, 34, 35, 36, 37]), (6, [22], [], [23, 24, 25, 7, 26, 27, 28, 29, 30, 31, 32, 33, 34, 35, 36])]
theorem e42 : ev Tryd.prog ⟨allF, [], l42⟩ (bodyOf Tryd.f42) 0 (initSt [(.val 0)] [] Tryd.f42.ntmps [.sl]) (finK Tryd.prog Tryd.f42.results []) = t42 := by kernel_rfl
theorem c42 {G : List Value} {h : H} {R : Value → List (List Value) → H → Prop} (hG : FitsL [.sl] G) (H : holds Tryd.prog R t42 G [] h) : CallsA Tryd.prog 42 (fun e => SV.denL G (fun k => e (k - 1000000)) [(.val 0)]) ([].map (SV.denL G dE)) h R :=
  CallsA.of_ev (cf := ⟨allF, [], l42⟩) (fn := Tryd.f42) (c := bodyOf Tryd.f42) (pcs := []) Tryd.func42 (by rfl) callOK (by rfl) hG (by rfl) (by rw [show ([] : List (List SV)).map List.length = [] from rfl, e42]; exact H)
/-- What is left of outworker/bag.Of[int]. -/
def t45 : Out :=
 (.loop 0 [(.int .i64 (.lit 0)), (.cst (.slice none 0 0))] [.int .i64, .sl] 
  (.ite (.cmp .lss (.var 1) (.len 0))
   (.need (.tt true) [(.cmp .geq (.var 1) (.lit 0)), (.cmp .lss (.var 1) (.len 0))] 
   (.load (.tt true) (.idx (.var 0) (.var 1) 1) [.int .i64] 
   (.call 19 [(.loc 3 0), (.int .i64 (.var 3))] [3] [[(.val 2)]] [[.sl]] [(false, [.bool])] 
   (.again 0 [(.int .i64 (.op .add .i64 (.var 1) (.lit 1))), (.val 4)]))))
   (.done (.agg [(.val 2)]) [])))
def l45 : List (Nat × List Nat × List (Nat × Nat) × List Nat) := [(3, [8], [(3, 0)], [9, 10, 11, 5, 12, 13, 14])]
theorem e45 : ev Tryd.prog ⟨allF, [], l45⟩ (bodyOf Tryd.f45) 0 (initSt [(.val 0)] [] Tryd.f45.ntmps [.sl]) (finK Tryd.prog Tryd.f45.results []) = t45 := by kernel_rfl
theorem c45 {G : List Value} {h : H} {R : Value → List (List Value) → H → Prop} (hG : FitsL [.sl] G) (H : holds Tryd.prog R t45 G [] h) : CallsA Tryd.prog 45 (fun e => SV.denL G (fun k => e (k - 1000000)) [(.val 0)]) ([].map (SV.denL G dE)) h R :=
  CallsA.of_ev (cf := ⟨allF, [], l45⟩) (fn := Tryd.f45) (c := bodyOf Tryd.f45) (pcs := []) Tryd.func45 (by rfl) callOK (by rfl) hG (by rfl) (by rw [show ([] : List (List SV)).map List.length = [] from rfl, e45]; exact H)
/-- What is left of outworker/paths.Next. -/
def t49 : Out :=
 (.ite (.ite (.cmp .eql (.var 0) (.lit 1)) (.cmp .eql (.var 0) (.lit 1)) (.ite (.cmp .eql (.var 0) (.lit 2)) (.cmp .eql (.var 2) (.var 3)) (.tt false)))
  (.alloc 3 [(.int .i64 (.var 2))] (.lsl 1) 
  (.done (.val 4) []))
  (.ite (.cmp .eql (.var 0) (.lit 2))
   (.alloc 3 [(.int .i64 (.var 2)), (.int .i64 (.var 3))] (.lsl 2) 
   (.done (.val 4) []))
   (.done (.cst (.slice none 0 0)) [])))
def l49 : List (Nat × List Nat × List (Nat × Nat) × List Nat) := []
theorem e49 : ev Tryd.prog ⟨allF, [19, 28], l49⟩ (bodyOf Tryd.f49) 0 (initSt [(.agg [(.int .u8 (.var 0)), (.int .i64 (.var 1)), (.int .i64 (.var 2)), (.int .i64 (.var 3))])] [] Tryd.f49.ntmps [.int .u8, .int .i64, .int .i64, .int .i64]) (finK Tryd.prog Tryd.f49.results []) = t49 := by kernel_rfl
theorem c49 {G : List Value} {h : H} {R : Value → List (List Value) → H → Prop} (hG : FitsL [.int .u8, .int .i64, .int .i64, .int .i64] G) (H : holds Tryd.prog R t49 G [] h) : CallsA Tryd.prog 49 (fun e => SV.denL G (fun k => e (k - 1000000)) [(.agg [(.int .u8 (.var 0)), (.int .i64 (.var 1)), (.int .i64 (.var 2)), (.int .i64 (.var 3))])]) ([].map (SV.denL G dE)) h R :=
  CallsA.of_ev (cf := ⟨allF, [19, 28], l49⟩) (fn := Tryd.f49) (c := bodyOf Tryd.f49) (pcs := []) Tryd.func49 (by rfl) callOK (by rfl) hG (by rfl) (by rw [show ([] : List (List SV)).map List.length = [] from rfl, e49]; exact H)
/-- What is left of slices.Clone[[]uint64,uint64]. -/
def t50 : Out :=
 (.ite (.nilp 0)
  (.done (.cst (.slice none 0 0)) [])
  (.alloc 117 [] (.lsl 0) 
  (.app 117 1 8 (.val 1) (.sl (.val 0)) 
  (.done (.val 2) []))))
def l50 : List (Nat × List Nat × List (Nat × Nat) × List Nat) := []
theorem e50 : ev Tryd.prog ⟨allF, [5], l50⟩ (bodyOf Tryd.f50) 0 (initSt [(.val 0)] [] Tryd.f50.ntmps [.sl]) (finK Tryd.prog Tryd.f50.results []) = t50 := by kernel_rfl
theorem c50 {G : List Value} {h : H} {R : Value → List (List Value) → H → Prop} (hG : FitsL [.sl] G) (H : holds Tryd.prog R t50 G [] h) : CallsA Tryd.prog 50 (fun e => SV.denL G (fun k => e (k - 1000000)) [(.val 0)]) ([].map (SV.denL G dE)) h R :=
  CallsA.of_ev (cf := ⟨allF, [5], l50⟩) (fn := Tryd.f50) (c := bodyOf Tryd.f50) (pcs := []) Tryd.func50 (by rfl) callOK (by rfl) hG (by rfl) (by rw [show ([] : List (List SV)).map List.length = [] from rfl, e50]; exact H)
/-- What is left of slices.Equal[[]int,int]. -/
def t51 : Out :=
 (.ite (.cmp .neq (.len 0) (.len 1))
  (.done (.bool (.tt false)) [])
  (.loop 0 [(.int .i64 (.lit 0))] [.int .i64] 
   (.ite (.cmp .lss (.var 2) (.len 0))
    (.need (.tt true) [(.cmp .geq (.var 2) (.lit 0)), (.cmp .lss (.var 2) (.len 0))] 
    (.load (.tt true) (.idx (.var 0) (.var 2) 1) [.int .i64] 
    (.need (.tt true) [(.cmp .geq (.var 2) (.lit 0)), (.cmp .lss (.var 2) (.len 1))] 
    (.load (.tt true) (.idx (.var 1) (.var 2) 1) [.int .i64] 
    (.ite (.cmp .neq (.var 3) (.var 4))
     (.done (.bool (.tt false)) [])
     (.again 0 [(.int .i64 (.op .add .i64 (.var 2) (.lit 1)))]))))))
    (.done (.bool (.tt true)) []))))
def l51 : List (Nat × List Nat × List (Nat × Nat) × List Nat) := [(4, [13], [], [14, 15, 5, 16, 17, 18, 19, 20, 21, 22, 23, 24, 4, 25])]
theorem e51 : ev Tryd.prog ⟨allF, [], l51⟩ (bodyOf Tryd.f51) 0 (initSt [(.val 0), (.val 1)] [] Tryd.f51.ntmps [.sl, .sl]) (finK Tryd.prog Tryd.f51.results []) = t51 := by kernel_rfl
theorem c51 {G : List Value} {h : H} {R : Value → List (List Value) → H → Prop} (hG : FitsL [.sl, .sl] G) (H : holds Tryd.prog R t51 G [] h) : CallsA Tryd.prog 51 (fun e => SV.denL G (fun k => e (k - 1000000)) [(.val 0), (.val 1)]) ([].map (SV.denL G dE)) h R :=
  CallsA.of_ev (cf := ⟨allF, [], l51⟩) (fn := Tryd.f51) (c := bodyOf Tryd.f51) (pcs := []) Tryd.func51 (by rfl) callOK (by rfl) hG (by rfl) (by rw [show ([] : List (List SV)).map List.length = [] from rfl, e51]; exact H)
/-- What is left of math/bits.TrailingZeros64. -/
def t56 : Out :=
 (.ite (.cmp .eql (.var 0) (.lit 0))
  (.done (.int .i64 (.lit 64)) [])
  (.need (.tt true) [(.cmp .geq (.op .shr .u64 (.op .mul .u64 (.op .and .u64 (.var 0) (.op .sub .u64 (.lit 0) (.var 0))) (.lit 285870213051353865)) (.lit 58)) (.lit 0)), (.cmp .lss (.op .shr .u64 (.op .mul .u64 (.op .and .u64 (.var 0) (.op .sub .u64 (.lit 0) (.var 0))) (.lit 285870213051353865)) (.lit 58)) (.lit 64))] 
  (.load (.tt true) (.idx (.glob 0) (.op .shr .u64 (.op .mul .u64 (.op .and .u64 (.var 0) (.op .sub .u64 (.lit 0) (.var 0))) (.lit 285870213051353865)) (.lit 58)) 1) [.int .u8] 
  (.done (.int .i64 (.conv .i64 (.var 1))) []))))
def l56 : List (Nat × List Nat × List (Nat × Nat) × List Nat) := []
theorem e56 : ev Tryd.prog ⟨allF, [], l56⟩ (bodyOf Tryd.f56) 0 (initSt [(.int .u64 (.var 0))] [] Tryd.f56.ntmps [.int .u64]) (finK Tryd.prog Tryd.f56.results []) = t56 := by kernel_rfl
theorem c56 {G : List Value} {h : H} {R : Value → List (List Value) → H → Prop} (hG : FitsL [.int .u64] G) (H : holds Tryd.prog R t56 G [] h) : CallsA Tryd.prog 56 (fun e => SV.denL G (fun k => e (k - 1000000)) [(.int .u64 (.var 0))]) ([].map (SV.denL G dE)) h R :=
  CallsA.of_ev (cf := ⟨allF, [], l56⟩) (fn := Tryd.f56) (c := bodyOf Tryd.f56) (pcs := []) Tryd.func56 (by rfl) callOK (by rfl) hG (by rfl) (by rw [show ([] : List (List SV)).map List.length = [] from rfl, e56]; exact H)
/-- What is left of math/bits.OnesCount64. -/
def t61 : Out :=
 (.done (.int .i64 (.op .and .i64 (.conv .i64 (.op .add .u64 (.op .add .u64 (.op .add .u64 (.op .and .u64 (.op .add .u64 (.op .shr .u64 (.op .add .u64 (.op .and .u64 (.op .shr .u64 (.op .add .u64 (.op .and .u64 (.op .shr .u64 (.var 0) (.lit 1)) (.lit 6148914691236517205)) (.op .and .u64 (.var 0) (.lit 6148914691236517205))) (.lit 2)) (.lit 3689348814741910323)) (.op .and .u64 (.op .add .u64 (.op .and .u64 (.op .shr .u64 (.var 0) (.lit 1)) (.lit 6148914691236517205)) (.op .and .u64 (.var 0) (.lit 6148914691236517205))) (.lit 3689348814741910323))) (.lit 4)) (.op .add .u64 (.op .and .u64 (.op .shr .u64 (.op .add .u64 (.op .and .u64 (.op .shr .u64 (.var 0) (.lit 1)) (.lit 6148914691236517205)) (.op .and .u64 (.var 0) (.lit 6148914691236517205))) (.lit 2)) (.lit 3689348814741910323)) (.op .and .u64 (.op .add .u64 (.op .and .u64 (.op .shr .u64 (.var 0) (.lit 1)) (.lit 6148914691236517205)) (.op .and .u64 (.var 0) (.lit 6148914691236517205))) (.lit 3689348814741910323)))) (.lit 1085102592571150095)) (.op .shr .u64 (.op .and .u64 (.op .add .u64 (.op .shr .u64 (.op .add .u64 (.op .and .u64 (.op .shr .u64 (.op .add .u64 (.op .and .u64 (.op .shr .u64 (.var 0) (.lit 1)) (.lit 6148914691236517205)) (.op .and .u64 (.var 0) (.lit 6148914691236517205))) (.lit 2)) (.lit 3689348814741910323)) (.op .and .u64 (.op .add .u64 (.op .and .u64 (.op .shr .u64 (.var 0) (.lit 1)) (.lit 6148914691236517205)) (.op .and .u64 (.var 0) (.lit 6148914691236517205))) (.lit 3689348814741910323))) (.lit 4)) (.op .add .u64 (.op .and .u64 (.op .shr .u64 (.op .add .u64 (.op .and .u64 (.op .shr .u64 (.var 0) (.lit 1)) (.lit 6148914691236517205)) (.op .and .u64 (.var 0) (.lit 6148914691236517205))) (.lit 2)) (.lit 3689348814741910323)) (.op .and .u64 (.op .add .u64 (.op .and .u64 (.op .shr .u64 (.var 0) (.lit 1)) (.lit 6148914691236517205)) (.op .and .u64 (.var 0) (.lit 6148914691236517205))) (.lit 3689348814741910323)))) (.lit 1085102592571150095)) (.lit 8))) (.op .shr .u64 (.op .add .u64 (.op .and .u64 (.op .add .u64 (.op .shr .u64 (.op .add .u64 (.op .and .u64 (.op .shr .u64 (.op .add .u64 (.op .and .u64 (.op .shr .u64 (.var 0) (.lit 1)) (.lit 6148914691236517205)) (.op .and .u64 (.var 0) (.lit 6148914691236517205))) (.lit 2)) (.lit 3689348814741910323)) (.op .and .u64 (.op .add .u64 (.op .and .u64 (.op .shr .u64 (.var 0) (.lit 1)) (.lit 6148914691236517205)) (.op .and .u64 (.var 0) (.lit 6148914691236517205))) (.lit 3689348814741910323))) (.lit 4)) (.op .add .u64 (.op .and .u64 (.op .shr .u64 (.op .add .u64 (.op .and .u64 (.op .shr .u64 (.var 0) (.lit 1)) (.lit 6148914691236517205)) (.op .and .u64 (.var 0) (.lit 6148914691236517205))) (.lit 2)) (.lit 3689348814741910323)) (.op .and .u64 (.op .add .u64 (.op .and .u64 (.op .shr .u64 (.var 0) (.lit 1)) (.lit 6148914691236517205)) (.op .and .u64 (.var 0) (.lit 6148914691236517205))) (.lit 3689348814741910323)))) (.lit 1085102592571150095)) (.op .shr .u64 (.op .and .u64 (.op .add .u64 (.op .shr .u64 (.op .add .u64 (.op .and .u64 (.op .shr .u64 (.op .add .u64 (.op .and .u64 (.op .shr .u64 (.var 0) (.lit 1)) (.lit 6148914691236517205)) (.op .and .u64 (.var 0) (.lit 6148914691236517205))) (.lit 2)) (.lit 3689348814741910323)) (.op .and .u64 (.op .add .u64 (.op .and .u64 (.op .shr .u64 (.var 0) (.lit 1)) (.lit 6148914691236517205)) (.op .and .u64 (.var 0) (.lit 6148914691236517205))) (.lit 3689348814741910323))) (.lit 4)) (.op .add .u64 (.op .and .u64 (.op .shr .u64 (.op .add .u64 (.op .and .u64 (.op .shr .u64 (.var 0) (.lit 1)) (.lit 6148914691236517205)) (.op .and .u64 (.var 0) (.lit 6148914691236517205))) (.lit 2)) (.lit 3689348814741910323)) (.op .and .u64 (.op .add .u64 (.op .and .u64 (.op .shr .u64 (.var 0) (.lit 1)) (.lit 6148914691236517205)) (.op .and .u64 (.var 0) (.lit 6148914691236517205))) (.lit 3689348814741910323)))) (.lit 1085102592571150095)) (.lit 8))) (.lit 16))) (.op .shr .u64 (.op .add .u64 (.op .add .u64 (.op .and .u64 (.op .add .u64 (.op .shr .u64 (.op .add .u64 (.op .and .u64 (.op .shr .u64 (.op .add .u64 (.op .and .u64 (.op .shr .u64 (.var 0) (.lit 1)) (.lit 6148914691236517205)) (.op .and .u64 (.var 0) (.lit 6148914691236517205))) (.lit 2)) (.lit 3689348814741910323)) (.op .and .u64 (.op .add .u64 (.op .and .u64 (.op .shr .u64 (.var 0) (.lit 1)) (.lit 6148914691236517205)) (.op .and .u64 (.var 0) (.lit 6148914691236517205))) (.lit 3689348814741910323))) (.lit 4)) (.op .add .u64 (.op .and .u64 (.op .shr .u64 (.op .add .u64 (.op .and .u64 (.op .shr .u64 (.var 0) (.lit 1)) (.lit 6148914691236517205)) (.op .and .u64 (.var 0) (.lit 6148914691236517205))) (.lit 2)) (.lit 3689348814741910323)) (.op .and .u64 (.op .add .u64 (.op .and .u64 (.op .shr .u64 (.var 0) (.lit 1)) (.lit 6148914691236517205)) (.op .and .u64 (.var 0) (.lit 6148914691236517205))) (.lit 3689348814741910323)))) (.lit 1085102592571150095)) (.op .shr .u64 (.op .and .u64 (.op .add .u64 (.op .shr .u64 (.op .add .u64 (.op .and .u64 (.op .shr .u64 (.op .add .u64 (.op .and .u64 (.op .shr .u64 (.var 0) (.lit 1)) (.lit 6148914691236517205)) (.op .and .u64 (.var 0) (.lit 6148914691236517205))) (.lit 2)) (.lit 3689348814741910323)) (.op .and .u64 (.op .add .u64 (.op .and .u64 (.op .shr .u64 (.var 0) (.lit 1)) (.lit 6148914691236517205)) (.op .and .u64 (.var 0) (.lit 6148914691236517205))) (.lit 3689348814741910323))) (.lit 4)) (.op .add .u64 (.op .and .u64 (.op .shr .u64 (.op .add .u64 (.op .and .u64 (.op .shr .u64 (.var 0) (.lit 1)) (.lit 6148914691236517205)) (.op .and .u64 (.var 0) (.lit 6148914691236517205))) (.lit 2)) (.lit 3689348814741910323)) (.op .and .u64 (.op .add .u64 (.op .and .u64 (.op .shr .u64 (.var 0) (.lit 1)) (.lit 6148914691236517205)) (.op .and .u64 (.var 0) (.lit 6148914691236517205))) (.lit 3689348814741910323)))) (.lit 1085102592571150095)) (.lit 8))) (.op .shr .u64 (.op .add .u64 (.op .and .u64 (.op .add .u64 (.op .shr .u64 (.op .add .u64 (.op .and .u64 (.op .shr .u64 (.op .add .u64 (.op .and .u64 (.op .shr .u64 (.var 0) (.lit 1)) (.lit 6148914691236517205)) (.op .and .u64 (.var 0) (.lit 6148914691236517205))) (.lit 2)) (.lit 3689348814741910323)) (.op .and .u64 (.op .add .u64 (.op .and .u64 (.op .shr .u64 (.var 0) (.lit 1)) (.lit 6148914691236517205)) (.op .and .u64 (.var 0) (.lit 6148914691236517205))) (.lit 3689348814741910323))) (.lit 4)) (.op .add .u64 (.op .and .u64 (.op .shr .u64 (.op .add .u64 (.op .and .u64 (.op .shr .u64 (.var 0) (.lit 1)) (.lit 6148914691236517205)) (.op .and .u64 (.var 0) (.lit 6148914691236517205))) (.lit 2)) (.lit 3689348814741910323)) (.op .and .u64 (.op .add .u64 (.op .and .u64 (.op .shr .u64 (.var 0) (.lit 1)) (.lit 6148914691236517205)) (.op .and .u64 (.var 0) (.lit 6148914691236517205))) (.lit 3689348814741910323)))) (.lit 1085102592571150095)) (.op .shr .u64 (.op .and .u64 (.op .add .u64 (.op .shr .u64 (.op .add .u64 (.op .and .u64 (.op .shr .u64 (.op .add .u64 (.op .and .u64 (.op .shr .u64 (.var 0) (.lit 1)) (.lit 6148914691236517205)) (.op .and .u64 (.var 0) (.lit 6148914691236517205))) (.lit 2)) (.lit 3689348814741910323)) (.op .and .u64 (.op .add .u64 (.op .and .u64 (.op .shr .u64 (.var 0) (.lit 1)) (.lit 6148914691236517205)) (.op .and .u64 (.var 0) (.lit 6148914691236517205))) (.lit 3689348814741910323))) (.lit 4)) (.op .add .u64 (.op .and .u64 (.op .shr .u64 (.op .add .u64 (.op .and .u64 (.op .shr .u64 (.var 0) (.lit 1)) (.lit 6148914691236517205)) (.op .and .u64 (.var 0) (.lit 6148914691236517205))) (.lit 2)) (.lit 3689348814741910323)) (.op .and .u64 (.op .add .u64 (.op .and .u64 (.op .shr .u64 (.var 0) (.lit 1)) (.lit 6148914691236517205)) (.op .and .u64 (.var 0) (.lit 6148914691236517205))) (.lit 3689348814741910323)))) (.lit 1085102592571150095)) (.lit 8))) (.lit 16))) (.lit 32)))) (.lit 127))) [])
def l61 : List (Nat × List Nat × List (Nat × Nat) × List Nat) := []
theorem e61 : ev Tryd.prog ⟨allF, [], l61⟩ (bodyOf Tryd.f61) 0 (initSt [(.int .u64 (.var 0))] [] Tryd.f61.ntmps [.int .u64]) (finK Tryd.prog Tryd.f61.results []) = t61 := by kernel_rfl
theorem c61 {G : List Value} {h : H} {R : Value → List (List Value) → H → Prop} (hG : FitsL [.int .u64] G) (H : holds Tryd.prog R t61 G [] h) : CallsA Tryd.prog 61 (fun e => SV.denL G (fun k => e (k - 1000000)) [(.int .u64 (.var 0))]) ([].map (SV.denL G dE)) h R :=
  CallsA.of_ev (cf := ⟨allF, [], l61⟩) (fn := Tryd.f61) (c := bodyOf Tryd.f61) (pcs := []) Tryd.func61 (by rfl) callOK (by rfl) hG (by rfl) (by rw [show ([] : List (List SV)).map List.length = [] from rfl, e61]; exact H)
end Go.Proofs.YtgcaicdmjbkplaaDoor
