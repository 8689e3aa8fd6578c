/-
  What the evaluator leaves of the functions of this seat (trees, printed by a program of ours), and their contracts from it. Conditions: none.
-/
import Derived.Test.YtbbicdfipheaeaaEc
import Derived.Test.YtbbicdfipheaeaaProg
set_option linter.unusedVariables false
set_option linter.unusedSimpArgs false
namespace Go.Proofs.Ytbbicdfipheaeaa
open Go

def bodyOf (fn : Func) : Code := match fn.body with | some c => c | none => .seq (.exit 0) (.exit 0)
def allF : List Nat := [2, 3, 4, 5, 6, 7, 8, 9, 10, 11, 12, 13, 14, 15, 16, 17, 18, 19, 20, 21, 22, 23, 24, 25]
theorem callOK : CallOK Try.prog allF := by
  intro f hf args w
  simp only [allF, List.mem_cons, List.not_mem_nil, or_false] at hf
  rcases hf with rfl | rfl | rfl | rfl | rfl | rfl | rfl | rfl | rfl | rfl | rfl | rfl | rfl | rfl | rfl | rfl | rfl | rfl | rfl | rfl | rfl | rfl | rfl | rfl
  · exact Try.call2 args w
  · exact Try.call3 args w
  · exact Try.call4 args w
  · exact Try.call5 args w
  · exact Try.call6 args w
  · exact Try.call7 args w
  · exact Try.call8 args w
  · exact Try.call9 args w
  · exact Try.call10 args w
  · exact Try.call11 args w
  · exact Try.call12 args w
  · exact Try.call13 args w
  · exact Try.call14 args w
  · exact Try.call15 args w
  · exact Try.call16 args w
  · exact Try.call17 args w
  · exact Try.call18 args w
  · exact Try.call19 args w
  · exact Try.call20 args w
  · exact Try.call21 args w
  · exact Try.call22 args w
  · exact Try.call23 args w
  · exact Try.call24 args w
  · exact Try.call25 args w
/-- What is left of outworker/outworkerlaw04.Made. -/
def t5 : Out :=
 (.loop 0 [(.int .i64 (.lit 0)), (.val 3), (.cst (.slice none 0 0))] [.int .i64, .sl, .sl] 
  (.ite (.cmp .lss (.var 4) (.op .add .i64 (.lit 1) (.conv .i64 (.op .rem .u8 (.var 2) (.lit 7)))))
   (.call 17 [(.loc 24 0), (.int .i64 (.lit 9))] [24] [[(.val 5)]] [[.sl]] [(false, [.int .i64])] 
   (.loop 1 [(.int .i64 (.lit 0)), (.cst (.slice none 0 0)), (.val 7)] [.int .i64, .sl, .sl] 
    (.ite (.cmp .lss (.var 9) (.var 8))
     (.call 18 [(.loc 24 0), (.int .i64 (.op .add .i64 (.ite (.cmp .gtr (.lit 1) (.conv .i64 (.op .rem .u8 (.var 0) (.lit 5)))) (.lit 1) (.conv .i64 (.op .rem .u8 (.var 0) (.lit 5)))) (.conv .i64 (.op .rem .u8 (.var 1) (.lit 28)))))] [24] [[(.val 11)]] [[.sl]] [(true, [.int .u8, .int .u8, .int .i64, .int .i64, .int .i64, .int .i64, .sl])] 
     (.app 56 7 64 (.val 10) (.cells [(.int .u8 (.var 13)), (.int .u8 (.var 14)), (.int .i64 (.var 15)), (.int .i64 (.var 16)), (.int .i64 (.var 17)), (.int .i64 (.var 18)), (.val 19)] 1) 
     (.again 1 [(.int .i64 (.op .add .i64 (.var 9) (.lit 1))), (.val 20), (.val 12)])))
     (.call 17 [(.loc 24 0), (.int .i64 (.lit 4))] [24] [[(.val 11)]] [[.sl]] [(false, [.int .i64])] 
     (.ite (.cmp .eql (.var 13) (.lit 1))
      (.call 17 [(.loc 24 0), (.int .i64 (.op .add .i64 (.lit 1) (.conv .i64 (.op .rem .u8 (.var 2) (.lit 7)))))] [24] [[(.val 12)]] [[.sl]] [(false, [.int .i64])] 
      (.app 46 5 56 (.val 6) (.cells [(.val 10), (.int .u8 (.lit 1)), (.int .i64 (.lit 0)), (.int .i64 (.var 15)), (.int .i64 (.lit 0))] 1) 
      (.again 0 [(.int .i64 (.op .add .i64 (.var 4) (.lit 1))), (.val 14), (.val 16)])))
      (.ite (.ite (.cmp .eql (.var 13) (.lit 2)) (.cmp .eql (.var 13) (.lit 2)) (.cmp .eql (.var 13) (.lit 3)))
       (.call 17 [(.loc 24 0), (.int .i64 (.op .add .i64 (.ite (.cmp .gtr (.lit 1) (.conv .i64 (.op .rem .u8 (.var 0) (.lit 5)))) (.lit 1) (.conv .i64 (.op .rem .u8 (.var 0) (.lit 5)))) (.conv .i64 (.op .rem .u8 (.var 1) (.lit 28)))))] [24] [[(.val 12)]] [[.sl]] [(false, [.int .i64])] 
       (.call 17 [(.loc 24 0), (.int .i64 (.op .add .i64 (.lit 1) (.conv .i64 (.op .rem .u8 (.var 2) (.lit 7)))))] [24] [[(.val 14)]] [[.sl]] [(false, [.int .i64])] 
       (.call 17 [(.loc 24 0), (.int .i64 (.op .add .i64 (.lit 1) (.conv .i64 (.op .rem .u8 (.var 2) (.lit 7)))))] [24] [[(.val 16)]] [[.sl]] [(false, [.int .i64])] 
       (.app 46 5 56 (.val 6) (.cells [(.val 10), (.int .u8 (.lit 2)), (.int .i64 (.var 15)), (.int .i64 (.var 17)), (.int .i64 (.var 19))] 1) 
       (.again 0 [(.int .i64 (.op .add .i64 (.var 4) (.lit 1))), (.val 18), (.val 20)])))))
       (.call 17 [(.loc 24 0), (.int .i64 (.op .add .i64 (.ite (.cmp .gtr (.lit 1) (.conv .i64 (.op .rem .u8 (.var 0) (.lit 5)))) (.lit 1) (.conv .i64 (.op .rem .u8 (.var 0) (.lit 5)))) (.conv .i64 (.op .rem .u8 (.var 1) (.lit 28)))))] [24] [[(.val 12)]] [[.sl]] [(false, [.int .i64])] 
       (.app 46 5 56 (.val 6) (.cells [(.val 10), (.int .u8 (.lit 3)), (.int .i64 (.var 15)), (.int .i64 (.lit 0)), (.int .i64 (.lit 0))] 1) 
       (.again 0 [(.int .i64 (.op .add .i64 (.var 4) (.lit 1))), (.val 14), (.val 16)])))))))))
   (.done (.agg [(.int .i64 (.conv .i64 (.op .rem .u8 (.var 0) (.lit 5)))), (.int .i64 (.op .add .i64 (.ite (.cmp .gtr (.lit 1) (.conv .i64 (.op .rem .u8 (.var 0) (.lit 5)))) (.lit 1) (.conv .i64 (.op .rem .u8 (.var 0) (.lit 5)))) (.conv .i64 (.op .rem .u8 (.var 1) (.lit 28))))), (.val 6)]) [])))
def l5 : List (Nat × List Nat × List (Nat × Nat) × List Nat) := [(6, [31], [(24, 0), (3, 2)], [32, 6, 33, 34, 35, 36, 37, 38, 39, 40, 41, 42, 43, 44, 45, 46, 47, 48, 56, 55, 57, 58, 59, 60, 61, 63, 62, 64, 65, 66, 67, 68, 69, 70, 71, 72, 73, 74, 75, 76, 49, 50, 51, 52, 53, 54, 77, 78, 79, 80, 81, 82, 83]), (9, [35], [(6, 0), (24, 0)], [36, 37, 38, 39, 40, 41, 42, 43, 44, 45, 46])]
theorem e5 : ev Try.prog ⟨allF, [], l5⟩ (bodyOf Try.f5) 0 (initSt [(.agg [(.int .u8 (.var 0)), (.int .u8 (.var 1)), (.int .u8 (.var 2)), (.val 3)])] [] Try.f5.ntmps [.int .u8, .int .u8, .int .u8, .sl]) (finK Try.prog Try.f5.results []) = t5 := by kernel_rfl
theorem c5 {G : List Value} {h : H} {R : Value → List (List Value) → H → Prop} (hG : FitsL [.int .u8, .int .u8, .int .u8, .sl] G) (H : holds Try.prog R t5 G [] h) : CallsA Try.prog 5 (fun e => SV.denL G (fun k => e (k - 1000000)) [(.agg [(.int .u8 (.var 0)), (.int .u8 (.var 1)), (.int .u8 (.var 2)), (.val 3)])]) ([].map (SV.denL G dE)) h R :=
  CallsA.of_ev (cf := ⟨allF, [], l5⟩) (fn := Try.f5) (c := bodyOf Try.f5) (pcs := []) Try.func5 (by rfl) callOK (by rfl) hG (by rfl) (by rw [show ([] : List (List SV)).map List.length = [] from rfl, e5]; exact H)
/-- What is left of outworker/outworkerref10.Next. -/
def t11 : Out :=
 (.ite (.cmp .eql (.var 0) (.lit 1))
  (.alloc 3 [(.int .i64 (.var 2))] (.lsl 1) 
  (.done (.val 4) []))
  (.ite (.cmp .eql (.var 0) (.lit 2))
   (.ite (.cmp .eql (.var 2) (.var 3))
    (.alloc 3 [(.int .i64 (.var 2))] (.lsl 1) 
    (.done (.val 4) []))
    (.alloc 3 [(.int .i64 (.var 2)), (.int .i64 (.var 3))] (.lsl 2) 
    (.done (.val 4) [])))
   (.done (.cst (.slice none 0 0)) [])))
def l11 : List (Nat × List Nat × List (Nat × Nat) × List Nat) := []
theorem e11 : ev Try.prog ⟨allF, [9, 19, 24], l11⟩ (bodyOf Try.f11) 0 (initSt [(.agg [(.int .u8 (.var 0)), (.int .i64 (.var 1)), (.int .i64 (.var 2)), (.int .i64 (.var 3))])] [] Try.f11.ntmps [.int .u8, .int .i64, .int .i64, .int .i64]) (finK Try.prog Try.f11.results []) = t11 := by kernel_rfl
theorem c11 {G : List Value} {h : H} {R : Value → List (List Value) → H → Prop} (hG : FitsL [.int .u8, .int .i64, .int .i64, .int .i64] G) (H : holds Try.prog R t11 G [] h) : CallsA Try.prog 11 (fun e => SV.denL G (fun k => e (k - 1000000)) [(.agg [(.int .u8 (.var 0)), (.int .i64 (.var 1)), (.int .i64 (.var 2)), (.int .i64 (.var 3))])]) ([].map (SV.denL G dE)) h R :=
  CallsA.of_ev (cf := ⟨allF, [9, 19, 24], l11⟩) (fn := Try.f11) (c := bodyOf Try.f11) (pcs := []) Try.func11 (by rfl) callOK (by rfl) hG (by rfl) (by rw [show ([] : List (List SV)).map List.length = [] from rfl, e11]; exact H)
/-- What is left of outworker/outworkerref10.In. -/
def t12 : Out :=
 (.loop 0 [(.int .i64 (.lit 0))] [.int .i64] 
  (.ite (.cmp .lss (.var 2) (.len 0))
   (.need (.tt true) [(.cmp .geq (.var 2) (.lit 0)), (.cmp .lss (.var 2) (.len 0))] 
   (.load (.tt true) (.idx (.var 0) (.var 2) 1) [.int .i64] 
   (.ite (.cmp .eql (.var 3) (.var 1))
    (.done (.bool (.tt true)) [])
    (.again 0 [(.int .i64 (.op .add .i64 (.var 2) (.lit 1)))]))))
   (.done (.bool (.tt false)) [])))
def l12 : List (Nat × List Nat × List (Nat × Nat) × List Nat) := [(2, [5], [], [6, 7, 8, 9, 12, 13, 14, 15, 16, 17, 4, 10, 11])]
theorem e12 : ev Try.prog ⟨allF, [], l12⟩ (bodyOf Try.f12) 0 (initSt [(.val 0), (.int .i64 (.var 1))] [] Try.f12.ntmps [.sl, .int .i64]) (finK Try.prog Try.f12.results []) = t12 := by kernel_rfl
theorem c12 {G : List Value} {h : H} {R : Value → List (List Value) → H → Prop} (hG : FitsL [.sl, .int .i64] G) (H : holds Try.prog R t12 G [] h) : CallsA Try.prog 12 (fun e => SV.denL G (fun k => e (k - 1000000)) [(.val 0), (.int .i64 (.var 1))]) ([].map (SV.denL G dE)) h R :=
  CallsA.of_ev (cf := ⟨allF, [], l12⟩) (fn := Try.f12) (c := bodyOf Try.f12) (pcs := []) Try.func12 (by rfl) callOK (by rfl) hG (by rfl) (by rw [show ([] : List (List SV)).map List.length = [] from rfl, e12]; exact H)
/-- What is left of outworker/paths.Next. -/
def t23 : Out :=
 (.ite (.ite (.cmp .eql (.var 0) (.lit 1)) (.cmp .eql (.var 0) (.lit 1)) (.ite (.cmp .eql (.var 0) (.lit 2)) (.cmp .eql (.var 2) (.var 3)) (.tt false)))
  (.alloc 3 [(.int .i64 (.var 2))] (.lsl 1) 
  (.done (.val 4) []))
  (.ite (.cmp .eql (.var 0) (.lit 2))
   (.alloc 3 [(.int .i64 (.var 2)), (.int .i64 (.var 3))] (.lsl 2) 
   (.done (.val 4) []))
   (.done (.cst (.slice none 0 0)) [])))
def l23 : List (Nat × List Nat × List (Nat × Nat) × List Nat) := []
theorem e23 : ev Try.prog ⟨allF, [19, 28], l23⟩ (bodyOf Try.f23) 0 (initSt [(.agg [(.int .u8 (.var 0)), (.int .i64 (.var 1)), (.int .i64 (.var 2)), (.int .i64 (.var 3))])] [] Try.f23.ntmps [.int .u8, .int .i64, .int .i64, .int .i64]) (finK Try.prog Try.f23.results []) = t23 := by kernel_rfl
theorem c23 {G : List Value} {h : H} {R : Value → List (List Value) → H → Prop} (hG : FitsL [.int .u8, .int .i64, .int .i64, .int .i64] G) (H : holds Try.prog R t23 G [] h) : CallsA Try.prog 23 (fun e => SV.denL G (fun k => e (k - 1000000)) [(.agg [(.int .u8 (.var 0)), (.int .i64 (.var 1)), (.int .i64 (.var 2)), (.int .i64 (.var 3))])]) ([].map (SV.denL G dE)) h R :=
  CallsA.of_ev (cf := ⟨allF, [19, 28], l23⟩) (fn := Try.f23) (c := bodyOf Try.f23) (pcs := []) Try.func23 (by rfl) callOK (by rfl) hG (by rfl) (by rw [show ([] : List (List SV)).map List.length = [] from rfl, e23]; exact H)
/-- What is left of outworker/outworkerref10.Ahead. -/
def t25 : Out :=
 (.loop 0 [(.cst (.slice none 0 0)), (.int .i64 (.lit 0))] [.sl, .int .i64] 
  (.ite (.cmp .lss (.var 3) (.len 0))
   (.need (.tt true) [(.cmp .geq (.var 3) (.lit 0)), (.cmp .lss (.var 3) (.len 0))] 
   (.load (.tt true) (.fld (.idx (.var 0) (.var 3) 5) 1) [.int .u8, .int .i64, .int .i64, .int .i64] 
   (.call 11 [(.agg [(.int .u8 (.var 4)), (.int .i64 (.var 5)), (.int .i64 (.var 6)), (.int .i64 (.var 7))])] [] [] [] [(false, [.sl])] 
   (.call 12 [(.val 8), (.int .i64 (.var 1))] [] [] [] [(false, [.bool])] 
   (.ite (.var 9)
    (.app 3 1 8 (.val 2) (.cells [(.int .i64 (.var 3))] 1) 
    (.again 0 [(.val 10), (.int .i64 (.op .add .i64 (.var 3) (.lit 1)))]))
    (.again 0 [(.val 2), (.int .i64 (.op .add .i64 (.var 3) (.lit 1)))]))))))
   (.done (.val 2) [])))
def l25 : List (Nat × List Nat × List (Nat × Nat) × List Nat) := [(3, [5, 6], [], [7, 8, 9, 10, 13, 14, 15, 16, 17, 18, 19, 20, 21, 22, 23, 24, 11, 12])]
theorem e25 : ev Try.prog ⟨allF, [], l25⟩ (bodyOf Try.f25) 0 (initSt [(.val 0), (.int .i64 (.var 1))] [] Try.f25.ntmps [.sl, .int .i64]) (finK Try.prog Try.f25.results []) = t25 := by kernel_rfl
theorem c25 {G : List Value} {h : H} {R : Value → List (List Value) → H → Prop} (hG : FitsL [.sl, .int .i64] G) (H : holds Try.prog R t25 G [] h) : CallsA Try.prog 25 (fun e => SV.denL G (fun k => e (k - 1000000)) [(.val 0), (.int .i64 (.var 1))]) ([].map (SV.denL G dE)) h R :=
  CallsA.of_ev (cf := ⟨allF, [], l25⟩) (fn := Try.f25) (c := bodyOf Try.f25) (pcs := []) Try.func25 (by rfl) callOK (by rfl) hG (by rfl) (by rw [show ([] : List (List SV)).map List.length = [] from rfl, e25]; exact H)
/-- What is left of outworker/outworkerlaw11.FlowLeast$1. -/
def t8 : Out :=
 (.ite (.cmp .eql (.var 0) (.lit 0))
  (.done (.int .i64 (.lit 0)) [])
  (.done (.int .i64 (.lit 99)) []))
def l8 : List (Nat × List Nat × List (Nat × Nat) × List Nat) := []
theorem e8 : ev Try.prog ⟨allF, [], l8⟩ (bodyOf Try.f8) 0 (initSt [(.int .i64 (.var 0))] [] Try.f8.ntmps [.int .i64]) (finK Try.prog Try.f8.results []) = t8 := by kernel_rfl
theorem c8 {G : List Value} {h : H} {R : Value → List (List Value) → H → Prop} (hG : FitsL [.int .i64] G) (H : holds Try.prog R t8 G [] h) : CallsA Try.prog 8 (fun e => SV.denL G (fun k => e (k - 1000000)) [(.int .i64 (.var 0))]) ([].map (SV.denL G dE)) h R :=
  CallsA.of_ev (cf := ⟨allF, [], l8⟩) (fn := Try.f8) (c := bodyOf Try.f8) (pcs := []) Try.func8 (by rfl) callOK (by rfl) hG (by rfl) (by rw [show ([] : List (List SV)).map List.length = [] from rfl, e8]; exact H)
/-- What is left of outworker/outworkerlaw11.FlowLeast$3. -/
def t10 : Out :=
 (.done (.int .i64 (.ite (.cmp .lss (.lit 99) (.op .add .i64 (.var 1) (.lit 1))) (.lit 99) (.op .add .i64 (.var 1) (.lit 1)))) [])
def l10 : List (Nat × List Nat × List (Nat × Nat) × List Nat) := []
theorem e10 : ev Try.prog ⟨allF, [], l10⟩ (bodyOf Try.f10) 0 (initSt [(.int .i64 (.var 0)), (.int .i64 (.var 1))] [] Try.f10.ntmps [.int .i64, .int .i64]) (finK Try.prog Try.f10.results []) = t10 := by kernel_rfl
theorem c10 {G : List Value} {h : H} {R : Value → List (List Value) → H → Prop} (hG : FitsL [.int .i64, .int .i64] G) (H : holds Try.prog R t10 G [] h) : CallsA Try.prog 10 (fun e => SV.denL G (fun k => e (k - 1000000)) [(.int .i64 (.var 0)), (.int .i64 (.var 1))]) ([].map (SV.denL G dE)) h R :=
  CallsA.of_ev (cf := ⟨allF, [], l10⟩) (fn := Try.f10) (c := bodyOf Try.f10) (pcs := []) Try.func10 (by rfl) callOK (by rfl) hG (by rfl) (by rw [show ([] : List (List SV)).map List.length = [] from rfl, e10]; exact H)
/-- What is left of outworker/outworkerlaw11.Awake$2. -/
def t14 : Out :=
 (.alloc 3 [(.int .i64 (.lit 1)), (.int .i64 (.lit 0)), (.int .i64 (.lit 0))] (.lsl 3) 
 (.need (.tt true) [(.cmp .geq (.var 0) (.lit 0)), (.cmp .lss (.var 0) (.len 1))] 
 (.load (.tt true) (.idx (.var 1) (.var 0) 1) [.int .i64] 
 (.done (.int .i64 (.var 2)) []))))
def l14 : List (Nat × List Nat × List (Nat × Nat) × List Nat) := []
theorem e14 : ev Try.prog ⟨allF, [3], l14⟩ (bodyOf Try.f14) 0 (initSt [(.int .i64 (.var 0))] [] Try.f14.ntmps [.int .i64]) (finK Try.prog Try.f14.results []) = t14 := by kernel_rfl
theorem c14 {G : List Value} {h : H} {R : Value → List (List Value) → H → Prop} (hG : FitsL [.int .i64] G) (H : holds Try.prog R t14 G [] h) : CallsA Try.prog 14 (fun e => SV.denL G (fun k => e (k - 1000000)) [(.int .i64 (.var 0))]) ([].map (SV.denL G dE)) h R :=
  CallsA.of_ev (cf := ⟨allF, [3], l14⟩) (fn := Try.f14) (c := bodyOf Try.f14) (pcs := []) Try.func14 (by rfl) callOK (by rfl) hG (by rfl) (by rw [show ([] : List (List SV)).map List.length = [] from rfl, e14]; exact H)
/-- What is left of outworker/outworkerlaw11.Awake$4. -/
def t16 : Out :=
 (.done (.int .i64 (.op .add .i64 (.var 1) (.lit 1))) [])
def l16 : List (Nat × List Nat × List (Nat × Nat) × List Nat) := []
theorem e16 : ev Try.prog ⟨allF, [], l16⟩ (bodyOf Try.f16) 0 (initSt [(.int .i64 (.var 0)), (.int .i64 (.var 1))] [] Try.f16.ntmps [.int .i64, .int .i64]) (finK Try.prog Try.f16.results []) = t16 := by kernel_rfl
theorem c16 {G : List Value} {h : H} {R : Value → List (List Value) → H → Prop} (hG : FitsL [.int .i64, .int .i64] G) (H : holds Try.prog R t16 G [] h) : CallsA Try.prog 16 (fun e => SV.denL G (fun k => e (k - 1000000)) [(.int .i64 (.var 0)), (.int .i64 (.var 1))]) ([].map (SV.denL G dE)) h R :=
  CallsA.of_ev (cf := ⟨allF, [], l16⟩) (fn := Try.f16) (c := bodyOf Try.f16) (pcs := []) Try.func16 (by rfl) callOK (by rfl) hG (by rfl) (by rw [show ([] : List (List SV)).map List.length = [] from rfl, e16]; exact H)
/-- What is left of outworker/outworkerlaw11.ahead$1. -/
def t22 : Out :=
 (.load (.tt true) (.var 1) [.sl] 
 (.need (.tt true) [(.cmp .geq (.var 0) (.lit 0)), (.cmp .lss (.var 0) (.len 2))] 
 (.load (.tt true) (.fld (.idx (.var 2) (.var 0) 5) 1) [.int .u8, .int .i64, .int .i64, .int .i64] 
 (.call 23 [(.agg [(.int .u8 (.var 3)), (.int .i64 (.var 4)), (.int .i64 (.var 5)), (.int .i64 (.var 6))])] [] [] [] [(false, [.sl])] 
 (.done (.val 7) [])))))
def l22 : List (Nat × List Nat × List (Nat × Nat) × List Nat) := []
theorem e22 : ev Try.prog ⟨allF, [], l22⟩ (bodyOf Try.f22) 0 (initSt [(.int .i64 (.var 0)), (.ptr (.var 1))] [] Try.f22.ntmps [.int .i64, .ptr]) (finK Try.prog Try.f22.results []) = t22 := by kernel_rfl
theorem c22 {G : List Value} {h : H} {R : Value → List (List Value) → H → Prop} (hG : FitsL [.int .i64, .ptr] G) (H : holds Try.prog R t22 G [] h) : CallsA Try.prog 22 (fun e => SV.denL G (fun k => e (k - 1000000)) [(.int .i64 (.var 0)), (.ptr (.var 1))]) ([].map (SV.denL G dE)) h R :=
  CallsA.of_ev (cf := ⟨allF, [], l22⟩) (fn := Try.f22) (c := bodyOf Try.f22) (pcs := []) Try.func22 (by rfl) callOK (by rfl) hG (by rfl) (by rw [show ([] : List (List SV)).map List.length = [] from rfl, e22]; exact H)
/-- What is left of outworker/outworkerlaw11.ahead$2. -/
def t24 : Out :=
 (.load (.tt true) (.var 1) [.sl] 
 (.call 25 [(.val 2), (.int .i64 (.var 0))] [] [] [] [(false, [.sl])] 
 (.done (.val 3) [])))
def l24 : List (Nat × List Nat × List (Nat × Nat) × List Nat) := []
theorem e24 : ev Try.prog ⟨allF, [], l24⟩ (bodyOf Try.f24) 0 (initSt [(.int .i64 (.var 0)), (.ptr (.var 1))] [] Try.f24.ntmps [.int .i64, .ptr]) (finK Try.prog Try.f24.results []) = t24 := by kernel_rfl
theorem c24 {G : List Value} {h : H} {R : Value → List (List Value) → H → Prop} (hG : FitsL [.int .i64, .ptr] G) (H : holds Try.prog R t24 G [] h) : CallsA Try.prog 24 (fun e => SV.denL G (fun k => e (k - 1000000)) [(.int .i64 (.var 0)), (.ptr (.var 1))]) ([].map (SV.denL G dE)) h R :=
  CallsA.of_ev (cf := ⟨allF, [], l24⟩) (fn := Try.f24) (c := bodyOf Try.f24) (pcs := []) Try.func24 (by rfl) callOK (by rfl) hG (by rfl) (by rw [show ([] : List (List SV)).map List.length = [] from rfl, e24]; exact H)
/-- What is left of outworker/outworkerlaw11.Awake$1. -/
def t13 : Out :=
 (.alloc 3 [(.int .i64 (.lit 0))] (.lsl 1) 
 (.alloc 3 [(.int .i64 (.lit 1))] (.lsl 1) 
 (.alloc 30 [(.cst (.slice none 0 0)), (.val 1), (.val 2)] (.lsl 3) 
 (.need (.tt true) [(.cmp .geq (.var 0) (.lit 0)), (.cmp .lss (.var 0) (.len 3))] 
 (.load (.tt true) (.idx (.var 3) (.var 0) 1) [.sl] 
 (.done (.val 4) []))))))
def l13 : List (Nat × List Nat × List (Nat × Nat) × List Nat) := []
theorem e13 : ev Try.prog ⟨allF, [3, 4, 5], l13⟩ (bodyOf Try.f13) 0 (initSt [(.int .i64 (.var 0))] [] Try.f13.ntmps [.int .i64]) (finK Try.prog Try.f13.results []) = t13 := by kernel_rfl
theorem c13 {G : List Value} {h : H} {R : Value → List (List Value) → H → Prop} (hG : FitsL [.int .i64] G) (H : holds Try.prog R t13 G [] h) : CallsA Try.prog 13 (fun e => SV.denL G (fun k => e (k - 1000000)) [(.int .i64 (.var 0))]) ([].map (SV.denL G dE)) h R :=
  CallsA.of_ev (cf := ⟨allF, [3, 4, 5], l13⟩) (fn := Try.f13) (c := bodyOf Try.f13) (pcs := []) Try.func13 (by rfl) callOK (by rfl) hG (by rfl) (by rw [show ([] : List (List SV)).map List.length = [] from rfl, e13]; exact H)
/-- What is left of outworker/outworkerlaw11.FlowLeast$2. -/
def t9 : Out :=
 (.load (.tt true) (.var 0) [.int .i64] 
 (.store (.var 0) [(.int .i64 (.ite (.cmp .lss (.var 1) (.var 2)) (.var 1) (.var 2)))] 
 (.load (.tt true) (.var 0) [.int .i64] 
 (.done (.bool (.cmp .lss (.var 3) (.var 2))) []))))
def l9 : List (Nat × List Nat × List (Nat × Nat) × List Nat) := []
theorem e9 : ev Try.prog ⟨allF, [], l9⟩ (bodyOf Try.f9) 0 (initSt [(.ptr (.var 0)), (.int .i64 (.var 1))] [] Try.f9.ntmps [.ptr, .int .i64]) (finK Try.prog Try.f9.results []) = t9 := by kernel_rfl
theorem c9 {G : List Value} {h : H} {R : Value → List (List Value) → H → Prop} (hG : FitsL [.ptr, .int .i64] G) (H : holds Try.prog R t9 G [] h) : CallsA Try.prog 9 (fun e => SV.denL G (fun k => e (k - 1000000)) [(.ptr (.var 0)), (.int .i64 (.var 1))]) ([].map (SV.denL G dE)) h R :=
  CallsA.of_ev (cf := ⟨allF, [], l9⟩) (fn := Try.f9) (c := bodyOf Try.f9) (pcs := []) Try.func9 (by rfl) callOK (by rfl) hG (by rfl) (by rw [show ([] : List (List SV)).map List.length = [] from rfl, e9]; exact H)
/-- What is left of outworker/outworkerlaw11.Awake$3. -/
def t15 : Out :=
 (.load (.tt true) (.var 0) [.int .i64] 
 (.store (.var 0) [(.int .i64 (.ite (.cmp .gtr (.var 1) (.var 2)) (.var 1) (.var 2)))] 
 (.load (.tt true) (.var 0) [.int .i64] 
 (.done (.bool (.cmp .gtr (.var 3) (.var 2))) []))))
def l15 : List (Nat × List Nat × List (Nat × Nat) × List Nat) := []
theorem e15 : ev Try.prog ⟨allF, [], l15⟩ (bodyOf Try.f15) 0 (initSt [(.ptr (.var 0)), (.int .i64 (.var 1))] [] Try.f15.ntmps [.ptr, .int .i64]) (finK Try.prog Try.f15.results []) = t15 := by kernel_rfl
theorem c15 {G : List Value} {h : H} {R : Value → List (List Value) → H → Prop} (hG : FitsL [.ptr, .int .i64] G) (H : holds Try.prog R t15 G [] h) : CallsA Try.prog 15 (fun e => SV.denL G (fun k => e (k - 1000000)) [(.ptr (.var 0)), (.int .i64 (.var 1))]) ([].map (SV.denL G dE)) h R :=
  CallsA.of_ev (cf := ⟨allF, [], l15⟩) (fn := Try.f15) (c := bodyOf Try.f15) (pcs := []) Try.func15 (by rfl) callOK (by rfl) hG (by rfl) (by rw [show ([] : List (List SV)).map List.length = [] from rfl, e15]; exact H)
/-- What is left of outworker/outworkerlaw11.Awake. -/
def t4 : Out :=
 (.call 6 [(.agg [(.int .i64 (.lit 3)), (.fn (.func 13) [] []), (.fn (.func 14) [] []), (.fn (.func 15) [] []), (.fn (.func 16) [] [])])] [] [] [] [(false, [.sl])] 
 (.need (.cmp .eql (.len 0) (.lit 3)) [(.tt true), (.cmp .lss (.lit 0) (.len 0))] 
 (.load (.cmp .eql (.len 0) (.lit 3)) (.idx (.var 0) (.lit 0) 1) [.int .i64] 
 (.need (.ite (.cmp .eql (.len 0) (.lit 3)) (.cmp .eql (.var 1) (.lit 1)) (.tt false)) [(.tt true), (.cmp .lss (.lit 1) (.len 0))] 
 (.load (.ite (.cmp .eql (.len 0) (.lit 3)) (.cmp .eql (.var 1) (.lit 1)) (.tt false)) (.idx (.var 0) (.lit 1) 1) [.int .i64] 
 (.need (.ite (.ite (.cmp .eql (.len 0) (.lit 3)) (.cmp .eql (.var 1) (.lit 1)) (.tt false)) (.cmp .eql (.var 2) (.lit 2)) (.tt false)) [(.tt true), (.cmp .lss (.lit 2) (.len 0))] 
 (.load (.ite (.ite (.cmp .eql (.len 0) (.lit 3)) (.cmp .eql (.var 1) (.lit 1)) (.tt false)) (.cmp .eql (.var 2) (.lit 2)) (.tt false)) (.idx (.var 0) (.lit 2) 1) [.int .i64] 
 (.done (.bool (.ite (.ite (.ite (.cmp .eql (.len 0) (.lit 3)) (.cmp .eql (.var 1) (.lit 1)) (.tt false)) (.cmp .eql (.var 2) (.lit 2)) (.tt false)) (.cmp .eql (.var 3) (.lit 3)) (.tt false))) []))))))))
def l4 : List (Nat × List Nat × List (Nat × Nat) × List Nat) := []
theorem e4 : ev Try.prog ⟨allF, [], l4⟩ (bodyOf Try.f4) 0 (initSt [] [] Try.f4.ntmps []) (finK Try.prog Try.f4.results []) = t4 := by kernel_rfl
theorem c4 {G : List Value} {h : H} {R : Value → List (List Value) → H → Prop} (hG : FitsL [] G) (H : holds Try.prog R t4 G [] h) : CallsA Try.prog 4 (fun e => SV.denL G (fun k => e (k - 1000000)) []) ([].map (SV.denL G dE)) h R :=
  CallsA.of_ev (cf := ⟨allF, [], l4⟩) (fn := Try.f4) (c := bodyOf Try.f4) (pcs := []) Try.func4 (by rfl) callOK (by rfl) hG (by rfl) (by rw [show ([] : List (List SV)).map List.length = [] from rfl, e4]; exact H)
/-- What is left of outworker/outworkerlaw11.FlowLeast. -/
def t3 : Out :=
 (.call 4 [] [] [] [] [(false, [.bool])] 
 (.ite (.not (.var 4))
  (.done (.bool (.tt false)) [])
  (.call 5 [(.agg [(.int .u8 (.var 0)), (.int .u8 (.var 1)), (.int .u8 (.var 2)), (.val 3)])] [] [] [] [(true, [.int .i64, .int .i64, .sl])] 
  (.call 7 [(.val 7), (.bool (.tt false))] [] [] [] [(false, [.fn])] 
  (.call 6 [(.agg [(.int .i64 (.len 7)), (.val 8), (.fn (.func 8) [] []), (.fn (.func 9) [] []), (.fn (.func 10) [] [])])] [] [] [] [(false, [.sl])] 
  (.alloc 3 [(.int .i64 (.lit 0))] (.lsl 1) 
  (.alloc 3 [(.int .i64 (.lit 0))] (.lsl 1) 
  (.loop 0 [(.val 11), (.val 10), (.int .i64 (.lit 0))] [.sl, .sl, .int .i64] 
   (.ite (.cmp .gtr (.len 13) (.lit 0))
    (.loop 1 [(.val 12), (.cst (.slice none 0 0)), (.int .i64 (.lit 0))] [.sl, .sl, .int .i64] 
     (.ite (.cmp .lss (.var 17) (.len 13))
      (.need (.tt true) [(.cmp .geq (.var 17) (.lit 0)), (.cmp .lss (.var 17) (.len 13))] 
      (.load (.tt true) (.idx (.var 13) (.var 17) 1) [.int .i64] 
      (.need (.tt true) [(.cmp .geq (.var 18) (.lit 0)), (.cmp .lss (.var 18) (.len 9))] 
      (.load (.tt true) (.idx (.var 9) (.var 18) 1) [.int .i64] 
      (.ite (.cmp .neq (.var 19) (.var 14))
       (.done (.bool (.tt false)) [])
       (.need (.tt true) [(.cmp .geq (.var 18) (.lit 0)), (.cmp .lss (.var 18) (.len 7))] 
       (.load (.tt true) (.fld (.idx (.var 7) (.var 18) 5) 1) [.int .u8, .int .i64, .int .i64, .int .i64] 
       (.call 11 [(.agg [(.int .u8 (.var 20)), (.int .i64 (.var 21)), (.int .i64 (.var 22)), (.int .i64 (.var 23))])] [] [] [] [(false, [.sl])] 
       (.loop 2 [(.val 15), (.val 16), (.int .i64 (.lit 0))] [.sl, .sl, .int .i64] 
        (.ite (.cmp .lss (.var 27) (.len 24))
         (.need (.tt true) [(.cmp .geq (.var 27) (.lit 0)), (.cmp .lss (.var 27) (.len 24))] 
         (.load (.tt true) (.idx (.var 24) (.var 27) 1) [.int .i64] 
         (.call 12 [(.val 25), (.int .i64 (.var 28))] [] [] [] [(false, [.bool])] 
         (.ite (.not (.var 29))
          (.app 3 1 8 (.val 25) (.cells [(.int .i64 (.var 28))] 1) 
          (.app 3 1 8 (.val 26) (.cells [(.int .i64 (.var 28))] 1) 
          (.again 2 [(.val 30), (.val 31), (.int .i64 (.op .add .i64 (.var 27) (.lit 1)))])))
          (.again 2 [(.val 25), (.val 26), (.int .i64 (.op .add .i64 (.var 27) (.lit 1)))])))))
         (.again 1 [(.val 25), (.val 26), (.int .i64 (.op .add .i64 (.var 17) (.lit 1)))])))))))))))
      (.again 0 [(.val 15), (.val 16), (.int .i64 (.op .add .i64 (.var 14) (.lit 1)))])))
    (.loop 0 [(.int .i64 (.lit 0))] [.int .i64] 
     (.ite (.cmp .lss (.var 15) (.len 7))
      (.call 12 [(.val 12), (.int .i64 (.var 15))] [] [] [] [(false, [.bool])] 
      (.need (.not (.var 16)) [(.cmp .geq (.var 15) (.lit 0)), (.cmp .lss (.var 15) (.len 9))] 
      (.load (.not (.var 16)) (.idx (.var 9) (.var 15) 1) [.int .i64] 
      (.ite (.ite (.not (.var 16)) (.cmp .neq (.var 17) (.lit 99)) (.tt false))
       (.done (.bool (.tt false)) [])
       (.again 0 [(.int .i64 (.op .add .i64 (.var 15) (.lit 1)))])))))
      (.done (.bool (.cmp .eql (.len 9) (.len 7))) []))))))))))))
def l3 : List (Nat × List Nat × List (Nat × Nat) × List Nat) := [(7, [7, 5, 6], [], [27, 28, 29, 8, 30, 31, 32, 33, 34, 35, 10, 36, 37, 38, 39, 40, 41, 2, 42, 43, 44, 45, 46, 47, 48, 49, 50, 51, 52, 12, 53, 54, 55, 56, 57, 58, 59, 60, 61, 62, 63, 64, 65, 66, 67, 68, 69]), (10, [7, 8, 32], [], [33, 34, 35, 10, 36, 37, 38, 39, 40, 41, 2, 42, 43, 44, 45, 46, 47, 48, 49, 50, 51, 52, 12, 53, 54, 55, 56, 57, 58, 59, 60, 61, 62, 63, 64, 65, 66]), (15, [7, 8, 49], [], [50, 51, 52, 12, 53, 54, 55, 56, 57, 58, 59, 60, 61, 62, 63, 64, 65]), (23, [72], [], [73, 74, 13, 75, 76, 77, 78, 79, 80, 81, 82, 83, 84, 85, 2, 86])]
theorem e3 : ev Try.prog ⟨allF, [25, 26], l3⟩ (bodyOf Try.f3) 0 (initSt [(.agg [(.int .u8 (.var 0)), (.int .u8 (.var 1)), (.int .u8 (.var 2)), (.val 3)])] [] Try.f3.ntmps [.int .u8, .int .u8, .int .u8, .sl]) (finK Try.prog Try.f3.results []) = t3 := by kernel_rfl
theorem c3 {G : List Value} {h : H} {R : Value → List (List Value) → H → Prop} (hG : FitsL [.int .u8, .int .u8, .int .u8, .sl] G) (H : holds Try.prog R t3 G [] h) : CallsA Try.prog 3 (fun e => SV.denL G (fun k => e (k - 1000000)) [(.agg [(.int .u8 (.var 0)), (.int .u8 (.var 1)), (.int .u8 (.var 2)), (.val 3)])]) ([].map (SV.denL G dE)) h R :=
  CallsA.of_ev (cf := ⟨allF, [25, 26], l3⟩) (fn := Try.f3) (c := bodyOf Try.f3) (pcs := []) Try.func3 (by rfl) callOK (by rfl) hG (by rfl) (by rw [show ([] : List (List SV)).map List.length = [] from rfl, e3]; exact H)
/-- What is left of outworker/flow.Solve[int]. -/
def t6 : Out :=
 (.mk 3 1 8 (.var 0) 
 (.mk 30 1 24 (.var 0) 
 (.loop 0 [(.int .i64 (.lit 0)), (.cst (.slice none 0 0)), (.cst (.map none))] [.int .i64, .sl, .map] 
  (.ite (.cmp .lss (.var 7) (.var 0))
   (.callv (.val 2) [(.int .i64 (.var 7))] [(false, [.int .i64])] 
   (.need (.tt true) [(.cmp .geq (.var 7) (.lit 0)), (.cmp .lss (.var 7) (.len 5))] 
   (.store (.idx (.var 5) (.var 7) 1) [(.int .i64 (.var 10))] 
   (.call 19 [(.loc 5 0), (.int .i64 (.var 7))] [5] [[(.val 8), (.val 9)]] [[.sl, .map]] [(false, [.bool])] 
   (.callv (.val 1) [(.int .i64 (.var 7))] [(false, [.sl])] 
   (.loop 1 [(.int .i64 (.lit 0))] [.int .i64] 
    (.ite (.cmp .lss (.var 15) (.len 14))
     (.need (.tt true) [(.cmp .geq (.var 15) (.lit 0)), (.cmp .lss (.var 15) (.len 14))] 
     (.load (.tt true) (.idx (.var 14) (.var 15) 1) [.int .i64] 
     (.need (.tt true) [(.cmp .geq (.var 16) (.lit 0)), (.cmp .lss (.var 16) (.len 6))] 
     (.load (.tt true) (.idx (.var 6) (.var 16) 1) [.sl] 
     (.app 3 1 8 (.val 17) (.cells [(.int .i64 (.var 7))] 1) 
     (.need (.tt true) [(.cmp .geq (.var 16) (.lit 0)), (.cmp .lss (.var 16) (.len 6))] 
     (.store (.idx (.var 6) (.var 16) 1) [(.val 18)] 
     (.again 1 [(.int .i64 (.op .add .i64 (.var 15) (.lit 1)))]))))))))
     (.again 0 [(.int .i64 (.op .add .i64 (.var 7) (.lit 1))), (.val 11), (.val 12)]))))))))
   (.loop 0 [(.val 8), (.val 9)] [.sl, .map] 
    (.call 20 [(.loc 5 0)] [5] [[(.val 10), (.val 11)]] [[.sl, .map]] [(false, [.int .i64])] 
    (.ite (.cmp .gtr (.var 14) (.lit 0))
     (.call 21 [(.loc 5 0)] [5] [[(.val 12), (.val 13)]] [[.sl, .map]] [(false, [.int .i64]), (false, [.bool])] 
     (.need (.tt true) [(.cmp .geq (.var 17) (.lit 0)), (.cmp .lss (.var 17) (.len 5))] 
     (.load (.tt true) (.idx (.var 5) (.var 17) 1) [.int .i64] 
     (.callv (.val 4) [(.int .i64 (.var 17)), (.int .i64 (.var 19))] [(false, [.int .i64])] 
     (.need (.tt true) [(.cmp .geq (.var 17) (.lit 0)), (.cmp .lss (.var 17) (.len 6))] 
     (.load (.tt true) (.idx (.var 6) (.var 17) 1) [.sl] 
     (.loop 1 [(.int .i64 (.lit 0)), (.val 15), (.val 16)] [.int .i64, .sl, .map] 
      (.ite (.cmp .lss (.var 22) (.len 21))
       (.need (.tt true) [(.cmp .geq (.var 22) (.lit 0)), (.cmp .lss (.var 22) (.len 21))] 
       (.load (.tt true) (.idx (.var 21) (.var 22) 1) [.int .i64] 
       (.need (.tt true) [(.cmp .geq (.var 25) (.lit 0)), (.cmp .lss (.var 25) (.len 5))] 
       (.callv (.val 3) [(.ptr (.idx (.var 5) (.var 25) 1)), (.int .i64 (.var 20))] [(false, [.bool])] 
       (.ite (.var 26)
        (.call 19 [(.loc 5 0), (.int .i64 (.var 25))] [5] [[(.val 23), (.val 24)]] [[.sl, .map]] [(false, [.bool])] 
        (.again 1 [(.int .i64 (.op .add .i64 (.var 22) (.lit 1))), (.val 27), (.val 28)]))
        (.again 1 [(.int .i64 (.op .add .i64 (.var 22) (.lit 1))), (.val 23), (.val 24)]))))))
       (.again 0 [(.val 23), (.val 24)])))))))))
     (.done (.val 5) []))))))))
def l6 : List (Nat × List Nat × List (Nat × Nat) × List Nat) := [(2000030, [], [(0, 1)], [10]), (2000037, [], [(0, 1)], [2]), (2000068, [], [(0, 1)], [10]), (2000084, [], [(0, 1)], [0]), (5, [22], [(5, 0), (5, 1)], [23, 24, 6, 25, 26, 27, 28, 29, 30, 31, 32, 33, 34, 35, 36, 37, 38, 39, 40, 41, 42, 8, 43, 44, 45, 46, 47, 48, 49, 50, 51, 52, 53, 54]), (10, [39], [], [40, 41, 42, 8, 43, 44, 45, 46, 47, 48, 49, 50, 51, 52, 53]), (15, [], [(5, 0), (5, 1)], [55, 56, 58, 57, 59, 60, 9, 10, 61, 62, 63, 64, 65, 66, 67, 68, 11, 69, 70, 71, 72, 73, 74, 75, 76, 77, 13, 78, 79, 80, 81, 82, 83, 84, 85, 86, 87]), (19, [74], [(5, 0), (5, 1)], [75, 76, 77, 13, 78, 79, 80, 81, 82, 83, 84, 85, 86, 87])]
theorem e6 : ev Try.prog ⟨allF, [], l6⟩ (bodyOf Try.f6) 0 (initSt [(.agg [(.int .i64 (.var 0)), (.val 1), (.val 2), (.val 3), (.val 4)])] [] Try.f6.ntmps [.int .i64, .fn, .fn, .fn, .fn]) (finK Try.prog Try.f6.results []) = t6 := by kernel_rfl
theorem c6 {G : List Value} {h : H} {R : Value → List (List Value) → H → Prop} (hG : FitsL [.int .i64, .fn, .fn, .fn, .fn] G) (H : holds Try.prog R t6 G [] h) : CallsA Try.prog 6 (fun e => SV.denL G (fun k => e (k - 1000000)) [(.agg [(.int .i64 (.var 0)), (.val 1), (.val 2), (.val 3), (.val 4)])]) ([].map (SV.denL G dE)) h R :=
  CallsA.of_ev (cf := ⟨allF, [], l6⟩) (fn := Try.f6) (c := bodyOf Try.f6) (pcs := []) Try.func6 (by rfl) callOK (by rfl) hG (by rfl) (by rw [show ([] : List (List SV)).map List.length = [] from rfl, e6]; exact H)
/-- What is left of outworker/outworkerlaw11.ahead. -/
def t7 : Out :=
 (.alloc 26 [(.val 0)] .loc 
 (.ite (.var 1)
  (.done (.fn (.func 22) [] [(.ptr (.var 2))]) [])
  (.done (.fn (.func 24) [] [(.ptr (.var 2))]) [])))
def l7 : List (Nat × List Nat × List (Nat × Nat) × List Nat) := []
theorem e7 : ev Try.prog ⟨allF, [2], l7⟩ (bodyOf Try.f7) 0 (initSt [(.val 0), (.bool (.var 1))] [] Try.f7.ntmps [.sl, .bool]) (finK Try.prog Try.f7.results []) = t7 := by kernel_rfl
theorem c7 {G : List Value} {h : H} {R : Value → List (List Value) → H → Prop} (hG : FitsL [.sl, .bool] G) (H : holds Try.prog R t7 G [] h) : CallsA Try.prog 7 (fun e => SV.denL G (fun k => e (k - 1000000)) [(.val 0), (.bool (.var 1))]) ([].map (SV.denL G dE)) h R :=
  CallsA.of_ev (cf := ⟨allF, [2], l7⟩) (fn := Try.f7) (c := bodyOf Try.f7) (pcs := []) Try.func7 (by rfl) callOK (by rfl) hG (by rfl) (by rw [show ([] : List (List SV)).map List.length = [] from rfl, e7]; exact H)
end Go.Proofs.Ytbbicdfipheaeaa
