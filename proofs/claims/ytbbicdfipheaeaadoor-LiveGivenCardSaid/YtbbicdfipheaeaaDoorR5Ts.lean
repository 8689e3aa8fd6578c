/-
  What the evaluator leaves of the functions of this seat (trees, printed by a program of ours), and their contracts from it. Conditions: none.
-/
import Derived.Test.YtbbicdfipheaeaaDoorR1Tr
set_option linter.unusedVariables false
set_option linter.unusedSimpArgs false
namespace Go.Proofs.YtbbicdfipheaeaaDoor
open Go

/-- What is left of outworker/outworkerlaw11.FlowSets$2. -/
def t18 : Out :=
 (.call 19 [(.agg [(.val 1)])] [] [] [] [(true, [.sl])] 
 (.load (.tt true) (.var 2) [.sl] 
 (.need (.tt true) [(.cmp .geq (.var 0) (.lit 0)), (.cmp .lss (.var 0) (.len 5))] 
 (.load (.tt true) (.idx (.var 5) (.var 0) 1) [.sl] 
 (.call 21 [(.val 6)] [] [] [] [(true, [.sl])] 
 (.call 20 [(.loc 7 0), (.agg [(.val 7)])] [7] [[(.val 4)]] [[.sl]] [] 
 (.load (.tt true) (.var 3) [.sl] 
 (.need (.tt true) [(.cmp .geq (.var 0) (.lit 0)), (.cmp .lss (.var 0) (.len 9))] 
 (.load (.tt true) (.idx (.var 9) (.var 0) 1) [.sl] 
 (.call 21 [(.val 10)] [] [] [] [(true, [.sl])] 
 (.call 17 [(.loc 7 0), (.agg [(.val 11)])] [7] [[(.val 8)]] [[.sl]] [(false, [.bool])] 
 (.done (.agg [(.val 12)]) []))))))))))))
def l18 : List (Nat × List Nat × List (Nat × Nat) × List Nat) := []
theorem e18 : ev Tryd.prog ⟨allF, [], l18⟩ (bodyOf Tryd.f18) 0 (initSt [(.int .i64 (.var 0)), (.agg [(.val 1)]), (.ptr (.var 2)), (.ptr (.var 3))] [] Tryd.f18.ntmps [.int .i64, .sl, .ptr, .ptr]) (finK Tryd.prog Tryd.f18.results []) = t18 := by kernel_rfl
theorem c18 {G : List Value} {h : H} {R : Value → List (List Value) → H → Prop} (hG : FitsL [.int .i64, .sl, .ptr, .ptr] G) (H : holds Tryd.prog R t18 G [] h) : CallsA Tryd.prog 18 (fun e => SV.denL G (fun k => e (k - 1000000)) [(.int .i64 (.var 0)), (.agg [(.val 1)]), (.ptr (.var 2)), (.ptr (.var 3))]) ([].map (SV.denL G dE)) h R :=
  CallsA.of_ev (cf := ⟨allF, [], l18⟩) (fn := Tryd.f18) (c := bodyOf Tryd.f18) (pcs := []) Tryd.func18 (by rfl) callOK (by rfl) hG (by rfl) (by rw [show ([] : List (List SV)).map List.length = [] from rfl, e18]; exact H)
/-- What is left of outworker/outworkerlaw11.FlowStays$2. -/
def t25 : Out :=
 (.call 19 [(.agg [(.val 1)])] [] [] [] [(true, [.sl])] 
 (.load (.tt true) (.var 2) [.sl] 
 (.need (.tt true) [(.cmp .geq (.var 0) (.lit 0)), (.cmp .lss (.var 0) (.len 5))] 
 (.load (.tt true) (.idx (.var 5) (.var 0) 1) [.sl] 
 (.call 21 [(.val 6)] [] [] [] [(true, [.sl])] 
 (.call 20 [(.loc 7 0), (.agg [(.val 7)])] [7] [[(.val 4)]] [[.sl]] [] 
 (.load (.tt true) (.var 3) [.sl] 
 (.need (.tt true) [(.cmp .geq (.var 0) (.lit 0)), (.cmp .lss (.var 0) (.len 9))] 
 (.load (.tt true) (.idx (.var 9) (.var 0) 1) [.sl] 
 (.call 21 [(.val 10)] [] [] [] [(true, [.sl])] 
 (.call 17 [(.loc 7 0), (.agg [(.val 11)])] [7] [[(.val 8)]] [[.sl]] [(false, [.bool])] 
 (.done (.agg [(.val 12)]) []))))))))))))
def l25 : List (Nat × List Nat × List (Nat × Nat) × List Nat) := []
theorem e25 : ev Tryd.prog ⟨allF, [], l25⟩ (bodyOf Tryd.f25) 0 (initSt [(.int .i64 (.var 0)), (.agg [(.val 1)]), (.ptr (.var 2)), (.ptr (.var 3))] [] Tryd.f25.ntmps [.int .i64, .sl, .ptr, .ptr]) (finK Tryd.prog Tryd.f25.results []) = t25 := by kernel_rfl
theorem c25 {G : List Value} {h : H} {R : Value → List (List Value) → H → Prop} (hG : FitsL [.int .i64, .sl, .ptr, .ptr] G) (H : holds Tryd.prog R t25 G [] h) : CallsA Tryd.prog 25 (fun e => SV.denL G (fun k => e (k - 1000000)) [(.int .i64 (.var 0)), (.agg [(.val 1)]), (.ptr (.var 2)), (.ptr (.var 3))]) ([].map (SV.denL G dE)) h R :=
  CallsA.of_ev (cf := ⟨allF, [], l25⟩) (fn := Tryd.f25) (c := bodyOf Tryd.f25) (pcs := []) Tryd.func25 (by rfl) callOK (by rfl) hG (by rfl) (by rw [show ([] : List (List SV)).map List.length = [] from rfl, e25]; exact H)
/-- What is left of outworker/outworkerlaw11.FlowStays$1. -/
def t24 : Out :=
 (.load (.tt true) (.var 1) [.sl] 
 (.need (.tt true) [(.cmp .geq (.var 0) (.lit 0)), (.cmp .lss (.var 0) (.len 2))] 
 (.load (.tt true) (.idx (.var 2) (.var 0) 1) [.sl] 
 (.call 21 [(.val 3)] [] [] [] [(true, [.sl])] 
 (.done (.agg [(.val 4)]) [])))))
def l24 : List (Nat × List Nat × List (Nat × Nat) × List Nat) := []
theorem e24 : ev Tryd.prog ⟨allF, [], l24⟩ (bodyOf Tryd.f24) 0 (initSt [(.int .i64 (.var 0)), (.ptr (.var 1))] [] Tryd.f24.ntmps [.int .i64, .ptr]) (finK Tryd.prog Tryd.f24.results []) = t24 := by kernel_rfl
theorem c24 {G : List Value} {h : H} {R : Value → List (List Value) → H → Prop} (hG : FitsL [.int .i64, .ptr] G) (H : holds Tryd.prog R t24 G [] h) : CallsA Tryd.prog 24 (fun e => SV.denL G (fun k => e (k - 1000000)) [(.int .i64 (.var 0)), (.ptr (.var 1))]) ([].map (SV.denL G dE)) h R :=
  CallsA.of_ev (cf := ⟨allF, [], l24⟩) (fn := Tryd.f24) (c := bodyOf Tryd.f24) (pcs := []) Tryd.func24 (by rfl) callOK (by rfl) hG (by rfl) (by rw [show ([] : List (List SV)).map List.length = [] from rfl, e24]; exact H)
/-- What is left of outworker/outworkerlaw11.FlowMore$1$2. -/
def t28 : Out :=
 (.call 19 [(.agg [(.val 1)])] [] [] [] [(true, [.sl])] 
 (.load (.tt true) (.var 2) [.sl] 
 (.need (.tt true) [(.cmp .geq (.var 0) (.lit 0)), (.cmp .lss (.var 0) (.len 5))] 
 (.load (.tt true) (.idx (.var 5) (.var 0) 1) [.sl] 
 (.call 21 [(.val 6)] [] [] [] [(true, [.sl])] 
 (.call 20 [(.loc 7 0), (.agg [(.val 7)])] [7] [[(.val 4)]] [[.sl]] [] 
 (.load (.tt true) (.var 3) [.sl] 
 (.need (.tt true) [(.cmp .geq (.var 0) (.lit 0)), (.cmp .lss (.var 0) (.len 9))] 
 (.load (.tt true) (.idx (.var 9) (.var 0) 1) [.sl] 
 (.call 21 [(.val 10)] [] [] [] [(true, [.sl])] 
 (.call 17 [(.loc 7 0), (.agg [(.val 11)])] [7] [[(.val 8)]] [[.sl]] [(false, [.bool])] 
 (.done (.agg [(.val 12)]) []))))))))))))
def l28 : List (Nat × List Nat × List (Nat × Nat) × List Nat) := []
theorem e28 : ev Tryd.prog ⟨allF, [], l28⟩ (bodyOf Tryd.f28) 0 (initSt [(.int .i64 (.var 0)), (.agg [(.val 1)]), (.ptr (.var 2)), (.ptr (.var 3))] [] Tryd.f28.ntmps [.int .i64, .sl, .ptr, .ptr]) (finK Tryd.prog Tryd.f28.results []) = t28 := by kernel_rfl
theorem c28 {G : List Value} {h : H} {R : Value → List (List Value) → H → Prop} (hG : FitsL [.int .i64, .sl, .ptr, .ptr] G) (H : holds Tryd.prog R t28 G [] h) : CallsA Tryd.prog 28 (fun e => SV.denL G (fun k => e (k - 1000000)) [(.int .i64 (.var 0)), (.agg [(.val 1)]), (.ptr (.var 2)), (.ptr (.var 3))]) ([].map (SV.denL G dE)) h R :=
  CallsA.of_ev (cf := ⟨allF, [], l28⟩) (fn := Tryd.f28) (c := bodyOf Tryd.f28) (pcs := []) Tryd.func28 (by rfl) callOK (by rfl) hG (by rfl) (by rw [show ([] : List (List SV)).map List.length = [] from rfl, e28]; exact H)
/-- What is left of outworker/outworkerlaw11.FlowMore$1$1. -/
def t27 : Out :=
 (.done (.agg [(.cst (.slice none 0 0))]) [])
def l27 : List (Nat × List Nat × List (Nat × Nat) × List Nat) := []
theorem e27 : ev Tryd.prog ⟨allF, [], l27⟩ (bodyOf Tryd.f27) 0 (initSt [(.int .i64 (.var 0))] [] Tryd.f27.ntmps [.int .i64]) (finK Tryd.prog Tryd.f27.results []) = t27 := by kernel_rfl
theorem c27 {G : List Value} {h : H} {R : Value → List (List Value) → H → Prop} (hG : FitsL [.int .i64] G) (H : holds Tryd.prog R t27 G [] h) : CallsA Tryd.prog 27 (fun e => SV.denL G (fun k => e (k - 1000000)) [(.int .i64 (.var 0))]) ([].map (SV.denL G dE)) h R :=
  CallsA.of_ev (cf := ⟨allF, [], l27⟩) (fn := Tryd.f27) (c := bodyOf Tryd.f27) (pcs := []) Tryd.func27 (by rfl) callOK (by rfl) hG (by rfl) (by rw [show ([] : List (List SV)).map List.length = [] from rfl, e27]; exact H)
end Go.Proofs.YtbbicdfipheaeaaDoor
