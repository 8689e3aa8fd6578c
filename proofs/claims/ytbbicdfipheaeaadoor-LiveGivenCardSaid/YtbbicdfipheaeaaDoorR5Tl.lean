/-
  What the evaluator leaves of the functions of this seat (trees, printed by a program of ours), and their contracts from it. Conditions: none.
-/
import Derived.Test.YtbbicdfipheaeaaDoorR1Tr
set_option linter.unusedVariables false
set_option linter.unusedSimpArgs false
namespace Go.Proofs.YtbbicdfipheaeaaDoor
open Go

/-- What is left of (*outworker/bag.Set[int]).Cut. -/
def t70k : Out :=
 (.call 23 [(.agg [(.val 0)]), (.int .i64 (.var 1))] [] [] [] [(false, [.bool])] 
 (.ite (.var 2)
  (.need (.tt true) [(.cmp .geq (.op .quo .i64 (.var 1) (.lit 64)) (.lit 0)), (.cmp .lss (.op .quo .i64 (.var 1) (.lit 64)) (.len 0))] 
  (.load (.tt true) (.idx (.var 0) (.op .quo .i64 (.var 1) (.lit 64)) 1) [.int .u64] 
  (.need (.tt true) [(.cmp .geq (.op .rem .i64 (.var 1) (.lit 64)) (.lit 0))] 
  (.need (.tt true) [(.cmp .geq (.op .quo .i64 (.var 1) (.lit 64)) (.lit 0)), (.cmp .lss (.op .quo .i64 (.var 1) (.lit 64)) (.len 0))] 
  (.store (.idx (.var 0) (.op .quo .i64 (.var 1) (.lit 64)) 1) [(.int .u64 (.op .andNot .u64 (.var 3) (.op .shl .u64 (.lit 1) (.op .rem .i64 (.var 1) (.lit 64)))))] 
  (.done (.bool (.var 2)) [[(.val 0)]]))))))
  (.done (.bool (.var 2)) [[(.val 0)]])))
def l70k : List (Nat × List Nat × List (Nat × Nat) × List Nat) := []
theorem e70k : ev Tryd.prog ⟨allF, [], l70k⟩ (bodyOf Tryd.f70) 0 (initSt [(.loc 1000000 0), (.int .i64 (.var 1))] [[(.val 0)]] Tryd.f70.ntmps [.sl, .int .i64]) (finK Tryd.prog Tryd.f70.results [1]) = t70k := by kernel_rfl
theorem c70k {G : List Value} {h : H} {R : Value → List (List Value) → H → Prop} (hG : FitsL [.sl, .int .i64] G) (H : holds Tryd.prog R t70k G [] h) : CallsA Tryd.prog 70 (fun e => SV.denL G (fun k => e (k - 1000000)) [(.loc 1000000 0), (.int .i64 (.var 1))]) ([[(.val 0)]].map (SV.denL G dE)) h R :=
  CallsA.of_ev (cf := ⟨allF, [], l70k⟩) (fn := Tryd.f70) (c := bodyOf Tryd.f70) (pcs := [[(.val 0)]]) Tryd.func70 (by rfl) callOK (by rfl) hG (by rfl) (by rw [show ([[(.val 0)]] : List (List SV)).map List.length = [1] from rfl, e70k]; exact H)
/-- What is left of outworker/live.back. -/
def t62k : Out :=
 (.call 69 [(.agg [(.int .u8 (.var 0)), (.int .u8 (.var 1)), (.int .i64 (.var 2)), (.int .i64 (.var 3)), (.int .i64 (.var 4)), (.int .i64 (.var 5)), (.val 6)])] [] [] [] [(false, [.int .i64]), (false, [.bool])] 
 (.ite (.var 9)
  (.call 70 [(.loc 1000000 0), (.int .i64 (.var 8))] [1000000] [[(.val 7)]] [[.sl]] [(false, [.bool])] 
  (.call 71 [(.agg [(.int .u8 (.var 0)), (.int .u8 (.var 1)), (.int .i64 (.var 2)), (.int .i64 (.var 3)), (.int .i64 (.var 4)), (.int .i64 (.var 5)), (.val 6)])] [] [] [] [(false, [.sl])] 
  (.loop 0 [(.int .i64 (.lit 0)), (.val 10)] [.int .i64, .sl] 
   (.ite (.cmp .lss (.var 13) (.len 12))
    (.need (.tt true) [(.cmp .geq (.var 13) (.lit 0)), (.cmp .lss (.var 13) (.len 12))] 
    (.load (.tt true) (.idx (.var 12) (.var 13) 1) [.int .i64] 
    (.call 55 [(.loc 1000000 0), (.int .i64 (.var 15))] [1000000] [[(.val 14)]] [[.sl]] [(false, [.bool])] 
    (.again 0 [(.int .i64 (.op .add .i64 (.var 13) (.lit 1))), (.val 16)]))))
    (.done (.tup []) [[(.val 14)]])))))
  (.call 71 [(.agg [(.int .u8 (.var 0)), (.int .u8 (.var 1)), (.int .i64 (.var 2)), (.int .i64 (.var 3)), (.int .i64 (.var 4)), (.int .i64 (.var 5)), (.val 6)])] [] [] [] [(false, [.sl])] 
  (.loop 0 [(.int .i64 (.lit 0)), (.val 7)] [.int .i64, .sl] 
   (.ite (.cmp .lss (.var 11) (.len 10))
    (.need (.tt true) [(.cmp .geq (.var 11) (.lit 0)), (.cmp .lss (.var 11) (.len 10))] 
    (.load (.tt true) (.idx (.var 10) (.var 11) 1) [.int .i64] 
    (.call 55 [(.loc 1000000 0), (.int .i64 (.var 13))] [1000000] [[(.val 12)]] [[.sl]] [(false, [.bool])] 
    (.again 0 [(.int .i64 (.op .add .i64 (.var 11) (.lit 1))), (.val 14)]))))
    (.done (.tup []) [[(.val 12)]]))))))
def l62k : List (Nat × List Nat × List (Nat × Nat) × List Nat) := [(5, [20], [(1000000, 0)], [21, 22, 23, 7, 24, 25, 26, 27])]
theorem e62k : ev Tryd.prog ⟨allF, [], l62k⟩ (bodyOf Tryd.f62) 0 (initSt [(.agg [(.int .u8 (.var 0)), (.int .u8 (.var 1)), (.int .i64 (.var 2)), (.int .i64 (.var 3)), (.int .i64 (.var 4)), (.int .i64 (.var 5)), (.val 6)]), (.loc 1000000 0)] [[(.val 7)]] Tryd.f62.ntmps [.int .u8, .int .u8, .int .i64, .int .i64, .int .i64, .int .i64, .sl, .sl]) (finK Tryd.prog Tryd.f62.results [1]) = t62k := by kernel_rfl
theorem c62k {G : List Value} {h : H} {R : Value → List (List Value) → H → Prop} (hG : FitsL [.int .u8, .int .u8, .int .i64, .int .i64, .int .i64, .int .i64, .sl, .sl] G) (H : holds Tryd.prog R t62k G [] h) : CallsA Tryd.prog 62 (fun e => SV.denL G (fun k => e (k - 1000000)) [(.agg [(.int .u8 (.var 0)), (.int .u8 (.var 1)), (.int .i64 (.var 2)), (.int .i64 (.var 3)), (.int .i64 (.var 4)), (.int .i64 (.var 5)), (.val 6)]), (.loc 1000000 0)]) ([[(.val 7)]].map (SV.denL G dE)) h R :=
  CallsA.of_ev (cf := ⟨allF, [], l62k⟩) (fn := Tryd.f62) (c := bodyOf Tryd.f62) (pcs := [[(.val 7)]]) Tryd.func62 (by rfl) callOK (by rfl) hG (by rfl) (by rw [show ([[(.val 7)]] : List (List SV)).map List.length = [1] from rfl, e62k]; exact H)
/-- What is left of outworker/live.pass. -/
def t60 : Out :=
 (.call 19 [(.agg [(.val 5)])] [] [] [] [(true, [.sl])] 
 (.call 61 [(.agg [(.int .u8 (.var 1)), (.int .i64 (.var 2)), (.int .i64 (.var 3)), (.int .i64 (.var 4))])] [] [] [] [(false, [.int .i64]), (false, [.bool])] 
 (.ite (.var 8)
  (.call 55 [(.loc 5 0), (.int .i64 (.var 7))] [5] [[(.val 6)]] [[.sl]] [(false, [.bool])] 
  (.loop 0 [(.int .i64 (.op .sub .i64 (.len 0) (.lit 1))), (.val 9)] [.int .i64, .sl] 
   (.ite (.cmp .geq (.var 11) (.lit 0))
    (.need (.tt true) [(.cmp .geq (.var 11) (.lit 0)), (.cmp .lss (.var 11) (.len 0))] 
    (.load (.tt true) (.idx (.var 0) (.var 11) 7) [.int .u8, .int .u8, .int .i64, .int .i64, .int .i64, .int .i64, .sl] 
    (.call 62 [(.agg [(.int .u8 (.var 13)), (.int .u8 (.var 14)), (.int .i64 (.var 15)), (.int .i64 (.var 16)), (.int .i64 (.var 17)), (.int .i64 (.var 18)), (.val 19)]), (.loc 5 0)] [5] [[(.val 12)]] [[.sl]] [] 
    (.again 0 [(.int .i64 (.op .sub .i64 (.var 11) (.lit 1))), (.val 20)]))))
    (.done (.agg [(.val 12)]) []))))
  (.loop 0 [(.int .i64 (.op .sub .i64 (.len 0) (.lit 1))), (.val 6)] [.int .i64, .sl] 
   (.ite (.cmp .geq (.var 9) (.lit 0))
    (.need (.tt true) [(.cmp .geq (.var 9) (.lit 0)), (.cmp .lss (.var 9) (.len 0))] 
    (.load (.tt true) (.idx (.var 0) (.var 9) 7) [.int .u8, .int .u8, .int .i64, .int .i64, .int .i64, .int .i64, .sl] 
    (.call 62 [(.agg [(.int .u8 (.var 11)), (.int .u8 (.var 12)), (.int .i64 (.var 13)), (.int .i64 (.var 14)), (.int .i64 (.var 15)), (.int .i64 (.var 16)), (.val 17)]), (.loc 5 0)] [5] [[(.val 10)]] [[.sl]] [] 
    (.again 0 [(.int .i64 (.op .sub .i64 (.var 9) (.lit 1))), (.val 18)]))))
    (.done (.agg [(.val 10)]) []))))))
def l60 : List (Nat × List Nat × List (Nat × Nat) × List Nat) := [(6, [8], [(5, 0)], [24, 25, 28, 29, 30, 31, 32, 33, 26, 27])]
theorem e60 : ev Tryd.prog ⟨allF, [], l60⟩ (bodyOf Tryd.f60) 0 (initSt [(.agg [(.val 0), (.int .u8 (.var 1)), (.int .i64 (.var 2)), (.int .i64 (.var 3)), (.int .i64 (.var 4))]), (.agg [(.val 5)])] [] Tryd.f60.ntmps [.sl, .int .u8, .int .i64, .int .i64, .int .i64, .sl]) (finK Tryd.prog Tryd.f60.results []) = t60 := by kernel_rfl
theorem c60 {G : List Value} {h : H} {R : Value → List (List Value) → H → Prop} (hG : FitsL [.sl, .int .u8, .int .i64, .int .i64, .int .i64, .sl] G) (H : holds Tryd.prog R t60 G [] h) : CallsA Tryd.prog 60 (fun e => SV.denL G (fun k => e (k - 1000000)) [(.agg [(.val 0), (.int .u8 (.var 1)), (.int .i64 (.var 2)), (.int .i64 (.var 3)), (.int .i64 (.var 4))]), (.agg [(.val 5)])]) ([].map (SV.denL G dE)) h R :=
  CallsA.of_ev (cf := ⟨allF, [], l60⟩) (fn := Tryd.f60) (c := bodyOf Tryd.f60) (pcs := []) Tryd.func60 (by rfl) callOK (by rfl) hG (by rfl) (by rw [show ([] : List (List SV)).map List.length = [] from rfl, e60]; exact H)
/-- What is left of outworker/live.Of$1. -/
def t57 : Out :=
 (.load (.tt true) (.var 1) [.sl] 
 (.need (.tt true) [(.cmp .geq (.var 0) (.lit 0)), (.cmp .lss (.var 0) (.len 2))] 
 (.load (.tt true) (.fld (.idx (.var 2) (.var 0) 5) 1) [.int .u8, .int .i64, .int .i64, .int .i64] 
 (.call 47 [(.agg [(.int .u8 (.var 3)), (.int .i64 (.var 4)), (.int .i64 (.var 5)), (.int .i64 (.var 6))])] [] [] [] [(false, [.sl])] 
 (.done (.val 7) [])))))
def l57 : List (Nat × List Nat × List (Nat × Nat) × List Nat) := []
theorem e57 : ev Tryd.prog ⟨allF, [], l57⟩ (bodyOf Tryd.f57) 0 (initSt [(.int .i64 (.var 0)), (.ptr (.var 1))] [] Tryd.f57.ntmps [.int .i64, .ptr]) (finK Tryd.prog Tryd.f57.results []) = t57 := by kernel_rfl
theorem c57 {G : List Value} {h : H} {R : Value → List (List Value) → H → Prop} (hG : FitsL [.int .i64, .ptr] G) (H : holds Tryd.prog R t57 G [] h) : CallsA Tryd.prog 57 (fun e => SV.denL G (fun k => e (k - 1000000)) [(.int .i64 (.var 0)), (.ptr (.var 1))]) ([].map (SV.denL G dE)) h R :=
  CallsA.of_ev (cf := ⟨allF, [], l57⟩) (fn := Tryd.f57) (c := bodyOf Tryd.f57) (pcs := []) Tryd.func57 (by rfl) callOK (by rfl) hG (by rfl) (by rw [show ([] : List (List SV)).map List.length = [] from rfl, e57]; exact H)
/-- What is left of outworker/live.Of$2. -/
def t58 : Out :=
 (.done (.agg [(.cst (.slice none 0 0))]) [])
def l58 : List (Nat × List Nat × List (Nat × Nat) × List Nat) := []
theorem e58 : ev Tryd.prog ⟨allF, [], l58⟩ (bodyOf Tryd.f58) 0 (initSt [(.int .i64 (.var 0))] [] Tryd.f58.ntmps [.int .i64]) (finK Tryd.prog Tryd.f58.results []) = t58 := by kernel_rfl
theorem c58 {G : List Value} {h : H} {R : Value → List (List Value) → H → Prop} (hG : FitsL [.int .i64] G) (H : holds Tryd.prog R t58 G [] h) : CallsA Tryd.prog 58 (fun e => SV.denL G (fun k => e (k - 1000000)) [(.int .i64 (.var 0))]) ([].map (SV.denL G dE)) h R :=
  CallsA.of_ev (cf := ⟨allF, [], l58⟩) (fn := Tryd.f58) (c := bodyOf Tryd.f58) (pcs := []) Tryd.func58 (by rfl) callOK (by rfl) hG (by rfl) (by rw [show ([] : List (List SV)).map List.length = [] from rfl, e58]; exact H)
/-- What is left of outworker/live.Of$3. -/
def t59 : Out :=
 (.load (.tt true) (.var 2) [.sl] 
 (.need (.tt true) [(.cmp .geq (.var 0) (.lit 0)), (.cmp .lss (.var 0) (.len 3))] 
 (.load (.tt true) (.idx (.var 3) (.var 0) 5) [.sl, .int .u8, .int .i64, .int .i64, .int .i64] 
 (.call 60 [(.agg [(.val 4), (.int .u8 (.var 5)), (.int .i64 (.var 6)), (.int .i64 (.var 7)), (.int .i64 (.var 8))]), (.agg [(.val 1)])] [] [] [] [(true, [.sl])] 
 (.still (.tt true) (.var 2) [(.val 3)] 
 (.done (.agg [(.val 9)]) []))))))
def l59 : List (Nat × List Nat × List (Nat × Nat) × List Nat) := []
theorem e59 : ev Tryd.prog ⟨allF, [], l59⟩ (bodyOf Tryd.f59) 0 (initSt [(.int .i64 (.var 0)), (.agg [(.val 1)]), (.ptr (.var 2))] [] Tryd.f59.ntmps [.int .i64, .sl, .ptr]) (finK Tryd.prog Tryd.f59.results []) = t59 := by kernel_rfl
theorem c59 {G : List Value} {h : H} {R : Value → List (List Value) → H → Prop} (hG : FitsL [.int .i64, .sl, .ptr] G) (H : holds Tryd.prog R t59 G [] h) : CallsA Tryd.prog 59 (fun e => SV.denL G (fun k => e (k - 1000000)) [(.int .i64 (.var 0)), (.agg [(.val 1)]), (.ptr (.var 2))]) ([].map (SV.denL G dE)) h R :=
  CallsA.of_ev (cf := ⟨allF, [], l59⟩) (fn := Tryd.f59) (c := bodyOf Tryd.f59) (pcs := []) Tryd.func59 (by rfl) callOK (by rfl) hG (by rfl) (by rw [show ([] : List (List SV)).map List.length = [] from rfl, e59]; exact H)
/-- What is left of outworker/live.Of. -/
def t31 : Out :=
 (.alloc 26 [(.val 0)] .loc 
 (.load (.tt true) (.var 1) [.sl] 
 (.call 15 [(.agg [(.int .i64 (.len 2)), (.fn (.func 57) [] [(.ptr (.var 1))]), (.fn (.func 58) [] []), (.fn (.func 17) [] []), (.fn (.func 59) [] [(.ptr (.var 1))])])] [] [] [] [(false, [.sl])] 
 (.loop 0 [(.cst (.slice none 0 0)), (.int .i64 (.lit 0))] [.sl, .int .i64] 
  (.ite (.cmp .lss (.var 5) (.len 3))
   (.need (.tt true) [(.cmp .geq (.var 5) (.lit 0)), (.cmp .lss (.var 5) (.len 3))] 
   (.load (.tt true) (.idx (.var 3) (.var 5) 1) [.sl] 
   (.load (.tt true) (.var 1) [.sl] 
   (.need (.tt true) [(.cmp .geq (.var 5) (.lit 0)), (.cmp .lss (.var 5) (.len 7))] 
   (.load (.tt true) (.idx (.var 7) (.var 5) 5) [.sl, .int .u8, .int .i64, .int .i64, .int .i64] 
   (.call 60 [(.agg [(.val 8), (.int .u8 (.var 9)), (.int .i64 (.var 10)), (.int .i64 (.var 11)), (.int .i64 (.var 12))]), (.agg [(.val 6)])] [] [] [] [(true, [.sl])] 
   (.still (.tt true) (.var 1) [(.val 7)] 
   (.still (.tt true) (.var 1) [(.val 7)] 
   (.app 39 1 24 (.val 4) (.cells [(.val 13)] 1) 
   (.still (.tt true) (.var 1) [(.val 7)] 
   (.again 0 [(.val 14), (.int .i64 (.op .add .i64 (.var 5) (.lit 1)))])))))))))))
   (.done (.tup [(.val 4), (.val 3)]) []))))))
def l31 : List (Nat × List Nat × List (Nat × Nat) × List Nat) := [(3, [2, 14], [], [15, 16, 17, 18, 5, 4, 19, 20, 21, 22, 23, 24, 25, 26, 27, 28])]
theorem e31 : ev Tryd.prog ⟨allF, [1], l31⟩ (bodyOf Tryd.f31) 0 (initSt [(.val 0)] [] Tryd.f31.ntmps [.sl]) (finK Tryd.prog Tryd.f31.results []) = t31 := by kernel_rfl
theorem c31 {G : List Value} {h : H} {R : Value → List (List Value) → H → Prop} (hG : FitsL [.sl] G) (H : holds Tryd.prog R t31 G [] h) : CallsA Tryd.prog 31 (fun e => SV.denL G (fun k => e (k - 1000000)) [(.val 0)]) ([].map (SV.denL G dE)) h R :=
  CallsA.of_ev (cf := ⟨allF, [1], l31⟩) (fn := Tryd.f31) (c := bodyOf Tryd.f31) (pcs := []) Tryd.func31 (by rfl) callOK (by rfl) hG (by rfl) (by rw [show ([] : List (List SV)).map List.length = [] from rfl, e31]; exact H)
/-- What is left of outworker/live.Behind. -/
def t33 : Out :=
 (.call 19 [(.agg [(.val 5)])] [] [] [] [(true, [.sl])] 
 (.call 61 [(.agg [(.int .u8 (.var 1)), (.int .i64 (.var 2)), (.int .i64 (.var 3)), (.int .i64 (.var 4))])] [] [] [] [(false, [.int .i64]), (false, [.bool])] 
 (.ite (.var 8)
  (.call 55 [(.loc 5 0), (.int .i64 (.var 7))] [5] [[(.val 6)]] [[.sl]] [(false, [.bool])] 
  (.mk 39 1 24 (.len 0) 
  (.loop 0 [(.int .i64 (.op .sub .i64 (.len 0) (.lit 1))), (.val 9)] [.int .i64, .sl] 
   (.ite (.cmp .geq (.var 12) (.lit 0))
    (.call 19 [(.agg [(.val 13)])] [] [] [] [(true, [.sl])] 
    (.need (.tt true) [(.cmp .geq (.var 12) (.lit 0)), (.cmp .lss (.var 12) (.len 11))] 
    (.store (.idx (.var 11) (.var 12) 1) [(.val 14)] 
    (.need (.tt true) [(.cmp .geq (.var 12) (.lit 0)), (.cmp .lss (.var 12) (.len 0))] 
    (.load (.tt true) (.idx (.var 0) (.var 12) 7) [.int .u8, .int .u8, .int .i64, .int .i64, .int .i64, .int .i64, .sl] 
    (.call 62 [(.agg [(.int .u8 (.var 15)), (.int .u8 (.var 16)), (.int .i64 (.var 17)), (.int .i64 (.var 18)), (.int .i64 (.var 19)), (.int .i64 (.var 20)), (.val 21)]), (.loc 5 0)] [5] [[(.val 13)]] [[.sl]] [] 
    (.again 0 [(.int .i64 (.op .sub .i64 (.var 12) (.lit 1))), (.val 22)])))))))
    (.done (.val 11) [])))))
  (.mk 39 1 24 (.len 0) 
  (.loop 0 [(.int .i64 (.op .sub .i64 (.len 0) (.lit 1))), (.val 6)] [.int .i64, .sl] 
   (.ite (.cmp .geq (.var 10) (.lit 0))
    (.call 19 [(.agg [(.val 11)])] [] [] [] [(true, [.sl])] 
    (.need (.tt true) [(.cmp .geq (.var 10) (.lit 0)), (.cmp .lss (.var 10) (.len 9))] 
    (.store (.idx (.var 9) (.var 10) 1) [(.val 12)] 
    (.need (.tt true) [(.cmp .geq (.var 10) (.lit 0)), (.cmp .lss (.var 10) (.len 0))] 
    (.load (.tt true) (.idx (.var 0) (.var 10) 7) [.int .u8, .int .u8, .int .i64, .int .i64, .int .i64, .int .i64, .sl] 
    (.call 62 [(.agg [(.int .u8 (.var 13)), (.int .u8 (.var 14)), (.int .i64 (.var 15)), (.int .i64 (.var 16)), (.int .i64 (.var 17)), (.int .i64 (.var 18)), (.val 19)]), (.loc 5 0)] [5] [[(.val 11)]] [[.sl]] [] 
    (.again 0 [(.int .i64 (.op .sub .i64 (.var 10) (.lit 1))), (.val 20)])))))))
    (.done (.val 9) [])))))))
def l33 : List (Nat × List Nat × List (Nat × Nat) × List Nat) := [(7, [9], [(5, 0)], [29, 30, 33, 34, 35, 36, 37, 38, 39, 40, 41, 42, 43, 31, 32])]
theorem e33 : ev Tryd.prog ⟨allF, [], l33⟩ (bodyOf Tryd.f33) 0 (initSt [(.agg [(.val 0), (.int .u8 (.var 1)), (.int .i64 (.var 2)), (.int .i64 (.var 3)), (.int .i64 (.var 4))]), (.agg [(.val 5)])] [] Tryd.f33.ntmps [.sl, .int .u8, .int .i64, .int .i64, .int .i64, .sl]) (finK Tryd.prog Tryd.f33.results []) = t33 := by kernel_rfl
theorem c33 {G : List Value} {h : H} {R : Value → List (List Value) → H → Prop} (hG : FitsL [.sl, .int .u8, .int .i64, .int .i64, .int .i64, .sl] G) (H : holds Tryd.prog R t33 G [] h) : CallsA Tryd.prog 33 (fun e => SV.denL G (fun k => e (k - 1000000)) [(.agg [(.val 0), (.int .u8 (.var 1)), (.int .i64 (.var 2)), (.int .i64 (.var 3)), (.int .i64 (.var 4))]), (.agg [(.val 5)])]) ([].map (SV.denL G dE)) h R :=
  CallsA.of_ev (cf := ⟨allF, [], l33⟩) (fn := Tryd.f33) (c := bodyOf Tryd.f33) (pcs := []) Tryd.func33 (by rfl) callOK (by rfl) hG (by rfl) (by rw [show ([] : List (List SV)).map List.length = [] from rfl, e33]; exact H)
/-- What is left of outworker/outworkerlaw12.Awake. -/
def t29 : Out :=
 (.alloc 72 [(.int .u8 (.lit 1)), (.int .u8 (.lit 0)), (.int .i64 (.lit 0)), (.int .i64 (.lit 0)), (.int .i64 (.lit 0)), (.int .i64 (.lit 0)), (.cst (.slice none 0 0))] (.lsl 1) 
 (.alloc 66 [(.val 0), (.int .u8 (.lit 1)), (.int .i64 (.lit 0)), (.int .i64 (.lit 1)), (.int .i64 (.lit 0)), (.cst (.slice none 0 0)), (.int .u8 (.lit 3)), (.int .i64 (.lit 0)), (.int .i64 (.lit 0)), (.int .i64 (.lit 0))] (.lsl 2) 
 (.call 31 [(.val 1)] [] [] [] [(false, [.sl]), (false, [.sl])] 
 (.need (.cmp .eql (.len 2) (.lit 2)) [(.tt true), (.cmp .lss (.lit 0) (.len 2))] 
 (.load (.cmp .eql (.len 2) (.lit 2)) (.idx (.var 2) (.lit 0) 1) [.sl] 
 (.ite (.cmp .eql (.len 2) (.lit 2))
  (.call 53 [(.agg [(.val 4)])] [] [] [] [(false, [.int .i64])] 
  (.need (.cmp .eql (.var 5) (.lit 0)) [(.tt true), (.cmp .lss (.lit 0) (.len 3))] 
  (.load (.cmp .eql (.var 5) (.lit 0)) (.idx (.var 3) (.lit 0) 1) [.sl] 
  (.ite (.cmp .eql (.var 5) (.lit 0))
   (.call 23 [(.agg [(.val 6)]), (.int .i64 (.lit 0))] [] [] [] [(false, [.bool])] 
   (.need (.var 7) [(.tt true), (.cmp .lss (.lit 1) (.len 2))] 
   (.load (.var 7) (.idx (.var 2) (.lit 1) 1) [.sl] 
   (.ite (.var 7)
    (.call 23 [(.agg [(.val 8)]), (.int .i64 (.lit 0))] [] [] [] [(false, [.bool])] 
    (.need (.var 9) [(.tt true), (.cmp .lss (.lit 1) (.len 3))] 
    (.load (.var 9) (.idx (.var 3) (.lit 1) 1) [.sl] 
    (.ite (.var 9)
     (.call 53 [(.agg [(.val 10)])] [] [] [] [(false, [.int .i64])] 
     (.done (.bool (.cmp .eql (.var 11) (.lit 0))) []))
     (.done (.bool (.tt false)) [])))))
    (.done (.bool (.tt false)) [])))))
   (.done (.bool (.tt false)) [])))))
  (.done (.bool (.tt false)) [])))))))
def l29 : List (Nat × List Nat × List (Nat × Nat) × List Nat) := []
theorem e29 : ev Tryd.prog ⟨allF, [5, 10], l29⟩ (bodyOf Tryd.f29) 0 (initSt [] [] Tryd.f29.ntmps []) (finK Tryd.prog Tryd.f29.results []) = t29 := by kernel_rfl
theorem c29 {G : List Value} {h : H} {R : Value → List (List Value) → H → Prop} (hG : FitsL [] G) (H : holds Tryd.prog R t29 G [] h) : CallsA Tryd.prog 29 (fun e => SV.denL G (fun k => e (k - 1000000)) []) ([].map (SV.denL G dE)) h R :=
  CallsA.of_ev (cf := ⟨allF, [5, 10], l29⟩) (fn := Tryd.f29) (c := bodyOf Tryd.f29) (pcs := []) Tryd.func29 (by rfl) callOK (by rfl) hG (by rfl) (by rw [show ([] : List (List SV)).map List.length = [] from rfl, e29]; exact H)
/-- What is left of outworker/outworkerlaw12.LiveEdges. -/
def t6 : Out :=
 (.call 29 [] [] [] [] [(false, [.bool])] 
 (.ite (.not (.var 5))
  (.done (.bool (.tt false)) [])
  (.call 12 [(.agg [(.int .u8 (.var 0)), (.int .u8 (.var 1)), (.int .u8 (.var 2)), (.val 3)])] [] [] [] [(true, [.int .i64, .int .i64, .sl])] 
  (.call 30 [(.agg [(.int .i64 (.var 6)), (.int .i64 (.var 7)), (.val 8)]), (.val 4)] [] [] [] [(false, [.sl])] 
  (.call 31 [(.val 9)] [] [] [] [(false, [.sl]), (false, [.sl])] 
  (.loop 0 [(.int .i64 (.lit 0))] [.int .i64] 
   (.ite (.cmp .lss (.var 12) (.len 9))
    (.loop 1 [(.int .i64 (.lit 0))] [.int .i64] 
     (.ite (.cmp .lss (.var 13) (.var 7))
      (.need (.tt true) [(.cmp .geq (.var 12) (.lit 0)), (.cmp .lss (.var 12) (.len 9))] 
      (.load (.tt true) (.fld (.idx (.var 9) (.var 12) 5) 1) [.int .u8, .int .i64, .int .i64, .int .i64] 
      (.call 32 [(.agg [(.int .u8 (.var 14)), (.int .i64 (.var 15)), (.int .i64 (.var 16)), (.int .i64 (.var 17))])] [] [] [] [(false, [.sl])] 
      (.loop 2 [(.bool (.tt false)), (.int .i64 (.lit 0))] [.bool, .int .i64] 
       (.ite (.cmp .lss (.var 20) (.len 18))
        (.need (.tt true) [(.cmp .geq (.var 20) (.lit 0)), (.cmp .lss (.var 20) (.len 18))] 
        (.load (.tt true) (.idx (.var 18) (.var 20) 1) [.int .i64] 
        (.need (.not (.var 19)) [(.cmp .geq (.var 21) (.lit 0)), (.cmp .lss (.var 21) (.len 10))] 
        (.load (.not (.var 19)) (.idx (.var 10) (.var 21) 1) [.sl] 
        (.ite (.not (.var 19))
         (.call 23 [(.agg [(.val 22)]), (.int .i64 (.var 13))] [] [] [] [(false, [.bool])] 
         (.again 2 [(.bool (.var 23)), (.int .i64 (.op .add .i64 (.var 20) (.lit 1)))]))
         (.again 2 [(.bool (.tt true)), (.int .i64 (.op .add .i64 (.var 20) (.lit 1)))]))))))
        (.need (.tt true) [(.cmp .geq (.var 12) (.lit 0)), (.cmp .lss (.var 12) (.len 11))] 
        (.load (.tt true) (.idx (.var 11) (.var 12) 1) [.sl] 
        (.call 23 [(.agg [(.val 21)]), (.int .i64 (.var 13))] [] [] [] [(false, [.bool])] 
        (.ite (.ite (.var 22) (.not (.var 19)) (.var 19))
         (.done (.bool (.tt false)) [])
         (.again 1 [(.int .i64 (.op .add .i64 (.var 13) (.lit 1)))]))))))))))
      (.again 0 [(.int .i64 (.op .add .i64 (.var 12) (.lit 1)))])))
    (.done (.bool (.cmp .eql (.len 10) (.len 9))) []))))))))
def l6 : List (Nat × List Nat × List (Nat × Nat) × List Nat) := [(7, [28], [], [29, 30, 9, 31, 32, 33, 34, 35, 10, 11, 36, 37, 38, 39, 40, 41, 42, 43, 44, 45, 46, 13, 47, 48, 49, 50, 51, 52, 53, 54, 55, 56, 57, 58, 59, 60, 61, 62, 63, 64, 4, 65, 66]), (10, [33], [], [34, 35, 10, 11, 36, 37, 38, 39, 40, 41, 42, 43, 44, 45, 46, 13, 47, 48, 49, 50, 51, 52, 53, 54, 55, 56, 57, 58, 59, 60, 61, 62, 63, 64, 4, 65]), (14, [11, 43], [], [44, 45, 46, 13, 47, 48, 49, 50, 51, 52, 53, 54, 55, 56])]
theorem e6 : ev Tryd.prog ⟨allF, [], l6⟩ (bodyOf Tryd.f6) 0 (initSt [(.agg [(.int .u8 (.var 0)), (.int .u8 (.var 1)), (.int .u8 (.var 2)), (.val 3)]), (.val 4)] [] Tryd.f6.ntmps [.int .u8, .int .u8, .int .u8, .sl, .sl]) (finK Tryd.prog Tryd.f6.results []) = t6 := by kernel_rfl
theorem c6 {G : List Value} {h : H} {R : Value → List (List Value) → H → Prop} (hG : FitsL [.int .u8, .int .u8, .int .u8, .sl, .sl] G) (H : holds Tryd.prog R t6 G [] h) : CallsA Tryd.prog 6 (fun e => SV.denL G (fun k => e (k - 1000000)) [(.agg [(.int .u8 (.var 0)), (.int .u8 (.var 1)), (.int .u8 (.var 2)), (.val 3)]), (.val 4)]) ([].map (SV.denL G dE)) h R :=
  CallsA.of_ev (cf := ⟨allF, [], l6⟩) (fn := Tryd.f6) (c := bodyOf Tryd.f6) (pcs := []) Tryd.func6 (by rfl) callOK (by rfl) hG (by rfl) (by rw [show ([] : List (List SV)).map List.length = [] from rfl, e6]; exact H)
end Go.Proofs.YtbbicdfipheaeaaDoor
