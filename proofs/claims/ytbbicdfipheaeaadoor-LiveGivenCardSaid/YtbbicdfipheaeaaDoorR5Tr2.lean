/-
  What the evaluator leaves of the functions of this seat (trees, printed by a program of ours), and their contracts from it. Conditions: none.
-/
import Derived.Test.YtbbicdfipheaeaaDoorR1Tr
set_option linter.unusedVariables false
set_option linter.unusedSimpArgs false
namespace Go.Proofs.YtbbicdfipheaeaaDoor
open Go

/-- What is left of (*outworker/run.state).step. -/
def t77 : Out :=
 (.need (.tt true) [(.not (.nilp 0))] 
 (.load (.tt true) (.fld (.var 0) 68) [.sl] 
 (.ite (.cmp .eql (.var 1) (.lit 2))
  (.need (.tt true) [(.cmp .geq (.var 4) (.lit 0)), (.cmp .lss (.var 4) (.len 8))] 
  (.load (.tt true) (.idx (.var 8) (.var 4) 1) [.int .i64] 
  (.need (.tt true) [(.cmp .geq (.var 3) (.lit 0)), (.cmp .lss (.var 3) (.len 8))] 
  (.store (.idx (.var 8) (.var 3) 1) [(.int .i64 (.var 9))] 
  (.done (.bool (.tt true)) [])))))
  (.ite (.cmp .eql (.var 1) (.lit 7))
   (.need (.tt true) [(.not (.nilp 0))] 
   (.load (.tt true) (.fld (.var 0) 69) [.int .i64] 
   (.need (.tt true) [(.cmp .geq (.var 4) (.lit 0)), (.cmp .lss (.var 4) (.len 8))] 
   (.load (.tt true) (.idx (.var 8) (.var 4) 1) [.int .i64] 
   (.need (.tt true) [(.cmp .geq (.op .add .i64 (.var 9) (.var 3)) (.lit 0)), (.cmp .lss (.op .add .i64 (.var 9) (.var 3)) (.len 8))] 
   (.store (.idx (.var 8) (.op .add .i64 (.var 9) (.var 3)) 1) [(.int .i64 (.var 10))] 
   (.done (.bool (.tt true)) [])))))))
   (.ite (.cmp .eql (.var 1) (.lit 8))
    (.need (.tt true) [(.not (.nilp 0))] 
    (.load (.tt true) (.fld (.var 0) 69) [.int .i64] 
    (.need (.tt true) [(.cmp .geq (.op .add .i64 (.var 9) (.var 4)) (.lit 0)), (.cmp .lss (.op .add .i64 (.var 9) (.var 4)) (.len 8))] 
    (.load (.tt true) (.idx (.var 8) (.op .add .i64 (.var 9) (.var 4)) 1) [.int .i64] 
    (.need (.tt true) [(.cmp .geq (.var 3) (.lit 0)), (.cmp .lss (.var 3) (.len 8))] 
    (.store (.idx (.var 8) (.var 3) 1) [(.int .i64 (.var 10))] 
    (.done (.bool (.tt true)) [])))))))
    (.call 80 [(.val 0)] [] [] [] [(false, [.bool])] 
    (.ite (.not (.var 9))
     (.done (.bool (.tt false)) [])
     (.ite (.cmp .eql (.var 1) (.lit 1))
      (.need (.tt true) [(.cmp .geq (.var 3) (.lit 0)), (.cmp .lss (.var 3) (.len 8))] 
      (.store (.idx (.var 8) (.var 3) 1) [(.int .i64 (.var 6))] 
      (.done (.bool (.tt true)) [])))
      (.ite (.cmp .eql (.var 1) (.lit 3))
       (.need (.tt true) [(.cmp .geq (.var 4) (.lit 0)), (.cmp .lss (.var 4) (.len 8))] 
       (.load (.tt true) (.idx (.var 8) (.var 4) 1) [.int .i64] 
       (.need (.tt true) [(.cmp .geq (.var 5) (.lit 0)), (.cmp .lss (.var 5) (.len 8))] 
       (.load (.tt true) (.idx (.var 8) (.var 5) 1) [.int .i64] 
       (.call 81 [(.int .u8 (.var 2)), (.int .i64 (.var 10)), (.int .i64 (.var 11))] [] [] [] [(false, [.int .i64]), (false, [.bool])] 
       (.ite (.not (.var 13))
        (.need (.tt true) [(.not (.nilp 0))] 
        (.store (.fld (.fld (.var 0) 0) 0) [(.int .i64 (.lit 2))] 
        (.done (.bool (.tt false)) [])))
        (.need (.tt true) [(.cmp .geq (.var 3) (.lit 0)), (.cmp .lss (.var 3) (.len 8))] 
        (.store (.idx (.var 8) (.var 3) 1) [(.int .i64 (.var 12))] 
        (.done (.bool (.tt true)) [])))))))))
       (.ite (.cmp .eql (.var 1) (.lit 4))
        (.need (.tt true) [(.cmp .geq (.var 4) (.lit 0)), (.cmp .lss (.var 4) (.len 8))] 
        (.load (.tt true) (.idx (.var 8) (.var 4) 1) [.int .i64] 
        (.call 82 [(.val 0), (.int .i64 (.var 10))] [] [] [] [(false, [.ptr])] 
        (.need (.tt true) [(.not (.nilp 11))] 
        (.load (.tt true) (.var 11) [.int .i64] 
        (.need (.tt true) [(.cmp .geq (.var 3) (.lit 0)), (.cmp .lss (.var 3) (.len 8))] 
        (.store (.idx (.var 8) (.var 3) 1) [(.int .i64 (.var 12))] 
        (.done (.bool (.tt true)) []))))))))
        (.ite (.cmp .eql (.var 1) (.lit 5))
         (.need (.tt true) [(.cmp .geq (.var 4) (.lit 0)), (.cmp .lss (.var 4) (.len 8))] 
         (.load (.tt true) (.idx (.var 8) (.var 4) 1) [.int .i64] 
         (.need (.tt true) [(.cmp .geq (.var 5) (.lit 0)), (.cmp .lss (.var 5) (.len 8))] 
         (.load (.tt true) (.idx (.var 8) (.var 5) 1) [.int .i64] 
         (.call 82 [(.val 0), (.int .i64 (.var 10))] [] [] [] [(false, [.ptr])] 
         (.still (.tt true) (.idx (.var 8) (.var 5) 1) [(.int .i64 (.var 11))] 
         (.need (.tt true) [(.not (.nilp 12))] 
         (.store (.var 12) [(.int .i64 (.var 11))] 
         (.done (.bool (.tt true)) [])))))))))
         (.ite (.cmp .eql (.var 1) (.lit 6))
          (.call 83 [(.val 0), (.agg [(.int .u8 (.var 1)), (.int .u8 (.var 2)), (.int .i64 (.var 3)), (.int .i64 (.var 4)), (.int .i64 (.var 5)), (.int .i64 (.var 6)), (.val 7)])] [] [] [] [(false, [.int .i64])] 
          (.need (.tt true) [(.cmp .geq (.var 3) (.lit 0)), (.cmp .lss (.var 3) (.len 8))] 
          (.store (.idx (.var 8) (.var 3) 1) [(.int .i64 (.var 10))] 
          (.done (.bool (.tt true)) []))))
          (.done (.bool (.tt true)) [])))))))))))))
def l77 : List (Nat × List Nat × List (Nat × Nat) × List Nat) := []
theorem e77 : ev Tryd.prog ⟨allF, [], l77⟩ (bodyOf Tryd.f77) 0 (initSt [(.val 0), (.agg [(.int .u8 (.var 1)), (.int .u8 (.var 2)), (.int .i64 (.var 3)), (.int .i64 (.var 4)), (.int .i64 (.var 5)), (.int .i64 (.var 6)), (.val 7)])] [] Tryd.f77.ntmps [.ptr, .int .u8, .int .u8, .int .i64, .int .i64, .int .i64, .int .i64, .sl]) (finK Tryd.prog Tryd.f77.results []) = t77 := by kernel_rfl
theorem c77 {G : List Value} {h : H} {R : Value → List (List Value) → H → Prop} (hG : FitsL [.ptr, .int .u8, .int .u8, .int .i64, .int .i64, .int .i64, .int .i64, .sl] G) (H : holds Tryd.prog R t77 G [] h) : CallsA Tryd.prog 77 (fun e => SV.denL G (fun k => e (k - 1000000)) [(.val 0), (.agg [(.int .u8 (.var 1)), (.int .u8 (.var 2)), (.int .i64 (.var 3)), (.int .i64 (.var 4)), (.int .i64 (.var 5)), (.int .i64 (.var 6)), (.val 7)])]) ([].map (SV.denL G dE)) h R :=
  CallsA.of_ev (cf := ⟨allF, [], l77⟩) (fn := Tryd.f77) (c := bodyOf Tryd.f77) (pcs := []) Tryd.func77 (by rfl) callOK (by rfl) hG (by rfl) (by rw [show ([] : List (List SV)).map List.length = [] from rfl, e77]; exact H)
/-- What is left of (*outworker/run.state).end. -/
def t78 : Out :=
 (.call 80 [(.val 0)] [] [] [] [(false, [.bool])] 
 (.ite (.not (.var 5))
  (.done (.tup [(.int .i64 (.lit 0)), (.bool (.tt false))]) [])
  (.ite (.cmp .eql (.var 1) (.lit 3))
   (.need (.tt true) [(.not (.nilp 0))] 
   (.load (.tt true) (.fld (.var 0) 68) [.sl] 
   (.need (.tt true) [(.cmp .geq (.var 2) (.lit 0)), (.cmp .lss (.var 2) (.len 6))] 
   (.load (.tt true) (.idx (.var 6) (.var 2) 1) [.int .i64] 
   (.need (.tt true) [(.not (.nilp 0))] 
   (.store (.fld (.fld (.var 0) 0) 0) [(.int .i64 (.lit 1))] 
   (.need (.tt true) [(.not (.nilp 0))] 
   (.store (.fld (.fld (.var 0) 0) 1) [(.int .i64 (.var 7))] 
   (.done (.tup [(.int .i64 (.lit 0)), (.bool (.tt false))]) [])))))))))
   (.need (.cmp .eql (.var 1) (.lit 2)) [(.not (.nilp 0))] 
   (.load (.cmp .eql (.var 1) (.lit 2)) (.fld (.var 0) 68) [.sl] 
   (.need (.cmp .eql (.var 1) (.lit 2)) [(.cmp .geq (.var 2) (.lit 0)), (.cmp .lss (.var 2) (.len 6))] 
   (.load (.cmp .eql (.var 1) (.lit 2)) (.idx (.var 6) (.var 2) 1) [.int .i64] 
   (.still (.cmp .eql (.var 1) (.lit 2)) (.idx (.var 6) (.var 2) 1) [(.int .i64 (.var 7))] 
   (.still (.cmp .eql (.var 1) (.lit 2)) (.fld (.var 0) 68) [(.val 6)] 
   (.ite (.ite (.cmp .eql (.var 1) (.lit 2)) (.cmp .eql (.var 7) (.lit 0)) (.tt false))
    (.done (.tup [(.int .i64 (.var 4)), (.bool (.tt true))]) [])
    (.done (.tup [(.int .i64 (.var 3)), (.bool (.tt true))]) [])))))))))))
def l78 : List (Nat × List Nat × List (Nat × Nat) × List Nat) := []
theorem e78 : ev Tryd.prog ⟨allF, [], l78⟩ (bodyOf Tryd.f78) 0 (initSt [(.val 0), (.agg [(.int .u8 (.var 1)), (.int .i64 (.var 2)), (.int .i64 (.var 3)), (.int .i64 (.var 4))])] [] Tryd.f78.ntmps [.ptr, .int .u8, .int .i64, .int .i64, .int .i64]) (finK Tryd.prog Tryd.f78.results []) = t78 := by kernel_rfl
theorem c78 {G : List Value} {h : H} {R : Value → List (List Value) → H → Prop} (hG : FitsL [.ptr, .int .u8, .int .i64, .int .i64, .int .i64] G) (H : holds Tryd.prog R t78 G [] h) : CallsA Tryd.prog 78 (fun e => SV.denL G (fun k => e (k - 1000000)) [(.val 0), (.agg [(.int .u8 (.var 1)), (.int .i64 (.var 2)), (.int .i64 (.var 3)), (.int .i64 (.var 4))])]) ([].map (SV.denL G dE)) h R :=
  CallsA.of_ev (cf := ⟨allF, [], l78⟩) (fn := Tryd.f78) (c := bodyOf Tryd.f78) (pcs := []) Tryd.func78 (by rfl) callOK (by rfl) hG (by rfl) (by rw [show ([] : List (List SV)).map List.length = [] from rfl, e78]; exact H)
/-- What is left of (*outworker/run.state).cost. -/
def t80 : Out :=
 (.need (.tt true) [(.not (.nilp 0))] 
 (.load (.tt true) (.fld (.fld (.var 0) 0) 67) [.int .i64] 
 (.ite (.cmp .eql (.var 1) (.lit 0))
  (.need (.tt true) [(.not (.nilp 0))] 
  (.store (.fld (.fld (.var 0) 0) 0) [(.int .i64 (.lit 3))] 
  (.done (.bool (.tt false)) [])))
  (.need (.tt true) [(.not (.nilp 0))] 
  (.load (.tt true) (.fld (.fld (.var 0) 0) 67) [.int .i64] 
  (.need (.tt true) [(.not (.nilp 0))] 
  (.store (.fld (.fld (.var 0) 0) 67) [(.int .i64 (.op .sub .i64 (.var 2) (.lit 1)))] 
  (.done (.bool (.tt true)) []))))))))
def l80 : List (Nat × List Nat × List (Nat × Nat) × List Nat) := []
theorem e80 : ev Tryd.prog ⟨allF, [], l80⟩ (bodyOf Tryd.f80) 0 (initSt [(.val 0)] [] Tryd.f80.ntmps [.ptr]) (finK Tryd.prog Tryd.f80.results []) = t80 := by kernel_rfl
theorem c80 {G : List Value} {h : H} {R : Value → List (List Value) → H → Prop} (hG : FitsL [.ptr] G) (H : holds Tryd.prog R t80 G [] h) : CallsA Tryd.prog 80 (fun e => SV.denL G (fun k => e (k - 1000000)) [(.val 0)]) ([].map (SV.denL G dE)) h R :=
  CallsA.of_ev (cf := ⟨allF, [], l80⟩) (fn := Tryd.f80) (c := bodyOf Tryd.f80) (pcs := []) Tryd.func80 (by rfl) callOK (by rfl) hG (by rfl) (by rw [show ([] : List (List SV)).map List.length = [] from rfl, e80]; exact H)
/-- What is left of (*outworker/run.state).word. -/
def t82 : Out :=
 (.need (.tt true) [(.not (.nilp 0))] 
 (.need (.tt true) [(.cmp .geq (.op .rem .u64 (.conv .u64 (.var 1)) (.lit 64)) (.lit 0)), (.cmp .lss (.op .rem .u64 (.conv .u64 (.var 1)) (.lit 64)) (.lit 64))] 
 (.done (.ptr (.idx (.fld (.fld (.var 0) 0) 3) (.op .rem .u64 (.conv .u64 (.var 1)) (.lit 64)) 1)) [])))
def l82 : List (Nat × List Nat × List (Nat × Nat) × List Nat) := []
theorem e82 : ev Tryd.prog ⟨allF, [], l82⟩ (bodyOf Tryd.f82) 0 (initSt [(.val 0), (.int .i64 (.var 1))] [] Tryd.f82.ntmps [.ptr, .int .i64]) (finK Tryd.prog Tryd.f82.results []) = t82 := by kernel_rfl
theorem c82 {G : List Value} {h : H} {R : Value → List (List Value) → H → Prop} (hG : FitsL [.ptr, .int .i64] G) (H : holds Tryd.prog R t82 G [] h) : CallsA Tryd.prog 82 (fun e => SV.denL G (fun k => e (k - 1000000)) [(.val 0), (.int .i64 (.var 1))]) ([].map (SV.denL G dE)) h R :=
  CallsA.of_ev (cf := ⟨allF, [], l82⟩) (fn := Tryd.f82) (c := bodyOf Tryd.f82) (pcs := []) Tryd.func82 (by rfl) callOK (by rfl) hG (by rfl) (by rw [show ([] : List (List SV)).map List.length = [] from rfl, e82]; exact H)
/-- What is left of (*outworker/run.state).call. -/
def t83 : Out :=
 (.loop 0 [(.int .i64 (.lit 0)), (.cst (.slice none 0 0))] [.int .i64, .sl] 
  (.ite (.cmp .lss (.var 8) (.len 7))
   (.need (.tt true) [(.cmp .geq (.var 8) (.lit 0)), (.cmp .lss (.var 8) (.len 7))] 
   (.load (.tt true) (.idx (.var 7) (.var 8) 1) [.int .i64] 
   (.need (.tt true) [(.not (.nilp 0))] 
   (.load (.tt true) (.fld (.var 0) 68) [.sl] 
   (.need (.tt true) [(.cmp .geq (.var 10) (.lit 0)), (.cmp .lss (.var 10) (.len 11))] 
   (.load (.tt true) (.idx (.var 11) (.var 10) 1) [.int .i64] 
   (.still (.tt true) (.fld (.var 0) 68) [(.val 11)] 
   (.app 2 1 8 (.val 9) (.cells [(.int .i64 (.var 12))] 1) 
   (.still (.tt true) (.fld (.var 0) 68) [(.val 11)] 
   (.again 0 [(.int .i64 (.op .add .i64 (.var 8) (.lit 1))), (.val 13)]))))))))))
   (.need (.tt true) [(.not (.nilp 0))] 
   (.load (.tt true) (.fld (.fld (.var 0) 0) 2) [.sl] 
   (.still (.tt true) (.fld (.fld (.var 0) 0) 2) [(.val 10)] 
   (.app 123 2 32 (.val 10) (.cells [(.int .i64 (.var 6)), (.val 9)] 1) 
   (.need (.tt true) [(.not (.nilp 0))] 
   (.store (.fld (.fld (.var 0) 0) 2) [(.val 11)] 
   (.need (.tt true) [(.not (.nilp 0))] 
   (.load (.tt true) (.fld (.var 0) 70) [.sl] 
   (.ite (.cmp .gtr (.len 12) (.lit 0))
    (.need (.tt true) [(.not (.nilp 0))] 
    (.load (.tt true) (.fld (.var 0) 70) [.sl] 
    (.need (.tt true) [(.tt true), (.cmp .lss (.lit 0) (.len 13))] 
    (.load (.tt true) (.idx (.var 13) (.lit 0) 1) [.int .i64] 
    (.need (.tt true) [(.not (.nilp 0))] 
    (.load (.tt true) (.fld (.var 0) 70) [.sl] 
    (.need (.tt true) [(.tt true), (.cmp .leq (.lit 1) (.len 15))] 
    (.bnd (.slice (.val 15) (some (.lit 1)) none 1) 
    (.still (.tt true) (.fld (.var 0) 70) [(.val 15)] 
    (.need (.tt true) [(.not (.nilp 0))] 
    (.store (.fld (.var 0) 70) [(.val 16)] 
    (.done (.int .i64 (.var 14)) []))))))))))))
    (.done (.int .i64 (.lit 0)) []))))))))))))
def l83 : List (Nat × List Nat × List (Nat × Nat) × List Nat) := [(3, [15], [(5, 1)], [16, 17, 18, 7, 19, 20, 21, 22, 23, 24, 25, 26, 27, 28, 29, 30, 31])]
theorem e83 : ev Tryd.prog ⟨allF, [], l83⟩ (bodyOf Tryd.f83) 0 (initSt [(.val 0), (.agg [(.int .u8 (.var 1)), (.int .u8 (.var 2)), (.int .i64 (.var 3)), (.int .i64 (.var 4)), (.int .i64 (.var 5)), (.int .i64 (.var 6)), (.val 7)])] [] Tryd.f83.ntmps [.ptr, .int .u8, .int .u8, .int .i64, .int .i64, .int .i64, .int .i64, .sl]) (finK Tryd.prog Tryd.f83.results []) = t83 := by kernel_rfl
theorem c83 {G : List Value} {h : H} {R : Value → List (List Value) → H → Prop} (hG : FitsL [.ptr, .int .u8, .int .u8, .int .i64, .int .i64, .int .i64, .int .i64, .sl] G) (H : holds Tryd.prog R t83 G [] h) : CallsA Tryd.prog 83 (fun e => SV.denL G (fun k => e (k - 1000000)) [(.val 0), (.agg [(.int .u8 (.var 1)), (.int .u8 (.var 2)), (.int .i64 (.var 3)), (.int .i64 (.var 4)), (.int .i64 (.var 5)), (.int .i64 (.var 6)), (.val 7)])]) ([].map (SV.denL G dE)) h R :=
  CallsA.of_ev (cf := ⟨allF, [], l83⟩) (fn := Tryd.f83) (c := bodyOf Tryd.f83) (pcs := []) Tryd.func83 (by rfl) callOK (by rfl) hG (by rfl) (by rw [show ([] : List (List SV)).map List.length = [] from rfl, e83]; exact H)
/-- What is left of outworker/run.bin. -/
def t81 : Out :=
 (.ite (.cmp .eql (.var 0) (.lit 1))
  (.done (.tup [(.int .i64 (.op .add .i64 (.var 1) (.var 2))), (.bool (.tt true))]) [])
  (.ite (.cmp .eql (.var 0) (.lit 2))
   (.done (.tup [(.int .i64 (.op .sub .i64 (.var 1) (.var 2))), (.bool (.tt true))]) [])
   (.ite (.cmp .eql (.var 0) (.lit 3))
    (.done (.tup [(.int .i64 (.op .mul .i64 (.var 1) (.var 2))), (.bool (.tt true))]) [])
    (.ite (.cmp .eql (.var 0) (.lit 4))
     (.done (.tup [(.int .i64 (.op .and .i64 (.var 1) (.var 2))), (.bool (.tt true))]) [])
     (.ite (.cmp .eql (.var 0) (.lit 5))
      (.done (.tup [(.int .i64 (.op .xor .i64 (.var 1) (.var 2))), (.bool (.tt true))]) [])
      (.ite (.cmp .eql (.var 0) (.lit 6))
       (.ite (.cmp .lss (.var 1) (.var 2))
        (.done (.tup [(.int .i64 (.lit 1)), (.bool (.tt true))]) [])
        (.done (.tup [(.int .i64 (.lit 0)), (.bool (.tt true))]) []))
       (.ite (.cmp .eql (.var 2) (.lit 0))
        (.done (.tup [(.int .i64 (.lit 0)), (.bool (.tt false))]) [])
        (.need (.tt true) [(.cmp .neq (.var 2) (.lit 0))] 
        (.done (.tup [(.int .i64 (.op .quo .i64 (.var 1) (.var 2))), (.bool (.tt true))]) [])))))))))
def l81 : List (Nat × List Nat × List (Nat × Nat) × List Nat) := []
theorem e81 : ev Tryd.prog ⟨allF, [], l81⟩ (bodyOf Tryd.f81) 0 (initSt [(.int .u8 (.var 0)), (.int .i64 (.var 1)), (.int .i64 (.var 2))] [] Tryd.f81.ntmps [.int .u8, .int .i64, .int .i64]) (finK Tryd.prog Tryd.f81.results []) = t81 := by kernel_rfl
theorem c81 {G : List Value} {h : H} {R : Value → List (List Value) → H → Prop} (hG : FitsL [.int .u8, .int .i64, .int .i64] G) (H : holds Tryd.prog R t81 G [] h) : CallsA Tryd.prog 81 (fun e => SV.denL G (fun k => e (k - 1000000)) [(.int .u8 (.var 0)), (.int .i64 (.var 1)), (.int .i64 (.var 2))]) ([].map (SV.denL G dE)) h R :=
  CallsA.of_ev (cf := ⟨allF, [], l81⟩) (fn := Tryd.f81) (c := bodyOf Tryd.f81) (pcs := []) Tryd.func81 (by rfl) callOK (by rfl) hG (by rfl) (by rw [show ([] : List (List SV)).map List.length = [] from rfl, e81]; exact H)
/-- What is left of outworker/run.Check. -/
def t65 : Out :=
 (.ite (.cmp .neq (.len 1) (.var 0))
  (.done (.int .i64 (.lit 25)) [])
  (.ite (.ite (.cmp .lss (.var 4) (.lit 0)) (.tt true) (.cmp .gtr (.var 4) (.lit 1048576)))
   (.done (.int .i64 (.lit 2)) [])
   (.done (.int .i64 (.lit 0)) [])))
def l65 : List (Nat × List Nat × List (Nat × Nat) × List Nat) := []
theorem e65 : ev Tryd.prog ⟨allF, [], l65⟩ (bodyOf Tryd.f65) 0 (initSt [(.int .i64 (.var 0)), (.agg [(.val 1), (.val 2), (.val 3), (.int .i64 (.var 4))])] [] Tryd.f65.ntmps [.int .i64, .sl, .sl, .sl, .int .i64]) (finK Tryd.prog Tryd.f65.results []) = t65 := by kernel_rfl
theorem c65 {G : List Value} {h : H} {R : Value → List (List Value) → H → Prop} (hG : FitsL [.int .i64, .sl, .sl, .sl, .int .i64] G) (H : holds Tryd.prog R t65 G [] h) : CallsA Tryd.prog 65 (fun e => SV.denL G (fun k => e (k - 1000000)) [(.int .i64 (.var 0)), (.agg [(.val 1), (.val 2), (.val 3), (.int .i64 (.var 4))])]) ([].map (SV.denL G dE)) h R :=
  CallsA.of_ev (cf := ⟨allF, [], l65⟩) (fn := Tryd.f65) (c := bodyOf Tryd.f65) (pcs := []) Tryd.func65 (by rfl) callOK (by rfl) hG (by rfl) (by rw [show ([] : List (List SV)).map List.length = [] from rfl, e65]; exact H)
/-- What is left of outworker/run.Do. -/
def t66 : Out :=
 (.mk 2 1 8 (.op .add .i64 (.var 1) (.var 2)) 
 (.alloc 134 [(.int .i64 (.lit 0)), (.int .i64 (.lit 0)), (.cst (.slice none 0 0)), (.int .i64 (.lit 0)), (.int .i64 (.lit 0)), (.int .i64 (.lit 0)), (.int .i64 (.lit 0)), (.int .i64 (.lit 0)), (.int .i64 (.lit 0)), (.int .i64 (.lit 0)), (.int .i64 (.lit 0)), (.int .i64 (.lit 0)), (.int .i64 (.lit 0)), (.int .i64 (.lit 0)), (.int .i64 (.lit 0)), (.int .i64 (.lit 0)), (.int .i64 (.lit 0)), (.int .i64 (.lit 0)), (.int .i64 (.lit 0)), (.int .i64 (.lit 0)), (.int .i64 (.lit 0)), (.int .i64 (.lit 0)), (.int .i64 (.lit 0)), (.int .i64 (.lit 0)), (.int .i64 (.lit 0)), (.int .i64 (.lit 0)), (.int .i64 (.lit 0)), (.int .i64 (.lit 0)), (.int .i64 (.lit 0)), (.int .i64 (.lit 0)), (.int .i64 (.lit 0)), (.int .i64 (.lit 0)), (.int .i64 (.lit 0)), (.int .i64 (.lit 0)), (.int .i64 (.lit 0)), (.int .i64 (.lit 0)), (.int .i64 (.lit 0)), (.int .i64 (.lit 0)), (.int .i64 (.lit 0)), (.int .i64 (.lit 0)), (.int .i64 (.lit 0)), (.int .i64 (.lit 0)), (.int .i64 (.lit 0)), (.int .i64 (.lit 0)), (.int .i64 (.lit 0)), (.int .i64 (.lit 0)), (.int .i64 (.lit 0)), (.int .i64 (.lit 0)), (.int .i64 (.lit 0)), (.int .i64 (.lit 0)), (.int .i64 (.lit 0)), (.int .i64 (.lit 0)), (.int .i64 (.lit 0)), (.int .i64 (.lit 0)), (.int .i64 (.lit 0)), (.int .i64 (.lit 0)), (.int .i64 (.lit 0)), (.int .i64 (.lit 0)), (.int .i64 (.lit 0)), (.int .i64 (.lit 0)), (.int .i64 (.lit 0)), (.int .i64 (.lit 0)), (.int .i64 (.lit 0)), (.int .i64 (.lit 0)), (.int .i64 (.lit 0)), (.int .i64 (.lit 0)), (.int .i64 (.lit 0)), (.int .i64 (.lit 0)), (.val 8), (.int .i64 (.var 1)), (.val 6)] .loc 
 (.load (.tt true) (.fld (.var 9) 68) [.sl] 
 (.need (.tt true) [(.cmp .geq (.var 3) (.lit 0)), (.cmp .leq (.var 3) (.len 10))] 
 (.bnd (.slice (.val 10) (some (.var 3)) none 1) 
 (.copy 1 (.val 11) (.val 4) 
 (.still (.tt true) (.fld (.var 9) 68) [(.val 10)] 
 (.bnd (.arr (.fld (.fld (.var 9) 0) 3) none none 64 1) 
 (.copy 1 (.val 13) (.val 5) 
 (.store (.fld (.fld (.var 9) 0) 67) [(.int .i64 (.var 7))] 
 (.loop 0 [(.int .i64 (.lit 0)), (.bool (.tt true))] [.int .i64, .bool] 
  (.ite (.var 16)
   (.need (.tt true) [(.cmp .geq (.var 15) (.lit 0)), (.cmp .lss (.var 15) (.len 0))] 
   (.load (.tt true) (.fld (.idx (.var 0) (.var 15) 5) 0) [.sl] 
   (.loop 1 [(.int .i64 (.lit 0))] [.int .i64] 
    (.ite (.cmp .lss (.var 18) (.len 17))
     (.need (.tt true) [(.cmp .geq (.var 18) (.lit 0)), (.cmp .lss (.var 18) (.len 17))] 
     (.load (.tt true) (.idx (.var 17) (.var 18) 7) [.int .u8, .int .u8, .int .i64, .int .i64, .int .i64, .int .i64, .sl] 
     (.call 77 [(.ptr (.var 9)), (.agg [(.int .u8 (.var 19)), (.int .u8 (.var 20)), (.int .i64 (.var 21)), (.int .i64 (.var 22)), (.int .i64 (.var 23)), (.int .i64 (.var 24)), (.val 25)])] [] [] [] [(false, [.bool])] 
     (.ite (.not (.var 26))
      (.load (.tt true) (.fld (.var 9) 0) [.int .i64, .int .i64, .sl, .int .i64, .int .i64, .int .i64, .int .i64, .int .i64, .int .i64, .int .i64, .int .i64, .int .i64, .int .i64, .int .i64, .int .i64, .int .i64, .int .i64, .int .i64, .int .i64, .int .i64, .int .i64, .int .i64, .int .i64, .int .i64, .int .i64, .int .i64, .int .i64, .int .i64, .int .i64, .int .i64, .int .i64, .int .i64, .int .i64, .int .i64, .int .i64, .int .i64, .int .i64, .int .i64, .int .i64, .int .i64, .int .i64, .int .i64, .int .i64, .int .i64, .int .i64, .int .i64, .int .i64, .int .i64, .int .i64, .int .i64, .int .i64, .int .i64, .int .i64, .int .i64, .int .i64, .int .i64, .int .i64, .int .i64, .int .i64, .int .i64, .int .i64, .int .i64, .int .i64, .int .i64, .int .i64, .int .i64, .int .i64, .int .i64] 
      (.done (.agg [(.int .i64 (.var 27)), (.int .i64 (.var 28)), (.val 29), (.int .i64 (.var 30)), (.int .i64 (.var 31)), (.int .i64 (.var 32)), (.int .i64 (.var 33)), (.int .i64 (.var 34)), (.int .i64 (.var 35)), (.int .i64 (.var 36)), (.int .i64 (.var 37)), (.int .i64 (.var 38)), (.int .i64 (.var 39)), (.int .i64 (.var 40)), (.int .i64 (.var 41)), (.int .i64 (.var 42)), (.int .i64 (.var 43)), (.int .i64 (.var 44)), (.int .i64 (.var 45)), (.int .i64 (.var 46)), (.int .i64 (.var 47)), (.int .i64 (.var 48)), (.int .i64 (.var 49)), (.int .i64 (.var 50)), (.int .i64 (.var 51)), (.int .i64 (.var 52)), (.int .i64 (.var 53)), (.int .i64 (.var 54)), (.int .i64 (.var 55)), (.int .i64 (.var 56)), (.int .i64 (.var 57)), (.int .i64 (.var 58)), (.int .i64 (.var 59)), (.int .i64 (.var 60)), (.int .i64 (.var 61)), (.int .i64 (.var 62)), (.int .i64 (.var 63)), (.int .i64 (.var 64)), (.int .i64 (.var 65)), (.int .i64 (.var 66)), (.int .i64 (.var 67)), (.int .i64 (.var 68)), (.int .i64 (.var 69)), (.int .i64 (.var 70)), (.int .i64 (.var 71)), (.int .i64 (.var 72)), (.int .i64 (.var 73)), (.int .i64 (.var 74)), (.int .i64 (.var 75)), (.int .i64 (.var 76)), (.int .i64 (.var 77)), (.int .i64 (.var 78)), (.int .i64 (.var 79)), (.int .i64 (.var 80)), (.int .i64 (.var 81)), (.int .i64 (.var 82)), (.int .i64 (.var 83)), (.int .i64 (.var 84)), (.int .i64 (.var 85)), (.int .i64 (.var 86)), (.int .i64 (.var 87)), (.int .i64 (.var 88)), (.int .i64 (.var 89)), (.int .i64 (.var 90)), (.int .i64 (.var 91)), (.int .i64 (.var 92)), (.int .i64 (.var 93)), (.int .i64 (.var 94))]) []))
      (.again 1 [(.int .i64 (.op .add .i64 (.var 18) (.lit 1)))])))))
     (.need (.tt true) [(.cmp .geq (.var 15) (.lit 0)), (.cmp .lss (.var 15) (.len 0))] 
     (.load (.tt true) (.fld (.idx (.var 0) (.var 15) 5) 1) [.int .u8, .int .i64, .int .i64, .int .i64] 
     (.call 78 [(.ptr (.var 9)), (.agg [(.int .u8 (.var 19)), (.int .i64 (.var 20)), (.int .i64 (.var 21)), (.int .i64 (.var 22))])] [] [] [] [(false, [.int .i64]), (false, [.bool])] 
     (.again 0 [(.int .i64 (.var 23)), (.bool (.var 24))]))))))))
   (.load (.tt true) (.fld (.var 9) 0) [.int .i64, .int .i64, .sl, .int .i64, .int .i64, .int .i64, .int .i64, .int .i64, .int .i64, .int .i64, .int .i64, .int .i64, .int .i64, .int .i64, .int .i64, .int .i64, .int .i64, .int .i64, .int .i64, .int .i64, .int .i64, .int .i64, .int .i64, .int .i64, .int .i64, .int .i64, .int .i64, .int .i64, .int .i64, .int .i64, .int .i64, .int .i64, .int .i64, .int .i64, .int .i64, .int .i64, .int .i64, .int .i64, .int .i64, .int .i64, .int .i64, .int .i64, .int .i64, .int .i64, .int .i64, .int .i64, .int .i64, .int .i64, .int .i64, .int .i64, .int .i64, .int .i64, .int .i64, .int .i64, .int .i64, .int .i64, .int .i64, .int .i64, .int .i64, .int .i64, .int .i64, .int .i64, .int .i64, .int .i64, .int .i64, .int .i64, .int .i64, .int .i64] 
   (.done (.agg [(.int .i64 (.var 17)), (.int .i64 (.var 18)), (.val 19), (.int .i64 (.var 20)), (.int .i64 (.var 21)), (.int .i64 (.var 22)), (.int .i64 (.var 23)), (.int .i64 (.var 24)), (.int .i64 (.var 25)), (.int .i64 (.var 26)), (.int .i64 (.var 27)), (.int .i64 (.var 28)), (.int .i64 (.var 29)), (.int .i64 (.var 30)), (.int .i64 (.var 31)), (.int .i64 (.var 32)), (.int .i64 (.var 33)), (.int .i64 (.var 34)), (.int .i64 (.var 35)), (.int .i64 (.var 36)), (.int .i64 (.var 37)), (.int .i64 (.var 38)), (.int .i64 (.var 39)), (.int .i64 (.var 40)), (.int .i64 (.var 41)), (.int .i64 (.var 42)), (.int .i64 (.var 43)), (.int .i64 (.var 44)), (.int .i64 (.var 45)), (.int .i64 (.var 46)), (.int .i64 (.var 47)), (.int .i64 (.var 48)), (.int .i64 (.var 49)), (.int .i64 (.var 50)), (.int .i64 (.var 51)), (.int .i64 (.var 52)), (.int .i64 (.var 53)), (.int .i64 (.var 54)), (.int .i64 (.var 55)), (.int .i64 (.var 56)), (.int .i64 (.var 57)), (.int .i64 (.var 58)), (.int .i64 (.var 59)), (.int .i64 (.var 60)), (.int .i64 (.var 61)), (.int .i64 (.var 62)), (.int .i64 (.var 63)), (.int .i64 (.var 64)), (.int .i64 (.var 65)), (.int .i64 (.var 66)), (.int .i64 (.var 67)), (.int .i64 (.var 68)), (.int .i64 (.var 69)), (.int .i64 (.var 70)), (.int .i64 (.var 71)), (.int .i64 (.var 72)), (.int .i64 (.var 73)), (.int .i64 (.var 74)), (.int .i64 (.var 75)), (.int .i64 (.var 76)), (.int .i64 (.var 77)), (.int .i64 (.var 78)), (.int .i64 (.var 79)), (.int .i64 (.var 80)), (.int .i64 (.var 81)), (.int .i64 (.var 82)), (.int .i64 (.var 83)), (.int .i64 (.var 84))]) []))))))))))))))
def l66 : List (Nat × List Nat × List (Nat × Nat) × List Nat) := [(6, [12, 13], [], [48, 49, 50, 51, 52, 53, 54, 55, 56, 57, 58, 15, 59, 60, 61, 62, 63, 64, 65, 66, 67, 69, 70, 71, 72, 73, 74, 75, 68, 76, 77]), (8, [55], [], [56, 57, 58, 15, 59, 60, 61, 62, 63, 64, 65, 66, 67])]
theorem e66 : ev Tryd.prog ⟨allF, [24], l66⟩ (bodyOf Tryd.f66) 0 (initSt [(.val 0), (.int .i64 (.var 1)), (.int .i64 (.var 2)), (.int .i64 (.var 3)), (.agg [(.val 4), (.val 5), (.val 6), (.int .i64 (.var 7))])] [] Tryd.f66.ntmps [.sl, .int .i64, .int .i64, .int .i64, .sl, .sl, .sl, .int .i64]) (finK Tryd.prog Tryd.f66.results []) = t66 := by kernel_rfl
theorem c66 {G : List Value} {h : H} {R : Value → List (List Value) → H → Prop} (hG : FitsL [.sl, .int .i64, .int .i64, .int .i64, .sl, .sl, .sl, .int .i64] G) (H : holds Tryd.prog R t66 G [] h) : CallsA Tryd.prog 66 (fun e => SV.denL G (fun k => e (k - 1000000)) [(.val 0), (.int .i64 (.var 1)), (.int .i64 (.var 2)), (.int .i64 (.var 3)), (.agg [(.val 4), (.val 5), (.val 6), (.int .i64 (.var 7))])]) ([].map (SV.denL G dE)) h R :=
  CallsA.of_ev (cf := ⟨allF, [24], l66⟩) (fn := Tryd.f66) (c := bodyOf Tryd.f66) (pcs := []) Tryd.func66 (by rfl) callOK (by rfl) hG (by rfl) (by rw [show ([] : List (List SV)).map List.length = [] from rfl, e66]; exact H)
/-- What is left of outworker/run.Run. -/
def t37 : Out :=
 (.call 64 [(.agg [(.int .i64 (.var 0)), (.int .i64 (.var 1)), (.val 2)])] [] [] [] [(true, [.int .i64, .int .i64, .int .i64])] 
 (.ite (.cmp .neq (.var 7) (.lit 0))
  (.done (.tup [(.agg [(.int .i64 (.lit 0)), (.int .i64 (.lit 0)), (.cst (.slice none 0 0)), (.int .i64 (.lit 0)), (.int .i64 (.lit 0)), (.int .i64 (.lit 0)), (.int .i64 (.lit 0)), (.int .i64 (.lit 0)), (.int .i64 (.lit 0)), (.int .i64 (.lit 0)), (.int .i64 (.lit 0)), (.int .i64 (.lit 0)), (.int .i64 (.lit 0)), (.int .i64 (.lit 0)), (.int .i64 (.lit 0)), (.int .i64 (.lit 0)), (.int .i64 (.lit 0)), (.int .i64 (.lit 0)), (.int .i64 (.lit 0)), (.int .i64 (.lit 0)), (.int .i64 (.lit 0)), (.int .i64 (.lit 0)), (.int .i64 (.lit 0)), (.int .i64 (.lit 0)), (.int .i64 (.lit 0)), (.int .i64 (.lit 0)), (.int .i64 (.lit 0)), (.int .i64 (.lit 0)), (.int .i64 (.lit 0)), (.int .i64 (.lit 0)), (.int .i64 (.lit 0)), (.int .i64 (.lit 0)), (.int .i64 (.lit 0)), (.int .i64 (.lit 0)), (.int .i64 (.lit 0)), (.int .i64 (.lit 0)), (.int .i64 (.lit 0)), (.int .i64 (.lit 0)), (.int .i64 (.lit 0)), (.int .i64 (.lit 0)), (.int .i64 (.lit 0)), (.int .i64 (.lit 0)), (.int .i64 (.lit 0)), (.int .i64 (.lit 0)), (.int .i64 (.lit 0)), (.int .i64 (.lit 0)), (.int .i64 (.lit 0)), (.int .i64 (.lit 0)), (.int .i64 (.lit 0)), (.int .i64 (.lit 0)), (.int .i64 (.lit 0)), (.int .i64 (.lit 0)), (.int .i64 (.lit 0)), (.int .i64 (.lit 0)), (.int .i64 (.lit 0)), (.int .i64 (.lit 0)), (.int .i64 (.lit 0)), (.int .i64 (.lit 0)), (.int .i64 (.lit 0)), (.int .i64 (.lit 0)), (.int .i64 (.lit 0)), (.int .i64 (.lit 0)), (.int .i64 (.lit 0)), (.int .i64 (.lit 0)), (.int .i64 (.lit 0)), (.int .i64 (.lit 0)), (.int .i64 (.lit 0)), (.int .i64 (.lit 0))]), (.int .i64 (.lit 30))]) [])
  (.call 65 [(.int .i64 (.var 0)), (.agg [(.val 3), (.val 4), (.val 5), (.int .i64 (.var 6))])] [] [] [] [(false, [.int .i64])] 
  (.ite (.cmp .neq (.var 10) (.lit 0))
   (.done (.tup [(.agg [(.int .i64 (.lit 0)), (.int .i64 (.lit 0)), (.cst (.slice none 0 0)), (.int .i64 (.lit 0)), (.int .i64 (.lit 0)), (.int .i64 (.lit 0)), (.int .i64 (.lit 0)), (.int .i64 (.lit 0)), (.int .i64 (.lit 0)), (.int .i64 (.lit 0)), (.int .i64 (.lit 0)), (.int .i64 (.lit 0)), (.int .i64 (.lit 0)), (.int .i64 (.lit 0)), (.int .i64 (.lit 0)), (.int .i64 (.lit 0)), (.int .i64 (.lit 0)), (.int .i64 (.lit 0)), (.int .i64 (.lit 0)), (.int .i64 (.lit 0)), (.int .i64 (.lit 0)), (.int .i64 (.lit 0)), (.int .i64 (.lit 0)), (.int .i64 (.lit 0)), (.int .i64 (.lit 0)), (.int .i64 (.lit 0)), (.int .i64 (.lit 0)), (.int .i64 (.lit 0)), (.int .i64 (.lit 0)), (.int .i64 (.lit 0)), (.int .i64 (.lit 0)), (.int .i64 (.lit 0)), (.int .i64 (.lit 0)), (.int .i64 (.lit 0)), (.int .i64 (.lit 0)), (.int .i64 (.lit 0)), (.int .i64 (.lit 0)), (.int .i64 (.lit 0)), (.int .i64 (.lit 0)), (.int .i64 (.lit 0)), (.int .i64 (.lit 0)), (.int .i64 (.lit 0)), (.int .i64 (.lit 0)), (.int .i64 (.lit 0)), (.int .i64 (.lit 0)), (.int .i64 (.lit 0)), (.int .i64 (.lit 0)), (.int .i64 (.lit 0)), (.int .i64 (.lit 0)), (.int .i64 (.lit 0)), (.int .i64 (.lit 0)), (.int .i64 (.lit 0)), (.int .i64 (.lit 0)), (.int .i64 (.lit 0)), (.int .i64 (.lit 0)), (.int .i64 (.lit 0)), (.int .i64 (.lit 0)), (.int .i64 (.lit 0)), (.int .i64 (.lit 0)), (.int .i64 (.lit 0)), (.int .i64 (.lit 0)), (.int .i64 (.lit 0)), (.int .i64 (.lit 0)), (.int .i64 (.lit 0)), (.int .i64 (.lit 0)), (.int .i64 (.lit 0)), (.int .i64 (.lit 0)), (.int .i64 (.lit 0))]), (.int .i64 (.var 10))]) [])
   (.call 66 [(.val 2), (.int .i64 (.var 1)), (.int .i64 (.lit 0)), (.int .i64 (.lit 0)), (.agg [(.val 3), (.val 4), (.val 5), (.int .i64 (.var 6))])] [] [] [] [(true, [.int .i64, .int .i64, .sl, .int .i64, .int .i64, .int .i64, .int .i64, .int .i64, .int .i64, .int .i64, .int .i64, .int .i64, .int .i64, .int .i64, .int .i64, .int .i64, .int .i64, .int .i64, .int .i64, .int .i64, .int .i64, .int .i64, .int .i64, .int .i64, .int .i64, .int .i64, .int .i64, .int .i64, .int .i64, .int .i64, .int .i64, .int .i64, .int .i64, .int .i64, .int .i64, .int .i64, .int .i64, .int .i64, .int .i64, .int .i64, .int .i64, .int .i64, .int .i64, .int .i64, .int .i64, .int .i64, .int .i64, .int .i64, .int .i64, .int .i64, .int .i64, .int .i64, .int .i64, .int .i64, .int .i64, .int .i64, .int .i64, .int .i64, .int .i64, .int .i64, .int .i64, .int .i64, .int .i64, .int .i64, .int .i64, .int .i64, .int .i64, .int .i64])] 
   (.done (.tup [(.agg [(.int .i64 (.var 11)), (.int .i64 (.var 12)), (.val 13), (.int .i64 (.var 14)), (.int .i64 (.var 15)), (.int .i64 (.var 16)), (.int .i64 (.var 17)), (.int .i64 (.var 18)), (.int .i64 (.var 19)), (.int .i64 (.var 20)), (.int .i64 (.var 21)), (.int .i64 (.var 22)), (.int .i64 (.var 23)), (.int .i64 (.var 24)), (.int .i64 (.var 25)), (.int .i64 (.var 26)), (.int .i64 (.var 27)), (.int .i64 (.var 28)), (.int .i64 (.var 29)), (.int .i64 (.var 30)), (.int .i64 (.var 31)), (.int .i64 (.var 32)), (.int .i64 (.var 33)), (.int .i64 (.var 34)), (.int .i64 (.var 35)), (.int .i64 (.var 36)), (.int .i64 (.var 37)), (.int .i64 (.var 38)), (.int .i64 (.var 39)), (.int .i64 (.var 40)), (.int .i64 (.var 41)), (.int .i64 (.var 42)), (.int .i64 (.var 43)), (.int .i64 (.var 44)), (.int .i64 (.var 45)), (.int .i64 (.var 46)), (.int .i64 (.var 47)), (.int .i64 (.var 48)), (.int .i64 (.var 49)), (.int .i64 (.var 50)), (.int .i64 (.var 51)), (.int .i64 (.var 52)), (.int .i64 (.var 53)), (.int .i64 (.var 54)), (.int .i64 (.var 55)), (.int .i64 (.var 56)), (.int .i64 (.var 57)), (.int .i64 (.var 58)), (.int .i64 (.var 59)), (.int .i64 (.var 60)), (.int .i64 (.var 61)), (.int .i64 (.var 62)), (.int .i64 (.var 63)), (.int .i64 (.var 64)), (.int .i64 (.var 65)), (.int .i64 (.var 66)), (.int .i64 (.var 67)), (.int .i64 (.var 68)), (.int .i64 (.var 69)), (.int .i64 (.var 70)), (.int .i64 (.var 71)), (.int .i64 (.var 72)), (.int .i64 (.var 73)), (.int .i64 (.var 74)), (.int .i64 (.var 75)), (.int .i64 (.var 76)), (.int .i64 (.var 77)), (.int .i64 (.var 78))]), (.int .i64 (.lit 0))]) []))))))
def l37 : List (Nat × List Nat × List (Nat × Nat) × List Nat) := []
theorem e37 : ev Tryd.prog ⟨allF, [], l37⟩ (bodyOf Tryd.f37) 0 (initSt [(.agg [(.int .i64 (.var 0)), (.int .i64 (.var 1)), (.val 2)]), (.agg [(.val 3), (.val 4), (.val 5), (.int .i64 (.var 6))])] [] Tryd.f37.ntmps [.int .i64, .int .i64, .sl, .sl, .sl, .sl, .int .i64]) (finK Tryd.prog Tryd.f37.results []) = t37 := by kernel_rfl
theorem c37 {G : List Value} {h : H} {R : Value → List (List Value) → H → Prop} (hG : FitsL [.int .i64, .int .i64, .sl, .sl, .sl, .sl, .int .i64] G) (H : holds Tryd.prog R t37 G [] h) : CallsA Tryd.prog 37 (fun e => SV.denL G (fun k => e (k - 1000000)) [(.agg [(.int .i64 (.var 0)), (.int .i64 (.var 1)), (.val 2)]), (.agg [(.val 3), (.val 4), (.val 5), (.int .i64 (.var 6))])]) ([].map (SV.denL G dE)) h R :=
  CallsA.of_ev (cf := ⟨allF, [], l37⟩) (fn := Tryd.f37) (c := bodyOf Tryd.f37) (pcs := []) Tryd.func37 (by rfl) callOK (by rfl) hG (by rfl) (by rw [show ([] : List (List SV)).map List.length = [] from rfl, e37]; exact H)
/-- What is left of outworker/outworkerref04.SameOutputs. -/
def t38 : Out :=
 (.ite (.ite (.ite (.ite (.ite (.cmp .neq (.var 0) (.var 68)) (.tt true) (.cmp .neq (.var 1) (.var 69))) (.tt true) (.not (.and (.cmp .eql (.var 3) (.var 71)) (.and (.cmp .eql (.var 4) (.var 72)) (.and (.cmp .eql (.var 5) (.var 73)) (.and (.cmp .eql (.var 6) (.var 74)) (.and (.cmp .eql (.var 7) (.var 75)) (.and (.cmp .eql (.var 8) (.var 76)) (.and (.cmp .eql (.var 9) (.var 77)) (.and (.cmp .eql (.var 10) (.var 78)) (.and (.cmp .eql (.var 11) (.var 79)) (.and (.cmp .eql (.var 12) (.var 80)) (.and (.cmp .eql (.var 13) (.var 81)) (.and (.cmp .eql (.var 14) (.var 82)) (.and (.cmp .eql (.var 15) (.var 83)) (.and (.cmp .eql (.var 16) (.var 84)) (.and (.cmp .eql (.var 17) (.var 85)) (.and (.cmp .eql (.var 18) (.var 86)) (.and (.cmp .eql (.var 19) (.var 87)) (.and (.cmp .eql (.var 20) (.var 88)) (.and (.cmp .eql (.var 21) (.var 89)) (.and (.cmp .eql (.var 22) (.var 90)) (.and (.cmp .eql (.var 23) (.var 91)) (.and (.cmp .eql (.var 24) (.var 92)) (.and (.cmp .eql (.var 25) (.var 93)) (.and (.cmp .eql (.var 26) (.var 94)) (.and (.cmp .eql (.var 27) (.var 95)) (.and (.cmp .eql (.var 28) (.var 96)) (.and (.cmp .eql (.var 29) (.var 97)) (.and (.cmp .eql (.var 30) (.var 98)) (.and (.cmp .eql (.var 31) (.var 99)) (.and (.cmp .eql (.var 32) (.var 100)) (.and (.cmp .eql (.var 33) (.var 101)) (.and (.cmp .eql (.var 34) (.var 102)) (.and (.cmp .eql (.var 35) (.var 103)) (.and (.cmp .eql (.var 36) (.var 104)) (.and (.cmp .eql (.var 37) (.var 105)) (.and (.cmp .eql (.var 38) (.var 106)) (.and (.cmp .eql (.var 39) (.var 107)) (.and (.cmp .eql (.var 40) (.var 108)) (.and (.cmp .eql (.var 41) (.var 109)) (.and (.cmp .eql (.var 42) (.var 110)) (.and (.cmp .eql (.var 43) (.var 111)) (.and (.cmp .eql (.var 44) (.var 112)) (.and (.cmp .eql (.var 45) (.var 113)) (.and (.cmp .eql (.var 46) (.var 114)) (.and (.cmp .eql (.var 47) (.var 115)) (.and (.cmp .eql (.var 48) (.var 116)) (.and (.cmp .eql (.var 49) (.var 117)) (.and (.cmp .eql (.var 50) (.var 118)) (.and (.cmp .eql (.var 51) (.var 119)) (.and (.cmp .eql (.var 52) (.var 120)) (.and (.cmp .eql (.var 53) (.var 121)) (.and (.cmp .eql (.var 54) (.var 122)) (.and (.cmp .eql (.var 55) (.var 123)) (.and (.cmp .eql (.var 56) (.var 124)) (.and (.cmp .eql (.var 57) (.var 125)) (.and (.cmp .eql (.var 58) (.var 126)) (.and (.cmp .eql (.var 59) (.var 127)) (.and (.cmp .eql (.var 60) (.var 128)) (.and (.cmp .eql (.var 61) (.var 129)) (.and (.cmp .eql (.var 62) (.var 130)) (.and (.cmp .eql (.var 63) (.var 131)) (.and (.cmp .eql (.var 64) (.var 132)) (.and (.cmp .eql (.var 65) (.var 133)) (.cmp .eql (.var 66) (.var 134))))))))))))))))))))))))))))))))))))))))))))))))))))))))))))))))))) (.tt true) (.cmp .neq (.var 67) (.var 135))) (.tt true) (.cmp .neq (.len 2) (.len 70)))
  (.done (.bool (.tt false)) [])
  (.loop 0 [(.int .i64 (.lit 0))] [.int .i64] 
   (.ite (.cmp .lss (.var 136) (.len 2))
    (.need (.tt true) [(.cmp .geq (.var 136) (.lit 0)), (.cmp .lss (.var 136) (.len 2))] 
    (.load (.tt true) (.idx (.var 2) (.var 136) 2) [.int .i64, .sl] 
    (.need (.tt true) [(.cmp .geq (.var 136) (.lit 0)), (.cmp .lss (.var 136) (.len 70))] 
    (.load (.tt true) (.idx (.var 70) (.var 136) 2) [.int .i64, .sl] 
    (.both 
     (.still (.tt true) (.idx (.var 70) (.var 136) 2) [(.int .i64 (.var 139)), (.val 140)] 
     (.still (.tt true) (.idx (.var 2) (.var 136) 2) [(.int .i64 (.var 137)), (.val 138)] 
     (.still (.tt true) (.idx (.var 70) (.var 136) 2) [(.int .i64 (.var 139)), (.val 140)] 
     (.still (.tt true) (.idx (.var 2) (.var 136) 2) [(.int .i64 (.var 137)), (.val 138)] 
     (.still (.tt true) (.idx (.var 70) (.var 136) 2) [(.int .i64 (.var 139)), (.val 140)] 
     (.ite (.ite (.cmp .neq (.var 137) (.var 139)) (.tt true) (.cmp .neq (.len 138) (.len 140)))
      (.done (.bool (.tt false)) [])
      (.loop 1 [(.int .i64 (.lit 0))] [.int .i64] 
       (.ite (.cmp .lss (.var 141) (.len 138))
        (.need (.tt true) [(.cmp .geq (.var 141) (.lit 0)), (.cmp .lss (.var 141) (.len 138))] 
        (.load (.tt true) (.idx (.var 138) (.var 141) 1) [.int .i64] 
        (.need (.tt true) [(.cmp .geq (.var 141) (.lit 0)), (.cmp .lss (.var 141) (.len 140))] 
        (.load (.tt true) (.idx (.var 140) (.var 141) 1) [.int .i64] 
        (.ite (.cmp .neq (.var 142) (.var 143))
         (.done (.bool (.tt false)) [])
         (.again 1 [(.int .i64 (.op .add .i64 (.var 141) (.lit 1)))]))))))
        (.again 0 [(.int .i64 (.op .add .i64 (.var 136) (.lit 1)))]))))))))) 
     (.still (.tt true) (.idx (.var 70) (.var 136) 2) [(.int .i64 (.var 139)), (.val 140)] 
     (.still (.tt true) (.idx (.var 2) (.var 136) 2) [(.int .i64 (.var 137)), (.val 138)] 
     (.still (.tt true) (.idx (.var 70) (.var 136) 2) [(.int .i64 (.var 139)), (.val 140)] 
     (.still (.tt true) (.idx (.var 2) (.var 136) 2) [(.int .i64 (.var 137)), (.val 138)] 
     (.still (.tt true) (.idx (.var 70) (.var 136) 2) [(.int .i64 (.var 139)), (.val 140)] 
     (.ite (.ite (.cmp .neq (.var 137) (.var 139)) (.tt true) (.cmp .neq (.len 138) (.len 140)))
      (.done (.bool (.tt false)) [])
      (.loop 1 [(.int .i64 (.lit 0))] [.int .i64] 
       (.ite (.cmp .lss (.var 141) (.len 138))
        (.need (.tt true) [(.cmp .geq (.var 141) (.lit 0)), (.cmp .lss (.var 141) (.len 138))] 
        (.load (.tt true) (.idx (.var 138) (.var 141) 1) [.int .i64] 
        (.need (.tt true) [(.cmp .geq (.var 141) (.lit 0)), (.cmp .lss (.var 141) (.len 140))] 
        (.load (.tt true) (.idx (.var 140) (.var 141) 1) [.int .i64] 
        (.ite (.cmp .neq (.var 142) (.var 143))
         (.done (.bool (.tt false)) [])
         (.again 1 [(.int .i64 (.op .add .i64 (.var 141) (.lit 1)))]))))))
        (.again 0 [(.int .i64 (.op .add .i64 (.var 136) (.lit 1)))]))))))))))))))
    (.done (.bool (.tt true)) []))))
def l38 : List (Nat × List Nat × List (Nat × Nat) × List Nat) := [(4, [5], [], [44, 45, 46, 47, 48, 51, 52, 53, 54, 55, 56, 57, 58, 59, 60, 6, 7, 61, 62, 63, 64, 65, 66, 67, 68, 69, 70, 71, 72, 73, 74, 4, 8, 75, 76, 77, 78, 79, 82, 83, 84, 85, 86, 87, 88, 89, 90, 91, 92, 80, 81, 49, 50]), (10, [8], [], [75, 76, 77, 78, 79, 82, 83, 84, 85, 86, 87, 88, 89, 90, 91, 92, 4, 80, 81])]
theorem e38 : ev Tryd.prog ⟨allF, [], l38⟩ (bodyOf Tryd.f38) 0 (initSt [(.agg [(.int .i64 (.var 0)), (.int .i64 (.var 1)), (.val 2), (.int .i64 (.var 3)), (.int .i64 (.var 4)), (.int .i64 (.var 5)), (.int .i64 (.var 6)), (.int .i64 (.var 7)), (.int .i64 (.var 8)), (.int .i64 (.var 9)), (.int .i64 (.var 10)), (.int .i64 (.var 11)), (.int .i64 (.var 12)), (.int .i64 (.var 13)), (.int .i64 (.var 14)), (.int .i64 (.var 15)), (.int .i64 (.var 16)), (.int .i64 (.var 17)), (.int .i64 (.var 18)), (.int .i64 (.var 19)), (.int .i64 (.var 20)), (.int .i64 (.var 21)), (.int .i64 (.var 22)), (.int .i64 (.var 23)), (.int .i64 (.var 24)), (.int .i64 (.var 25)), (.int .i64 (.var 26)), (.int .i64 (.var 27)), (.int .i64 (.var 28)), (.int .i64 (.var 29)), (.int .i64 (.var 30)), (.int .i64 (.var 31)), (.int .i64 (.var 32)), (.int .i64 (.var 33)), (.int .i64 (.var 34)), (.int .i64 (.var 35)), (.int .i64 (.var 36)), (.int .i64 (.var 37)), (.int .i64 (.var 38)), (.int .i64 (.var 39)), (.int .i64 (.var 40)), (.int .i64 (.var 41)), (.int .i64 (.var 42)), (.int .i64 (.var 43)), (.int .i64 (.var 44)), (.int .i64 (.var 45)), (.int .i64 (.var 46)), (.int .i64 (.var 47)), (.int .i64 (.var 48)), (.int .i64 (.var 49)), (.int .i64 (.var 50)), (.int .i64 (.var 51)), (.int .i64 (.var 52)), (.int .i64 (.var 53)), (.int .i64 (.var 54)), (.int .i64 (.var 55)), (.int .i64 (.var 56)), (.int .i64 (.var 57)), (.int .i64 (.var 58)), (.int .i64 (.var 59)), (.int .i64 (.var 60)), (.int .i64 (.var 61)), (.int .i64 (.var 62)), (.int .i64 (.var 63)), (.int .i64 (.var 64)), (.int .i64 (.var 65)), (.int .i64 (.var 66)), (.int .i64 (.var 67))]), (.agg [(.int .i64 (.var 68)), (.int .i64 (.var 69)), (.val 70), (.int .i64 (.var 71)), (.int .i64 (.var 72)), (.int .i64 (.var 73)), (.int .i64 (.var 74)), (.int .i64 (.var 75)), (.int .i64 (.var 76)), (.int .i64 (.var 77)), (.int .i64 (.var 78)), (.int .i64 (.var 79)), (.int .i64 (.var 80)), (.int .i64 (.var 81)), (.int .i64 (.var 82)), (.int .i64 (.var 83)), (.int .i64 (.var 84)), (.int .i64 (.var 85)), (.int .i64 (.var 86)), (.int .i64 (.var 87)), (.int .i64 (.var 88)), (.int .i64 (.var 89)), (.int .i64 (.var 90)), (.int .i64 (.var 91)), (.int .i64 (.var 92)), (.int .i64 (.var 93)), (.int .i64 (.var 94)), (.int .i64 (.var 95)), (.int .i64 (.var 96)), (.int .i64 (.var 97)), (.int .i64 (.var 98)), (.int .i64 (.var 99)), (.int .i64 (.var 100)), (.int .i64 (.var 101)), (.int .i64 (.var 102)), (.int .i64 (.var 103)), (.int .i64 (.var 104)), (.int .i64 (.var 105)), (.int .i64 (.var 106)), (.int .i64 (.var 107)), (.int .i64 (.var 108)), (.int .i64 (.var 109)), (.int .i64 (.var 110)), (.int .i64 (.var 111)), (.int .i64 (.var 112)), (.int .i64 (.var 113)), (.int .i64 (.var 114)), (.int .i64 (.var 115)), (.int .i64 (.var 116)), (.int .i64 (.var 117)), (.int .i64 (.var 118)), (.int .i64 (.var 119)), (.int .i64 (.var 120)), (.int .i64 (.var 121)), (.int .i64 (.var 122)), (.int .i64 (.var 123)), (.int .i64 (.var 124)), (.int .i64 (.var 125)), (.int .i64 (.var 126)), (.int .i64 (.var 127)), (.int .i64 (.var 128)), (.int .i64 (.var 129)), (.int .i64 (.var 130)), (.int .i64 (.var 131)), (.int .i64 (.var 132)), (.int .i64 (.var 133)), (.int .i64 (.var 134)), (.int .i64 (.var 135))])] [] Tryd.f38.ntmps [.int .i64, .int .i64, .sl, .int .i64, .int .i64, .int .i64, .int .i64, .int .i64, .int .i64, .int .i64, .int .i64, .int .i64, .int .i64, .int .i64, .int .i64, .int .i64, .int .i64, .int .i64, .int .i64, .int .i64, .int .i64, .int .i64, .int .i64, .int .i64, .int .i64, .int .i64, .int .i64, .int .i64, .int .i64, .int .i64, .int .i64, .int .i64, .int .i64, .int .i64, .int .i64, .int .i64, .int .i64, .int .i64, .int .i64, .int .i64, .int .i64, .int .i64, .int .i64, .int .i64, .int .i64, .int .i64, .int .i64, .int .i64, .int .i64, .int .i64, .int .i64, .int .i64, .int .i64, .int .i64, .int .i64, .int .i64, .int .i64, .int .i64, .int .i64, .int .i64, .int .i64, .int .i64, .int .i64, .int .i64, .int .i64, .int .i64, .int .i64, .int .i64, .int .i64, .int .i64, .sl, .int .i64, .int .i64, .int .i64, .int .i64, .int .i64, .int .i64, .int .i64, .int .i64, .int .i64, .int .i64, .int .i64, .int .i64, .int .i64, .int .i64, .int .i64, .int .i64, .int .i64, .int .i64, .int .i64, .int .i64, .int .i64, .int .i64, .int .i64, .int .i64, .int .i64, .int .i64, .int .i64, .int .i64, .int .i64, .int .i64, .int .i64, .int .i64, .int .i64, .int .i64, .int .i64, .int .i64, .int .i64, .int .i64, .int .i64, .int .i64, .int .i64, .int .i64, .int .i64, .int .i64, .int .i64, .int .i64, .int .i64, .int .i64, .int .i64, .int .i64, .int .i64, .int .i64, .int .i64, .int .i64, .int .i64, .int .i64, .int .i64, .int .i64, .int .i64, .int .i64, .int .i64, .int .i64, .int .i64, .int .i64, .int .i64]) (finK Tryd.prog Tryd.f38.results []) = t38 := by kernel_rfl
theorem c38 {G : List Value} {h : H} {R : Value → List (List Value) → H → Prop} (hG : FitsL [.int .i64, .int .i64, .sl, .int .i64, .int .i64, .int .i64, .int .i64, .int .i64, .int .i64, .int .i64, .int .i64, .int .i64, .int .i64, .int .i64, .int .i64, .int .i64, .int .i64, .int .i64, .int .i64, .int .i64, .int .i64, .int .i64, .int .i64, .int .i64, .int .i64, .int .i64, .int .i64, .int .i64, .int .i64, .int .i64, .int .i64, .int .i64, .int .i64, .int .i64, .int .i64, .int .i64, .int .i64, .int .i64, .int .i64, .int .i64, .int .i64, .int .i64, .int .i64, .int .i64, .int .i64, .int .i64, .int .i64, .int .i64, .int .i64, .int .i64, .int .i64, .int .i64, .int .i64, .int .i64, .int .i64, .int .i64, .int .i64, .int .i64, .int .i64, .int .i64, .int .i64, .int .i64, .int .i64, .int .i64, .int .i64, .int .i64, .int .i64, .int .i64, .int .i64, .int .i64, .sl, .int .i64, .int .i64, .int .i64, .int .i64, .int .i64, .int .i64, .int .i64, .int .i64, .int .i64, .int .i64, .int .i64, .int .i64, .int .i64, .int .i64, .int .i64, .int .i64, .int .i64, .int .i64, .int .i64, .int .i64, .int .i64, .int .i64, .int .i64, .int .i64, .int .i64, .int .i64, .int .i64, .int .i64, .int .i64, .int .i64, .int .i64, .int .i64, .int .i64, .int .i64, .int .i64, .int .i64, .int .i64, .int .i64, .int .i64, .int .i64, .int .i64, .int .i64, .int .i64, .int .i64, .int .i64, .int .i64, .int .i64, .int .i64, .int .i64, .int .i64, .int .i64, .int .i64, .int .i64, .int .i64, .int .i64, .int .i64, .int .i64, .int .i64, .int .i64, .int .i64, .int .i64, .int .i64, .int .i64, .int .i64, .int .i64] G) (H : holds Tryd.prog R t38 G [] h) : CallsA Tryd.prog 38 (fun e => SV.denL G (fun k => e (k - 1000000)) [(.agg [(.int .i64 (.var 0)), (.int .i64 (.var 1)), (.val 2), (.int .i64 (.var 3)), (.int .i64 (.var 4)), (.int .i64 (.var 5)), (.int .i64 (.var 6)), (.int .i64 (.var 7)), (.int .i64 (.var 8)), (.int .i64 (.var 9)), (.int .i64 (.var 10)), (.int .i64 (.var 11)), (.int .i64 (.var 12)), (.int .i64 (.var 13)), (.int .i64 (.var 14)), (.int .i64 (.var 15)), (.int .i64 (.var 16)), (.int .i64 (.var 17)), (.int .i64 (.var 18)), (.int .i64 (.var 19)), (.int .i64 (.var 20)), (.int .i64 (.var 21)), (.int .i64 (.var 22)), (.int .i64 (.var 23)), (.int .i64 (.var 24)), (.int .i64 (.var 25)), (.int .i64 (.var 26)), (.int .i64 (.var 27)), (.int .i64 (.var 28)), (.int .i64 (.var 29)), (.int .i64 (.var 30)), (.int .i64 (.var 31)), (.int .i64 (.var 32)), (.int .i64 (.var 33)), (.int .i64 (.var 34)), (.int .i64 (.var 35)), (.int .i64 (.var 36)), (.int .i64 (.var 37)), (.int .i64 (.var 38)), (.int .i64 (.var 39)), (.int .i64 (.var 40)), (.int .i64 (.var 41)), (.int .i64 (.var 42)), (.int .i64 (.var 43)), (.int .i64 (.var 44)), (.int .i64 (.var 45)), (.int .i64 (.var 46)), (.int .i64 (.var 47)), (.int .i64 (.var 48)), (.int .i64 (.var 49)), (.int .i64 (.var 50)), (.int .i64 (.var 51)), (.int .i64 (.var 52)), (.int .i64 (.var 53)), (.int .i64 (.var 54)), (.int .i64 (.var 55)), (.int .i64 (.var 56)), (.int .i64 (.var 57)), (.int .i64 (.var 58)), (.int .i64 (.var 59)), (.int .i64 (.var 60)), (.int .i64 (.var 61)), (.int .i64 (.var 62)), (.int .i64 (.var 63)), (.int .i64 (.var 64)), (.int .i64 (.var 65)), (.int .i64 (.var 66)), (.int .i64 (.var 67))]), (.agg [(.int .i64 (.var 68)), (.int .i64 (.var 69)), (.val 70), (.int .i64 (.var 71)), (.int .i64 (.var 72)), (.int .i64 (.var 73)), (.int .i64 (.var 74)), (.int .i64 (.var 75)), (.int .i64 (.var 76)), (.int .i64 (.var 77)), (.int .i64 (.var 78)), (.int .i64 (.var 79)), (.int .i64 (.var 80)), (.int .i64 (.var 81)), (.int .i64 (.var 82)), (.int .i64 (.var 83)), (.int .i64 (.var 84)), (.int .i64 (.var 85)), (.int .i64 (.var 86)), (.int .i64 (.var 87)), (.int .i64 (.var 88)), (.int .i64 (.var 89)), (.int .i64 (.var 90)), (.int .i64 (.var 91)), (.int .i64 (.var 92)), (.int .i64 (.var 93)), (.int .i64 (.var 94)), (.int .i64 (.var 95)), (.int .i64 (.var 96)), (.int .i64 (.var 97)), (.int .i64 (.var 98)), (.int .i64 (.var 99)), (.int .i64 (.var 100)), (.int .i64 (.var 101)), (.int .i64 (.var 102)), (.int .i64 (.var 103)), (.int .i64 (.var 104)), (.int .i64 (.var 105)), (.int .i64 (.var 106)), (.int .i64 (.var 107)), (.int .i64 (.var 108)), (.int .i64 (.var 109)), (.int .i64 (.var 110)), (.int .i64 (.var 111)), (.int .i64 (.var 112)), (.int .i64 (.var 113)), (.int .i64 (.var 114)), (.int .i64 (.var 115)), (.int .i64 (.var 116)), (.int .i64 (.var 117)), (.int .i64 (.var 118)), (.int .i64 (.var 119)), (.int .i64 (.var 120)), (.int .i64 (.var 121)), (.int .i64 (.var 122)), (.int .i64 (.var 123)), (.int .i64 (.var 124)), (.int .i64 (.var 125)), (.int .i64 (.var 126)), (.int .i64 (.var 127)), (.int .i64 (.var 128)), (.int .i64 (.var 129)), (.int .i64 (.var 130)), (.int .i64 (.var 131)), (.int .i64 (.var 132)), (.int .i64 (.var 133)), (.int .i64 (.var 134)), (.int .i64 (.var 135))])]) ([].map (SV.denL G dE)) h R :=
  CallsA.of_ev (cf := ⟨allF, [], l38⟩) (fn := Tryd.f38) (c := bodyOf Tryd.f38) (pcs := []) Tryd.func38 (by rfl) callOK (by rfl) hG (by rfl) (by rw [show ([] : List (List SV)).map List.length = [] from rfl, e38]; exact H)
/-- What is left of outworker/outworkerlaw06.Input. -/
def t36 : Out :=
 (.need (.tt true) [(.cmp .geq (.ite (.cmp .lss (.lit 100) (.len 1)) (.lit 100) (.len 1)) (.lit 0)), (.cmp .leq (.ite (.cmp .lss (.lit 100) (.len 1)) (.lit 100) (.len 1)) (.cap 1))] 
 (.bnd (.slice (.val 1) none (some (.ite (.cmp .lss (.lit 100) (.len 1)) (.lit 100) (.len 1))) 1) 
 (.need (.tt true) [(.cmp .geq (.ite (.cmp .lss (.lit 100) (.len 2)) (.lit 100) (.len 2)) (.lit 0)), (.cmp .leq (.ite (.cmp .lss (.lit 100) (.len 2)) (.lit 100) (.len 2)) (.cap 2))] 
 (.bnd (.slice (.val 2) none (some (.ite (.cmp .lss (.lit 100) (.len 2)) (.lit 100) (.len 2))) 1) 
 (.loop 0 [(.int .i64 (.lit 0)), (.cst (.slice none 0 0))] [.int .i64, .sl] 
  (.ite (.cmp .lss (.var 7) (.var 4))
   (.ite (.cmp .lss (.var 7) (.len 0))
    (.need (.tt true) [(.cmp .geq (.var 7) (.lit 0)), (.cmp .lss (.var 7) (.len 0))] 
    (.load (.tt true) (.idx (.var 0) (.var 7) 1) [.int .i64] 
    (.app 2 1 8 (.val 8) (.cells [(.int .i64 (.var 9))] 1) 
    (.again 0 [(.int .i64 (.op .add .i64 (.var 7) (.lit 1))), (.val 10)]))))
    (.app 2 1 8 (.val 8) (.cells [(.int .i64 (.var 7))] 1) 
    (.again 0 [(.int .i64 (.op .add .i64 (.var 7) (.lit 1))), (.val 9)])))
   (.done (.agg [(.val 8), (.val 5), (.val 6), (.int .i64 (.conv .i64 (.op .rem .u64 (.conv .u64 (.var 3)) (.lit 400))))]) [])))))))
def l36 : List (Nat × List Nat × List (Nat × Nat) × List Nat) := [(3, [29], [(5, 0)], [30, 31, 6, 32, 7, 33, 34, 35, 36, 37, 38, 39, 40, 41, 42, 43, 44, 45, 46, 47, 48, 49])]
theorem e36 : ev Tryd.prog ⟨allF, [], l36⟩ (bodyOf Tryd.f36) 0 (initSt [(.agg [(.val 0), (.val 1), (.val 2), (.int .i64 (.var 3))]), (.int .i64 (.var 4))] [] Tryd.f36.ntmps [.sl, .sl, .sl, .int .i64, .int .i64]) (finK Tryd.prog Tryd.f36.results []) = t36 := by kernel_rfl
theorem c36 {G : List Value} {h : H} {R : Value → List (List Value) → H → Prop} (hG : FitsL [.sl, .sl, .sl, .int .i64, .int .i64] G) (H : holds Tryd.prog R t36 G [] h) : CallsA Tryd.prog 36 (fun e => SV.denL G (fun k => e (k - 1000000)) [(.agg [(.val 0), (.val 1), (.val 2), (.int .i64 (.var 3))]), (.int .i64 (.var 4))]) ([].map (SV.denL G dE)) h R :=
  CallsA.of_ev (cf := ⟨allF, [], l36⟩) (fn := Tryd.f36) (c := bodyOf Tryd.f36) (pcs := []) Tryd.func36 (by rfl) callOK (by rfl) hG (by rfl) (by rw [show ([] : List (List SV)).map List.length = [] from rfl, e36]; exact H)
end Go.Proofs.YtbbicdfipheaeaaDoor
