/-
  What the evaluator leaves of the functions of this seat (trees, printed by a program of ours), and their contracts from it. Conditions: none.
-/
import Derived.Test.YthnoplfjcdkacaaR1Tr
set_option linter.unusedVariables false
set_option linter.unusedSimpArgs false
namespace Go.Proofs.Ythnoplfjcdkacaa
open Go

/-- What is left of outworker/leb.New. -/
def t44 : Out :=
 (.alloc 5 [] (.lsl 0) 
 (.app 5 1 1 (.val 1) (.sl (.val 0)) 
 (.alloc 129 [(.val 2), (.int .i64 (.lit 0))] .loc 
 (.done (.ptr (.var 3)) []))))
def l44 : List (Nat × List Nat × List (Nat × Nat) × List Nat) := []
theorem e44 : ev Try.prog ⟨allF, [3, 7], l44⟩ (bodyOf Try.f44) 0 (initSt [(.val 0)] [] Try.f44.ntmps [.sl]) (finK Try.prog Try.f44.results []) = t44 := by kernel_rfl
theorem c44 {G : List Value} {h : H} {R : Value → List (List Value) → H → Prop} (hG : FitsL [.sl] G) (H : holds Try.prog R t44 G [] h) : CallsA Try.prog 44 (fun e => SV.denL G (fun k => e (k - 1000000)) [(.val 0)]) ([].map (SV.denL G dE)) h R :=
  CallsA.of_ev (cf := ⟨allF, [3, 7], l44⟩) (fn := Try.f44) (c := bodyOf Try.f44) (pcs := []) Try.func44 (by rfl) callOK (by rfl) hG (by rfl) (by rw [show ([] : List (List SV)).map List.length = [] from rfl, e44]; exact H)
/-- What is left of (*outworker/leb.Reader).Below. -/
def t45 : Out :=
 (.call 65 [(.val 0)] [] [] [] [(false, [.int .u64])] 
 (.need (.tt true) [(.not (.nilp 0))] 
 (.load (.tt true) (.fld (.var 0) 1) [.int .i64] 
 (.ite (.ite (.cmp .eql (.var 3) (.lit 0)) (.ite (.cmp .lss (.var 1) (.lit 1)) (.tt true) (.cmp .geq (.var 2) (.conv .u64 (.var 1)))) (.tt false))
  (.call 66 [(.val 0), (.int .i64 (.lit 2))] [] [] [] [] 
  (.need (.tt true) [(.not (.nilp 0))] 
  (.load (.tt true) (.fld (.var 0) 1) [.int .i64] 
  (.ite (.cmp .neq (.var 4) (.lit 0))
   (.done (.int .i64 (.lit 0)) [])
   (.done (.int .i64 (.conv .i64 (.var 2))) [])))))
  (.need (.tt true) [(.not (.nilp 0))] 
  (.load (.tt true) (.fld (.var 0) 1) [.int .i64] 
  (.ite (.cmp .neq (.var 4) (.lit 0))
   (.done (.int .i64 (.lit 0)) [])
   (.done (.int .i64 (.conv .i64 (.var 2))) []))))))))
def l45 : List (Nat × List Nat × List (Nat × Nat) × List Nat) := []
theorem e45 : ev Try.prog ⟨allF, [], l45⟩ (bodyOf Try.f45) 0 (initSt [(.val 0), (.int .i64 (.var 1))] [] Try.f45.ntmps [.ptr, .int .i64]) (finK Try.prog Try.f45.results []) = t45 := by kernel_rfl
theorem c45 {G : List Value} {h : H} {R : Value → List (List Value) → H → Prop} (hG : FitsL [.ptr, .int .i64] G) (H : holds Try.prog R t45 G [] h) : CallsA Try.prog 45 (fun e => SV.denL G (fun k => e (k - 1000000)) [(.val 0), (.int .i64 (.var 1))]) ([].map (SV.denL G dE)) h R :=
  CallsA.of_ev (cf := ⟨allF, [], l45⟩) (fn := Try.f45) (c := bodyOf Try.f45) (pcs := []) Try.func45 (by rfl) callOK (by rfl) hG (by rfl) (by rw [show ([] : List (List SV)).map List.length = [] from rfl, e45]; exact H)
/-- What is left of (*outworker/leb.Reader).Code. -/
def t46 : Out :=
 (.need (.tt true) [(.not (.nilp 0))] 
 (.load (.tt true) (.fld (.var 0) 1) [.int .i64] 
 (.done (.int .i64 (.var 1)) [])))
def l46 : List (Nat × List Nat × List (Nat × Nat) × List Nat) := []
theorem e46 : ev Try.prog ⟨allF, [], l46⟩ (bodyOf Try.f46) 0 (initSt [(.val 0)] [] Try.f46.ntmps [.ptr]) (finK Try.prog Try.f46.results []) = t46 := by kernel_rfl
theorem c46 {G : List Value} {h : H} {R : Value → List (List Value) → H → Prop} (hG : FitsL [.ptr] G) (H : holds Try.prog R t46 G [] h) : CallsA Try.prog 46 (fun e => SV.denL G (fun k => e (k - 1000000)) [(.val 0)]) ([].map (SV.denL G dE)) h R :=
  CallsA.of_ev (cf := ⟨allF, [], l46⟩) (fn := Try.f46) (c := bodyOf Try.f46) (pcs := []) Try.func46 (by rfl) callOK (by rfl) hG (by rfl) (by rw [show ([] : List (List SV)).map List.length = [] from rfl, e46]; exact H)
/-- What is left of (*outworker/leb.Reader).End. -/
def t47 : Out :=
 (.need (.tt true) [(.not (.nilp 0))] 
 (.load (.tt true) (.fld (.var 0) 0) [.sl] 
 (.ite (.cmp .gtr (.len 1) (.lit 0))
  (.call 66 [(.val 0), (.int .i64 (.lit 5))] [] [] [] [] 
  (.need (.tt true) [(.not (.nilp 0))] 
  (.load (.tt true) (.fld (.var 0) 1) [.int .i64] 
  (.done (.int .i64 (.var 2)) []))))
  (.need (.tt true) [(.not (.nilp 0))] 
  (.load (.tt true) (.fld (.var 0) 1) [.int .i64] 
  (.done (.int .i64 (.var 2)) []))))))
def l47 : List (Nat × List Nat × List (Nat × Nat) × List Nat) := []
theorem e47 : ev Try.prog ⟨allF, [], l47⟩ (bodyOf Try.f47) 0 (initSt [(.val 0)] [] Try.f47.ntmps [.ptr]) (finK Try.prog Try.f47.results []) = t47 := by kernel_rfl
theorem c47 {G : List Value} {h : H} {R : Value → List (List Value) → H → Prop} (hG : FitsL [.ptr] G) (H : holds Try.prog R t47 G [] h) : CallsA Try.prog 47 (fun e => SV.denL G (fun k => e (k - 1000000)) [(.val 0)]) ([].map (SV.denL G dE)) h R :=
  CallsA.of_ev (cf := ⟨allF, [], l47⟩) (fn := Try.f47) (c := bodyOf Try.f47) (pcs := []) Try.func47 (by rfl) callOK (by rfl) hG (by rfl) (by rw [show ([] : List (List SV)).map List.length = [] from rfl, e47]; exact H)
/-- What is left of (*outworker/leb.Reader).Num. -/
def t65 : Out :=
 (.loop 0 [(.int .u64 (.lit 0)), (.int .i64 (.lit 0))] [.int .u64, .int .i64] 
  (.need (.tt true) [(.not (.nilp 0))] 
  (.load (.tt true) (.fld (.var 0) 1) [.int .i64] 
  (.ite (.cmp .eql (.var 3) (.lit 0))
   (.need (.tt true) [(.not (.nilp 0))] 
   (.load (.tt true) (.fld (.var 0) 0) [.sl] 
   (.ite (.cmp .geq (.var 2) (.len 4))
    (.call 66 [(.val 0), (.int .i64 (.lit 3))] [] [] [] [] 
    (.again 0 [(.int .u64 (.var 1)), (.int .i64 (.op .add .i64 (.var 2) (.lit 1)))]))
    (.need (.cmp .eql (.var 2) (.lit 9)) [(.not (.nilp 0))] 
    (.load (.cmp .eql (.var 2) (.lit 9)) (.fld (.var 0) 0) [.sl] 
    (.need (.cmp .eql (.var 2) (.lit 9)) [(.cmp .geq (.var 2) (.lit 0)), (.cmp .lss (.var 2) (.len 5))] 
    (.load (.cmp .eql (.var 2) (.lit 9)) (.idx (.var 5) (.var 2) 1) [.int .u8] 
    (.ite (.ite (.cmp .eql (.var 2) (.lit 9)) (.cmp .gtr (.var 6) (.lit 1)) (.tt false))
     (.call 66 [(.val 0), (.int .i64 (.lit 8))] [] [] [] [] 
     (.again 0 [(.int .u64 (.var 1)), (.int .i64 (.op .add .i64 (.var 2) (.lit 1)))]))
     (.need (.cmp .gtr (.var 2) (.lit 0)) [(.not (.nilp 0))] 
     (.load (.cmp .gtr (.var 2) (.lit 0)) (.fld (.var 0) 0) [.sl] 
     (.need (.cmp .gtr (.var 2) (.lit 0)) [(.cmp .geq (.var 2) (.lit 0)), (.cmp .lss (.var 2) (.len 7))] 
     (.load (.cmp .gtr (.var 2) (.lit 0)) (.idx (.var 7) (.var 2) 1) [.int .u8] 
     (.ite (.ite (.cmp .gtr (.var 2) (.lit 0)) (.cmp .eql (.var 8) (.lit 0)) (.tt false))
      (.call 66 [(.val 0), (.int .i64 (.lit 8))] [] [] [] [] 
      (.again 0 [(.int .u64 (.var 1)), (.int .i64 (.op .add .i64 (.var 2) (.lit 1)))]))
      (.need (.tt true) [(.not (.nilp 0))] 
      (.load (.tt true) (.fld (.var 0) 0) [.sl] 
      (.need (.tt true) [(.cmp .geq (.var 2) (.lit 0)), (.cmp .lss (.var 2) (.len 9))] 
      (.load (.tt true) (.idx (.var 9) (.var 2) 1) [.int .u8] 
      (.ite (.cmp .lss (.var 10) (.lit 128))
       (.need (.tt true) [(.not (.nilp 0))] 
       (.load (.tt true) (.fld (.var 0) 0) [.sl] 
       (.need (.tt true) [(.cmp .geq (.var 2) (.lit 0)), (.cmp .lss (.var 2) (.len 11))] 
       (.load (.tt true) (.idx (.var 11) (.var 2) 1) [.int .u8] 
       (.need (.tt true) [(.cmp .geq (.op .mul .i64 (.lit 7) (.var 2)) (.lit 0))] 
       (.need (.tt true) [(.not (.nilp 0))] 
       (.load (.tt true) (.fld (.var 0) 0) [.sl] 
       (.need (.tt true) [(.cmp .geq (.op .add .i64 (.var 2) (.lit 1)) (.lit 0)), (.cmp .leq (.op .add .i64 (.var 2) (.lit 1)) (.len 13))] 
       (.bnd (.slice (.val 13) (some (.op .add .i64 (.var 2) (.lit 1))) none 1) 
       (.need (.tt true) [(.not (.nilp 0))] 
       (.store (.fld (.var 0) 0) [(.val 14)] 
       (.done (.int .u64 (.op .or .u64 (.var 1) (.op .shl .u64 (.conv .u64 (.var 12)) (.op .mul .i64 (.lit 7) (.var 2))))) []))))))))))))
       (.need (.tt true) [(.not (.nilp 0))] 
       (.load (.tt true) (.fld (.var 0) 0) [.sl] 
       (.need (.tt true) [(.cmp .geq (.var 2) (.lit 0)), (.cmp .lss (.var 2) (.len 11))] 
       (.load (.tt true) (.idx (.var 11) (.var 2) 1) [.int .u8] 
       (.need (.tt true) [(.cmp .geq (.op .mul .i64 (.lit 7) (.var 2)) (.lit 0))] 
       (.again 0 [(.int .u64 (.op .or .u64 (.var 1) (.op .shl .u64 (.conv .u64 (.op .and .u8 (.var 12) (.lit 127))) (.op .mul .i64 (.lit 7) (.var 2))))), (.int .i64 (.op .add .i64 (.var 2) (.lit 1)))]))))))))))))))))))))))))
   (.done (.int .u64 (.lit 0)) [])))))
def l65 : List (Nat × List Nat × List (Nat × Nat) × List Nat) := [(3, [3, 4], [], [5, 6, 7, 8, 9, 27, 28, 29, 30, 31, 32, 33, 26, 34, 35, 37, 38, 39, 40, 41, 42, 43, 44, 45, 46, 47, 48, 36, 49, 50, 51, 52, 53, 54, 55, 56, 57, 58, 59, 60, 61, 62, 64, 65, 66, 67, 68, 69, 70, 71, 63, 72, 73, 74, 75, 76, 77, 78, 79, 80, 81, 82, 83, 84, 85, 86, 87, 88, 89, 90, 91, 92, 93, 94, 95, 2, 12, 13, 14, 15, 16, 17, 18, 19, 20, 21, 22, 23, 24, 25, 10, 11])]
theorem e65 : ev Try.prog ⟨allF, [], l65⟩ (bodyOf Try.f65) 0 (initSt [(.val 0)] [] Try.f65.ntmps [.ptr]) (finK Try.prog Try.f65.results []) = t65 := by kernel_rfl
theorem c65 {G : List Value} {h : H} {R : Value → List (List Value) → H → Prop} (hG : FitsL [.ptr] G) (H : holds Try.prog R t65 G [] h) : CallsA Try.prog 65 (fun e => SV.denL G (fun k => e (k - 1000000)) [(.val 0)]) ([].map (SV.denL G dE)) h R :=
  CallsA.of_ev (cf := ⟨allF, [], l65⟩) (fn := Try.f65) (c := bodyOf Try.f65) (pcs := []) Try.func65 (by rfl) callOK (by rfl) hG (by rfl) (by rw [show ([] : List (List SV)).map List.length = [] from rfl, e65]; exact H)
/-- What is left of (*outworker/leb.Reader).Fail. -/
def t66 : Out :=
 (.need (.tt true) [(.not (.nilp 0))] 
 (.load (.tt true) (.fld (.var 0) 1) [.int .i64] 
 (.ite (.cmp .eql (.var 2) (.lit 0))
  (.need (.tt true) [(.not (.nilp 0))] 
  (.store (.fld (.var 0) 1) [(.int .i64 (.var 1))] 
  (.done (.tup []) [])))
  (.done (.tup []) []))))
def l66 : List (Nat × List Nat × List (Nat × Nat) × List Nat) := []
theorem e66 : ev Try.prog ⟨allF, [], l66⟩ (bodyOf Try.f66) 0 (initSt [(.val 0), (.int .i64 (.var 1))] [] Try.f66.ntmps [.ptr, .int .i64]) (finK Try.prog Try.f66.results []) = t66 := by kernel_rfl
theorem c66 {G : List Value} {h : H} {R : Value → List (List Value) → H → Prop} (hG : FitsL [.ptr, .int .i64] G) (H : holds Try.prog R t66 G [] h) : CallsA Try.prog 66 (fun e => SV.denL G (fun k => e (k - 1000000)) [(.val 0), (.int .i64 (.var 1))]) ([].map (SV.denL G dE)) h R :=
  CallsA.of_ev (cf := ⟨allF, [], l66⟩) (fn := Try.f66) (c := bodyOf Try.f66) (pcs := []) Try.func66 (by rfl) callOK (by rfl) hG (by rfl) (by rw [show ([] : List (List SV)).map List.length = [] from rfl, e66]; exact H)
/-- What is left of outworker/wire.ins. -/
def t68 : Out :=
 (.call 45 [(.val 0), (.int .i64 (.lit 256))] [] [] [] [(false, [.int .i64])] 
 (.ite (.cmp .eql (.conv .u8 (.var 1)) (.lit 1))
  (.call 81 [(.loc 1 0)] [1] [[(.val 0)]] [[.ptr]] [(false, [.int .i64])] 
  (.call 82 [(.val 2)] [] [] [] [(false, [.int .i64])] 
  (.done (.agg [(.int .u8 (.conv .u8 (.var 1))), (.int .u8 (.lit 0)), (.int .i64 (.var 3)), (.int .i64 (.lit 0)), (.int .i64 (.lit 0)), (.int .i64 (.var 4)), (.cst (.slice none 0 0))]) [])))
  (.ite (.ite (.cmp .eql (.conv .u8 (.var 1)) (.lit 2)) (.cmp .eql (.conv .u8 (.var 1)) (.lit 2)) (.ite (.cmp .eql (.conv .u8 (.var 1)) (.lit 4)) (.cmp .eql (.conv .u8 (.var 1)) (.lit 4)) (.ite (.cmp .eql (.conv .u8 (.var 1)) (.lit 7)) (.cmp .eql (.conv .u8 (.var 1)) (.lit 7)) (.cmp .eql (.conv .u8 (.var 1)) (.lit 8)))))
   (.call 81 [(.loc 1 0)] [1] [[(.val 0)]] [[.ptr]] [(false, [.int .i64])] 
   (.call 81 [(.loc 1 0)] [1] [[(.val 2)]] [[.ptr]] [(false, [.int .i64])] 
   (.done (.agg [(.int .u8 (.conv .u8 (.var 1))), (.int .u8 (.lit 0)), (.int .i64 (.var 3)), (.int .i64 (.var 5)), (.int .i64 (.lit 0)), (.int .i64 (.lit 0)), (.cst (.slice none 0 0))]) [])))
   (.ite (.cmp .eql (.conv .u8 (.var 1)) (.lit 3))
    (.call 45 [(.val 0), (.int .i64 (.lit 256))] [] [] [] [(false, [.int .i64])] 
    (.call 81 [(.loc 1 0)] [1] [[(.val 0)]] [[.ptr]] [(false, [.int .i64])] 
    (.call 81 [(.loc 1 0)] [1] [[(.val 3)]] [[.ptr]] [(false, [.int .i64])] 
    (.call 81 [(.loc 1 0)] [1] [[(.val 5)]] [[.ptr]] [(false, [.int .i64])] 
    (.done (.agg [(.int .u8 (.conv .u8 (.var 1))), (.int .u8 (.conv .u8 (.var 2))), (.int .i64 (.var 4)), (.int .i64 (.var 6)), (.int .i64 (.var 8)), (.int .i64 (.lit 0)), (.cst (.slice none 0 0))]) [])))))
    (.ite (.cmp .eql (.conv .u8 (.var 1)) (.lit 5))
     (.call 81 [(.loc 1 0)] [1] [[(.val 0)]] [[.ptr]] [(false, [.int .i64])] 
     (.call 81 [(.loc 1 0)] [1] [[(.val 2)]] [[.ptr]] [(false, [.int .i64])] 
     (.done (.agg [(.int .u8 (.conv .u8 (.var 1))), (.int .u8 (.lit 0)), (.int .i64 (.lit 0)), (.int .i64 (.var 3)), (.int .i64 (.var 5)), (.int .i64 (.lit 0)), (.cst (.slice none 0 0))]) [])))
     (.ite (.cmp .eql (.conv .u8 (.var 1)) (.lit 6))
      (.call 81 [(.loc 1 0)] [1] [[(.val 0)]] [[.ptr]] [(false, [.int .i64])] 
      (.call 82 [(.val 2)] [] [] [] [(false, [.int .i64])] 
      (.call 45 [(.val 2), (.int .i64 (.lit 4))] [] [] [] [(false, [.int .i64])] 
      (.loop 0 [(.int .i64 (.lit 0)), (.cst (.slice none 0 0)), (.val 2)] [.int .i64, .sl, .ptr] 
       (.ite (.cmp .lss (.var 6) (.var 5))
        (.call 81 [(.loc 1 0)] [1] [[(.val 8)]] [[.ptr]] [(false, [.int .i64])] 
        (.app 3 1 8 (.val 7) (.cells [(.int .i64 (.var 10))] 1) 
        (.again 0 [(.int .i64 (.op .add .i64 (.var 6) (.lit 1))), (.val 11), (.val 9)])))
        (.done (.agg [(.int .u8 (.conv .u8 (.var 1))), (.int .u8 (.lit 0)), (.int .i64 (.var 3)), (.int .i64 (.lit 0)), (.int .i64 (.lit 0)), (.int .i64 (.var 4)), (.val 7)]) []))))))
      (.call 66 [(.val 0), (.int .i64 (.lit 20))] [] [] [] [] 
      (.done (.agg [(.int .u8 (.conv .u8 (.var 1))), (.int .u8 (.lit 0)), (.int .i64 (.lit 0)), (.int .i64 (.lit 0)), (.int .i64 (.lit 0)), (.int .i64 (.lit 0)), (.cst (.slice none 0 0))]) []))))))))
def l68 : List (Nat × List Nat × List (Nat × Nat) × List Nat) := [(26, [66], [(3, 6), (1, 0)], [67, 68, 69, 70, 71, 72, 73, 74, 75])]
theorem e68 : ev Try.prog ⟨allF, [], l68⟩ (bodyOf Try.f68) 0 (initSt [(.val 0)] [] Try.f68.ntmps [.ptr]) (finK Try.prog Try.f68.results []) = t68 := by kernel_rfl
theorem c68 {G : List Value} {h : H} {R : Value → List (List Value) → H → Prop} (hG : FitsL [.ptr] G) (H : holds Try.prog R t68 G [] h) : CallsA Try.prog 68 (fun e => SV.denL G (fun k => e (k - 1000000)) [(.val 0)]) ([].map (SV.denL G dE)) h R :=
  CallsA.of_ev (cf := ⟨allF, [], l68⟩) (fn := Try.f68) (c := bodyOf Try.f68) (pcs := []) Try.func68 (by rfl) callOK (by rfl) hG (by rfl) (by rw [show ([] : List (List SV)).map List.length = [] from rfl, e68]; exact H)
/-- What is left of outworker/wire.end. -/
def t69 : Out :=
 (.call 45 [(.val 0), (.int .i64 (.lit 256))] [] [] [] [(false, [.int .i64])] 
 (.ite (.cmp .eql (.conv .u8 (.var 1)) (.lit 1))
  (.call 83 [(.loc 1 0)] [1] [[(.val 0)]] [[.ptr]] [(false, [.int .i64])] 
  (.done (.agg [(.int .u8 (.conv .u8 (.var 1))), (.int .i64 (.lit 0)), (.int .i64 (.var 3)), (.int .i64 (.lit 0))]) []))
  (.ite (.cmp .eql (.conv .u8 (.var 1)) (.lit 2))
   (.call 83 [(.loc 1 0)] [1] [[(.val 0)]] [[.ptr]] [(false, [.int .i64])] 
   (.call 83 [(.loc 1 0)] [1] [[(.val 2)]] [[.ptr]] [(false, [.int .i64])] 
   (.call 83 [(.loc 1 0)] [1] [[(.val 4)]] [[.ptr]] [(false, [.int .i64])] 
   (.done (.agg [(.int .u8 (.conv .u8 (.var 1))), (.int .i64 (.var 3)), (.int .i64 (.var 5)), (.int .i64 (.var 7))]) []))))
   (.ite (.cmp .eql (.conv .u8 (.var 1)) (.lit 3))
    (.call 83 [(.loc 1 0)] [1] [[(.val 0)]] [[.ptr]] [(false, [.int .i64])] 
    (.done (.agg [(.int .u8 (.conv .u8 (.var 1))), (.int .i64 (.var 3)), (.int .i64 (.lit 0)), (.int .i64 (.lit 0))]) []))
    (.call 66 [(.val 0), (.int .i64 (.lit 20))] [] [] [] [] 
    (.done (.agg [(.int .u8 (.conv .u8 (.var 1))), (.int .i64 (.lit 0)), (.int .i64 (.lit 0)), (.int .i64 (.lit 0))]) []))))))
def l69 : List (Nat × List Nat × List (Nat × Nat) × List Nat) := []
theorem e69 : ev Try.prog ⟨allF, [], l69⟩ (bodyOf Try.f69) 0 (initSt [(.val 0)] [] Try.f69.ntmps [.ptr]) (finK Try.prog Try.f69.results []) = t69 := by kernel_rfl
theorem c69 {G : List Value} {h : H} {R : Value → List (List Value) → H → Prop} (hG : FitsL [.ptr] G) (H : holds Try.prog R t69 G [] h) : CallsA Try.prog 69 (fun e => SV.denL G (fun k => e (k - 1000000)) [(.val 0)]) ([].map (SV.denL G dE)) h R :=
  CallsA.of_ev (cf := ⟨allF, [], l69⟩) (fn := Try.f69) (c := bodyOf Try.f69) (pcs := []) Try.func69 (by rfl) callOK (by rfl) hG (by rfl) (by rw [show ([] : List (List SV)).map List.length = [] from rfl, e69]; exact H)
/-- What is left of outworker/wire.blocks. -/
def t51 : Out :=
 (.call 45 [(.val 0), (.int .i64 (.lit 17))] [] [] [] [(false, [.int .i64])] 
 (.loop 0 [(.cst (.slice none 0 0)), (.int .i64 (.lit 0))] [.sl, .int .i64] 
  (.ite (.cmp .lss (.var 4) (.var 2))
   (.call 45 [(.val 0), (.int .i64 (.op .add .i64 (.var 1) (.lit 1)))] [] [] [] [(false, [.int .i64])] 
   (.loop 1 [(.int .i64 (.lit 0)), (.cst (.slice none 0 0))] [.int .i64, .sl] 
    (.ite (.cmp .lss (.var 6) (.var 5))
     (.call 46 [(.val 0)] [] [] [] [(false, [.int .i64])] 
     (.ite (.cmp .eql (.var 8) (.lit 0))
      (.call 68 [(.val 0)] [] [] [] [(true, [.int .u8, .int .u8, .int .i64, .int .i64, .int .i64, .int .i64, .sl])] 
      (.app 87 7 64 (.val 7) (.cells [(.int .u8 (.var 9)), (.int .u8 (.var 10)), (.int .i64 (.var 11)), (.int .i64 (.var 12)), (.int .i64 (.var 13)), (.int .i64 (.var 14)), (.val 15)] 1) 
      (.again 1 [(.int .i64 (.op .add .i64 (.var 6) (.lit 1))), (.val 16)])))
      (.again 1 [(.int .i64 (.op .add .i64 (.var 6) (.lit 1))), (.val 7)])))
     (.call 69 [(.val 0)] [] [] [] [(true, [.int .u8, .int .i64, .int .i64, .int .i64])] 
     (.call 46 [(.val 0)] [] [] [] [(false, [.int .i64])] 
     (.ite (.cmp .neq (.var 12) (.lit 0))
      (.done (.cst (.slice none 0 0)) [])
      (.app 83 5 56 (.val 3) (.cells [(.val 7), (.int .u8 (.var 8)), (.int .i64 (.var 9)), (.int .i64 (.var 10)), (.int .i64 (.var 11))] 1) 
      (.again 0 [(.val 13), (.int .i64 (.op .add .i64 (.var 4) (.lit 1)))]))))))))
   (.done (.val 3) []))))
def l51 : List (Nat × List Nat × List (Nat × Nat) × List Nat) := [(3, [5, 9], [], [10, 6, 11, 12, 13, 14, 15, 16, 17, 18, 19, 20, 21, 22, 23, 24, 25, 26, 27, 28, 29, 30, 31, 32, 33, 4, 34, 35, 36, 37, 38]), (6, [15], [(6, 0)], [16, 17, 18, 19, 20, 21, 22, 23, 24, 25, 26, 27])]
theorem e51 : ev Try.prog ⟨allF, [], l51⟩ (bodyOf Try.f51) 0 (initSt [(.val 0), (.int .i64 (.var 1))] [] Try.f51.ntmps [.ptr, .int .i64]) (finK Try.prog Try.f51.results []) = t51 := by kernel_rfl
theorem c51 {G : List Value} {h : H} {R : Value → List (List Value) → H → Prop} (hG : FitsL [.ptr, .int .i64] G) (H : holds Try.prog R t51 G [] h) : CallsA Try.prog 51 (fun e => SV.denL G (fun k => e (k - 1000000)) [(.val 0), (.int .i64 (.var 1))]) ([].map (SV.denL G dE)) h R :=
  CallsA.of_ev (cf := ⟨allF, [], l51⟩) (fn := Try.f51) (c := bodyOf Try.f51) (pcs := []) Try.func51 (by rfl) callOK (by rfl) hG (by rfl) (by rw [show ([] : List (List SV)).map List.length = [] from rfl, e51]; exact H)
/-- What is left of outworker/wire.ReadFunc. -/
def t28 : Out :=
 (.call 44 [(.val 0)] [] [] [] [(false, [.ptr])] 
 (.call 45 [(.val 1), (.int .i64 (.lit 4096))] [] [] [] [(false, [.int .i64])] 
 (.call 45 [(.val 1), (.int .i64 (.lit 4096))] [] [] [] [(false, [.int .i64])] 
 (.call 51 [(.val 1), (.int .i64 (.lit 32))] [] [] [] [(false, [.sl])] 
 (.call 47 [(.val 1)] [] [] [] [(false, [.int .i64])] 
 (.ite (.cmp .neq (.var 5) (.lit 0))
  (.done (.tup [(.agg [(.int .i64 (.lit 0)), (.int .i64 (.lit 0)), (.cst (.slice none 0 0))]), (.int .i64 (.var 5))]) [])
  (.call 35 [(.agg [(.int .i64 (.var 2)), (.int .i64 (.var 3)), (.val 4)])] [] [] [] [(true, [.int .i64, .int .i64, .int .i64])] 
  (.ite (.cmp .neq (.var 6) (.lit 0))
   (.done (.tup [(.agg [(.int .i64 (.lit 0)), (.int .i64 (.lit 0)), (.cst (.slice none 0 0))]), (.int .i64 (.lit 30))]) [])
   (.done (.tup [(.agg [(.int .i64 (.var 2)), (.int .i64 (.var 3)), (.val 4)]), (.int .i64 (.lit 0))]) [])))))))))
def l28 : List (Nat × List Nat × List (Nat × Nat) × List Nat) := []
theorem e28 : ev Try.prog ⟨allF, [], l28⟩ (bodyOf Try.f28) 0 (initSt [(.val 0)] [] Try.f28.ntmps [.sl]) (finK Try.prog Try.f28.results []) = t28 := by kernel_rfl
theorem c28 {G : List Value} {h : H} {R : Value → List (List Value) → H → Prop} (hG : FitsL [.sl] G) (H : holds Try.prog R t28 G [] h) : CallsA Try.prog 28 (fun e => SV.denL G (fun k => e (k - 1000000)) [(.val 0)]) ([].map (SV.denL G dE)) h R :=
  CallsA.of_ev (cf := ⟨allF, [], l28⟩) (fn := Try.f28) (c := bodyOf Try.f28) (pcs := []) Try.func28 (by rfl) callOK (by rfl) hG (by rfl) (by rw [show ([] : List (List SV)).map List.length = [] from rfl, e28]; exact H)
/-- What is left of outworker/wire.ReadCode. -/
def t30 : Out :=
 (.call 44 [(.val 0)] [] [] [] [(false, [.ptr])] 
 (.call 45 [(.val 1), (.int .i64 (.lit 4096))] [] [] [] [(false, [.int .i64])] 
 (.call 45 [(.val 1), (.int .i64 (.lit 4096))] [] [] [] [(false, [.int .i64])] 
 (.call 45 [(.val 1), (.int .i64 (.lit 4096))] [] [] [] [(false, [.int .i64])] 
 (.call 51 [(.val 1), (.int .i64 (.lit 400))] [] [] [] [(false, [.sl])] 
 (.call 47 [(.val 1)] [] [] [] [(false, [.int .i64])] 
 (.ite (.cmp .neq (.var 6) (.lit 0))
  (.done (.tup [(.agg [(.int .i64 (.lit 0)), (.int .i64 (.lit 0)), (.int .i64 (.lit 0)), (.cst (.slice none 0 0))]), (.int .i64 (.var 6))]) [])
  (.call 43 [(.agg [(.int .i64 (.var 2)), (.int .i64 (.var 3)), (.int .i64 (.var 4)), (.val 5)])] [] [] [] [(true, [.int .i64, .int .i64, .int .i64])] 
  (.ite (.cmp .neq (.var 7) (.lit 0))
   (.done (.tup [(.agg [(.int .i64 (.lit 0)), (.int .i64 (.lit 0)), (.int .i64 (.lit 0)), (.cst (.slice none 0 0))]), (.int .i64 (.lit 30))]) [])
   (.done (.tup [(.agg [(.int .i64 (.var 2)), (.int .i64 (.var 3)), (.int .i64 (.var 4)), (.val 5)]), (.int .i64 (.lit 0))]) []))))))))))
def l30 : List (Nat × List Nat × List (Nat × Nat) × List Nat) := []
theorem e30 : ev Try.prog ⟨allF, [], l30⟩ (bodyOf Try.f30) 0 (initSt [(.val 0)] [] Try.f30.ntmps [.sl]) (finK Try.prog Try.f30.results []) = t30 := by kernel_rfl
theorem c30 {G : List Value} {h : H} {R : Value → List (List Value) → H → Prop} (hG : FitsL [.sl] G) (H : holds Try.prog R t30 G [] h) : CallsA Try.prog 30 (fun e => SV.denL G (fun k => e (k - 1000000)) [(.val 0)]) ([].map (SV.denL G dE)) h R :=
  CallsA.of_ev (cf := ⟨allF, [], l30⟩) (fn := Try.f30) (c := bodyOf Try.f30) (pcs := []) Try.func30 (by rfl) callOK (by rfl) hG (by rfl) (by rw [show ([] : List (List SV)).map List.length = [] from rfl, e30]; exact H)
/-- What is left of outworker/wire.ins$1. -/
def t81k : Out :=
 (.call 45 [(.val 0), (.int .i64 (.lit 4096))] [] [] [] [(false, [.int .i64])] 
 (.done (.int .i64 (.var 1)) [[(.val 0)]]))
def l81k : List (Nat × List Nat × List (Nat × Nat) × List Nat) := []
theorem e81k : ev Try.prog ⟨allF, [], l81k⟩ (bodyOf Try.f81) 0 (initSt [(.loc 1000000 0)] [[(.val 0)]] Try.f81.ntmps [.ptr]) (finK Try.prog Try.f81.results [1]) = t81k := by kernel_rfl
theorem c81k {G : List Value} {h : H} {R : Value → List (List Value) → H → Prop} (hG : FitsL [.ptr] G) (H : holds Try.prog R t81k G [] h) : CallsA Try.prog 81 (fun e => SV.denL G (fun k => e (k - 1000000)) [(.loc 1000000 0)]) ([[(.val 0)]].map (SV.denL G dE)) h R :=
  CallsA.of_ev (cf := ⟨allF, [], l81k⟩) (fn := Try.f81) (c := bodyOf Try.f81) (pcs := [[(.val 0)]]) Try.func81 (by rfl) callOK (by rfl) hG (by rfl) (by rw [show ([[(.val 0)]] : List (List SV)).map List.length = [1] from rfl, e81k]; exact H)
/-- What is left of outworker/wire.end$1. -/
def t83k : Out :=
 (.call 45 [(.val 0), (.int .i64 (.lit 4096))] [] [] [] [(false, [.int .i64])] 
 (.done (.int .i64 (.var 1)) [[(.val 0)]]))
def l83k : List (Nat × List Nat × List (Nat × Nat) × List Nat) := []
theorem e83k : ev Try.prog ⟨allF, [], l83k⟩ (bodyOf Try.f83) 0 (initSt [(.loc 1000000 0)] [[(.val 0)]] Try.f83.ntmps [.ptr]) (finK Try.prog Try.f83.results [1]) = t83k := by kernel_rfl
theorem c83k {G : List Value} {h : H} {R : Value → List (List Value) → H → Prop} (hG : FitsL [.ptr] G) (H : holds Try.prog R t83k G [] h) : CallsA Try.prog 83 (fun e => SV.denL G (fun k => e (k - 1000000)) [(.loc 1000000 0)]) ([[(.val 0)]].map (SV.denL G dE)) h R :=
  CallsA.of_ev (cf := ⟨allF, [], l83k⟩) (fn := Try.f83) (c := bodyOf Try.f83) (pcs := [[(.val 0)]]) Try.func83 (by rfl) callOK (by rfl) hG (by rfl) (by rw [show ([[(.val 0)]] : List (List SV)).map List.length = [1] from rfl, e83k]; exact H)
end Go.Proofs.Ythnoplfjcdkacaa
