/-
  What the evaluator leaves of the functions of this seat (trees, printed by a program of ours), and their contracts from it. Conditions: none.
-/
import Derived.Test.YtbgfabppmobpgaaDoorR1Tr
set_option linter.unusedVariables false
set_option linter.unusedSimpArgs false
namespace Go.Proofs.YtbgfabppmobpgaaDoor
open Go

/-- What is left of outworker/outworkerlaw16.Awake. -/
def t19 : Out :=
 (.alloc 41 [(.int .i64 (.lit 0)), (.int .i64 (.lit 1)), (.int .i64 (.lit 0)), (.int .i64 (.lit 2)), (.int .i64 (.lit 1)), (.int .i64 (.lit 2))] (.lsl 3) 
 (.mk 4 1 1 (.lit 3) 
 (.call 20 [(.agg [(.int .i64 (.lit 3)), (.val 0), (.cst (.slice none 0 0))]), (.int .i64 (.lit 2)), (.val 1)] [] [] [] [(false, [.sl]), (false, [.int .i64])] 
 (.mk 4 1 1 (.lit 3) 
 (.call 20 [(.agg [(.int .i64 (.lit 3)), (.val 0), (.cst (.slice none 0 0))]), (.int .i64 (.lit 3)), (.val 4)] [] [] [] [(false, [.sl]), (false, [.int .i64])] 
 (.ite (.ite (.cmp .eql (.var 3) (.lit 0)) (.cmp .eql (.var 6) (.lit 0)) (.tt false))
  (.call 23 [(.val 2)] [] [] [] [(false, [.int .i64])] 
  (.ite (.cmp .geq (.var 7) (.lit 1))
   (.call 23 [(.val 5)] [] [] [] [(false, [.int .i64])] 
   (.ite (.cmp .eql (.var 8) (.lit 0))
    (.call 15 [(.agg [(.int .i64 (.lit 3)), (.val 0), (.cst (.slice none 0 0))]), (.int .i64 (.lit 2)), (.val 2)] [] [] [] [(false, [.bool])] 
    (.ite (.var 9)
     (.call 15 [(.agg [(.int .i64 (.lit 3)), (.val 0), (.cst (.slice none 0 0))]), (.int .i64 (.lit 3)), (.val 5)] [] [] [] [(false, [.bool])] 
     (.done (.bool (.var 10)) []))
     (.done (.bool (.tt false)) [])))
    (.done (.bool (.tt false)) [])))
   (.done (.bool (.tt false)) [])))
  (.done (.bool (.tt false)) [])))))))
def l19 : List (Nat × List Nat × List (Nat × Nat) × List Nat) := []
theorem e19 : ev Tryd.prog ⟨allF, [9], l19⟩ (bodyOf Tryd.f19) 0 (initSt [] [] Tryd.f19.ntmps []) (finK Tryd.prog Tryd.f19.results []) = t19 := by kernel_rfl
theorem c19 {G : List Value} {h : H} {R : Value → List (List Value) → H → Prop} (hG : FitsL [] G) (H : holds Tryd.prog R t19 G [] h) : CallsA Tryd.prog 19 (fun e => SV.denL G (fun k => e (k - 1000000)) []) ([].map (SV.denL G dE)) h R :=
  CallsA.of_ev (cf := ⟨allF, [9], l19⟩) (fn := Tryd.f19) (c := bodyOf Tryd.f19) (pcs := []) Tryd.func19 (by rfl) callOK (by rfl) hG (by rfl) (by rw [show ([] : List (List SV)).map List.length = [] from rfl, e19]; exact H)
/-- What is left of outworker/colour.Colour. -/
def t20 : Out :=
 (.call 25 [(.agg [(.int .i64 (.var 0)), (.val 1), (.val 2)])] [] [] [] [(false, [.bool])] 
 (.ite (.ite (.not (.var 5)) (.tt true) (.cmp .neq (.len 4) (.var 0)))
  (.done (.tup [(.cst (.slice none 0 0)), (.int .i64 (.lit 30))]) [])
  (.ite (.ite (.cmp .lss (.var 3) (.lit 1)) (.tt true) (.cmp .gtr (.var 3) (.lit 8)))
   (.done (.tup [(.cst (.slice none 0 0)), (.int .i64 (.lit 40))]) [])
   (.call 26 [(.agg [(.int .i64 (.var 0)), (.val 1), (.val 2)])] [] [] [] [(false, [.sl])] 
   (.call 31 [(.val 2)] [] [] [] [(false, [.sl])] 
   (.alloc 69 [(.int .i64 (.var 3)), (.val 4), (.val 6), (.val 7), (.cst (.slice none 0 0)), (.cst (.slice none 0 0)), (.cst (.slice none 0 0))] .loc 
   (.loop 0 [(.int .i64 (.lit 0))] [.int .i64] 
    (.ite (.cmp .lss (.var 9) (.var 0))
     (.load (.tt true) (.fld (.var 8) 4) [.sl] 
     (.app 3 1 8 (.val 10) (.cells [(.int .i64 (.var 9))] 1) 
     (.store (.fld (.var 8) 4) [(.val 11)] 
     (.call 32 [(.ptr (.fld (.var 8) 5)), (.int .i64 (.var 9))] [] [] [] [(false, [.bool])] 
     (.again 0 [(.int .i64 (.op .add .i64 (.var 9) (.lit 1)))])))))
     (.loop 0 [] [] 
      (.call 33 [(.ptr (.var 8))] [] [] [] [(false, [.bool])] 
      (.ite (.not (.var 10))
       (.call 34 [(.ptr (.var 8))] [] [] [] [(false, [.bool])] 
       (.ite (.not (.var 11))
        (.call 35 [(.ptr (.var 8))] [] [] [] [(false, [.bool])] 
        (.ite (.not (.var 12))
         (.call 36 [(.ptr (.var 8))] [] [] [] [(false, [.bool])] 
         (.ite (.var 13)
          (.again 0 [])
          (.call 37 [(.ptr (.var 8))] [] [] [] [(false, [.sl])] 
          (.done (.tup [(.val 14), (.int .i64 (.lit 0))]) []))))
         (.again 0 [])))
        (.again 0 [])))
       (.again 0 []))))))))))))
def l20 : List (Nat × List Nat × List (Nat × Nat) × List Nat) := [(7, [37], [], [38, 39, 9, 40, 41, 42, 43, 44, 45, 46, 47, 48, 49, 50, 51, 52, 53, 54, 55]), (12, [], [], [56, 57, 58, 59, 60, 61, 62, 63, 64, 65, 66, 67, 68, 69])]
theorem e20 : ev Tryd.prog ⟨allF, [34], l20⟩ (bodyOf Tryd.f20) 0 (initSt [(.agg [(.int .i64 (.var 0)), (.val 1), (.val 2)]), (.int .i64 (.var 3)), (.val 4)] [] Tryd.f20.ntmps [.int .i64, .sl, .sl, .int .i64, .sl]) (finK Tryd.prog Tryd.f20.results []) = t20 := by kernel_rfl
theorem c20 {G : List Value} {h : H} {R : Value → List (List Value) → H → Prop} (hG : FitsL [.int .i64, .sl, .sl, .int .i64, .sl] G) (H : holds Tryd.prog R t20 G [] h) : CallsA Tryd.prog 20 (fun e => SV.denL G (fun k => e (k - 1000000)) [(.agg [(.int .i64 (.var 0)), (.val 1), (.val 2)]), (.int .i64 (.var 3)), (.val 4)]) ([].map (SV.denL G dE)) h R :=
  CallsA.of_ev (cf := ⟨allF, [34], l20⟩) (fn := Tryd.f20) (c := bodyOf Tryd.f20) (pcs := []) Tryd.func20 (by rfl) callOK (by rfl) hG (by rfl) (by rw [show ([] : List (List SV)).map List.length = [] from rfl, e20]; exact H)
/-- What is left of outworker/outworkerlaw16.firms. -/
def t21 : Out :=
 (.mk 4 1 1 (.var 0) 
 (.loop 0 [(.int .i64 (.lit 0))] [.int .i64] 
  (.ite (.cmp .lss (.var 3) (.len 2))
   (.need (.tt true) [(.cmp .geq (.op .rem .i64 (.var 3) (.lit 16)) (.lit 0))] 
   (.need (.tt true) [(.cmp .geq (.var 3) (.lit 0)), (.cmp .lss (.var 3) (.len 2))] 
   (.store (.idx (.var 2) (.var 3) 1) [(.bool (.cmp .eql (.op .and .u16 (.op .shr .u16 (.var 1) (.op .rem .i64 (.var 3) (.lit 16))) (.lit 1)) (.lit 1)))] 
   (.again 0 [(.int .i64 (.op .add .i64 (.var 3) (.lit 1)))]))))
   (.done (.val 2) []))))
def l21 : List (Nat × List Nat × List (Nat × Nat) × List Nat) := [(3, [11], [], [12, 13, 6, 14, 15, 16, 17, 18, 19, 20, 21, 22, 23])]
theorem e21 : ev Tryd.prog ⟨allF, [], l21⟩ (bodyOf Tryd.f21) 0 (initSt [(.int .i64 (.var 0)), (.int .u16 (.var 1))] [] Tryd.f21.ntmps [.int .i64, .int .u16]) (finK Tryd.prog Tryd.f21.results []) = t21 := by kernel_rfl
theorem c21 {G : List Value} {h : H} {R : Value → List (List Value) → H → Prop} (hG : FitsL [.int .i64, .int .u16] G) (H : holds Tryd.prog R t21 G [] h) : CallsA Tryd.prog 21 (fun e => SV.denL G (fun k => e (k - 1000000)) [(.int .i64 (.var 0)), (.int .u16 (.var 1))]) ([].map (SV.denL G dE)) h R :=
  CallsA.of_ev (cf := ⟨allF, [], l21⟩) (fn := Tryd.f21) (c := bodyOf Tryd.f21) (pcs := []) Tryd.func21 (by rfl) callOK (by rfl) hG (by rfl) (by rw [show ([] : List (List SV)).map List.length = [] from rfl, e21]; exact H)
/-- What is left of outworker/outworkerref10.Degree. -/
def t22 : Out :=
 (.loop 0 [(.int .i64 (.lit 0)), (.int .i64 (.lit 0))] [.int .i64, .int .i64] 
  (.ite (.cmp .lss (.var 5) (.len 1))
   (.need (.tt true) [(.cmp .geq (.var 5) (.lit 0)), (.cmp .lss (.var 5) (.len 1))] 
   (.load (.tt true) (.fld (.idx (.var 1) (.var 5) 2) 0) [.int .i64] 
   (.need (.not (.cmp .eql (.var 6) (.var 3))) [(.cmp .geq (.var 5) (.lit 0)), (.cmp .lss (.var 5) (.len 1))] 
   (.load (.not (.cmp .eql (.var 6) (.var 3))) (.fld (.idx (.var 1) (.var 5) 2) 1) [.int .i64] 
   (.again 0 [(.int .i64 (.ite (.ite (.cmp .eql (.var 6) (.var 3)) (.tt true) (.cmp .eql (.var 7) (.var 3))) (.op .add .i64 (.var 4) (.lit 1)) (.var 4))), (.int .i64 (.op .add .i64 (.var 5) (.lit 1)))])))))
   (.done (.int .i64 (.var 4)) [])))
def l22 : List (Nat × List Nat × List (Nat × Nat) × List Nat) := [(3, [5, 6], [], [7, 8, 9, 10, 11, 14, 15, 16, 17, 18, 19, 20, 21, 22, 23, 24, 25, 26, 27, 28, 29, 30, 31, 32, 33, 12, 13])]
theorem e22 : ev Tryd.prog ⟨allF, [], l22⟩ (bodyOf Tryd.f22) 0 (initSt [(.agg [(.int .i64 (.var 0)), (.val 1), (.val 2)]), (.int .i64 (.var 3))] [] Tryd.f22.ntmps [.int .i64, .sl, .sl, .int .i64]) (finK Tryd.prog Tryd.f22.results []) = t22 := by kernel_rfl
theorem c22 {G : List Value} {h : H} {R : Value → List (List Value) → H → Prop} (hG : FitsL [.int .i64, .sl, .sl, .int .i64] G) (H : holds Tryd.prog R t22 G [] h) : CallsA Tryd.prog 22 (fun e => SV.denL G (fun k => e (k - 1000000)) [(.agg [(.int .i64 (.var 0)), (.val 1), (.val 2)]), (.int .i64 (.var 3))]) ([].map (SV.denL G dE)) h R :=
  CallsA.of_ev (cf := ⟨allF, [], l22⟩) (fn := Tryd.f22) (c := bodyOf Tryd.f22) (pcs := []) Tryd.func22 (by rfl) callOK (by rfl) hG (by rfl) (by rw [show ([] : List (List SV)).map List.length = [] from rfl, e22]; exact H)
/-- What is left of outworker/outworkerlaw16.out. -/
def t23 : Out :=
 (.loop 0 [(.int .i64 (.lit 0)), (.int .i64 (.lit 0))] [.int .i64, .int .i64] 
  (.ite (.cmp .lss (.var 2) (.len 0))
   (.need (.tt true) [(.cmp .geq (.var 2) (.lit 0)), (.cmp .lss (.var 2) (.len 0))] 
   (.load (.tt true) (.idx (.var 0) (.var 2) 1) [.int .i64] 
   (.again 0 [(.int .i64 (.ite (.cmp .lss (.var 3) (.lit 0)) (.op .add .i64 (.var 1) (.lit 1)) (.var 1))), (.int .i64 (.op .add .i64 (.var 2) (.lit 1)))])))
   (.done (.int .i64 (.var 1)) [])))
def l23 : List (Nat × List Nat × List (Nat × Nat) × List Nat) := [(3, [3, 8], [], [9, 10, 11, 5, 12, 13, 14, 15, 16])]
theorem e23 : ev Tryd.prog ⟨allF, [], l23⟩ (bodyOf Tryd.f23) 0 (initSt [(.val 0)] [] Tryd.f23.ntmps [.sl]) (finK Tryd.prog Tryd.f23.results []) = t23 := by kernel_rfl
theorem c23 {G : List Value} {h : H} {R : Value → List (List Value) → H → Prop} (hG : FitsL [.sl] G) (H : holds Tryd.prog R t23 G [] h) : CallsA Tryd.prog 23 (fun e => SV.denL G (fun k => e (k - 1000000)) [(.val 0)]) ([].map (SV.denL G dE)) h R :=
  CallsA.of_ev (cf := ⟨allF, [], l23⟩) (fn := Tryd.f23) (c := bodyOf Tryd.f23) (pcs := []) Tryd.func23 (by rfl) callOK (by rfl) hG (by rfl) (by rw [show ([] : List (List SV)).map List.length = [] from rfl, e23]; exact H)
/-- What is left of outworker/outworkerref10.SameEdges. -/
def t24 : Out :=
 (.ite (.cmp .neq (.len 0) (.len 1))
  (.done (.bool (.tt false)) [])
  (.loop 0 [(.int .i64 (.lit 0))] [.int .i64] 
   (.ite (.cmp .lss (.var 2) (.len 0))
    (.need (.tt true) [(.cmp .geq (.var 2) (.lit 0)), (.cmp .lss (.var 2) (.len 0))] 
    (.load (.tt true) (.idx (.var 0) (.var 2) 2) [.int .i64, .int .i64] 
    (.need (.tt true) [(.cmp .geq (.var 2) (.lit 0)), (.cmp .lss (.var 2) (.len 1))] 
    (.load (.tt true) (.idx (.var 1) (.var 2) 2) [.int .i64, .int .i64] 
    (.ite (.not (.and (.cmp .eql (.var 3) (.var 5)) (.cmp .eql (.var 4) (.var 6))))
     (.done (.bool (.tt false)) [])
     (.again 0 [(.int .i64 (.op .add .i64 (.var 2) (.lit 1)))]))))))
    (.done (.bool (.tt true)) []))))
def l24 : List (Nat × List Nat × List (Nat × Nat) × List Nat) := [(4, [5], [], [11, 12, 13, 14, 17, 18, 19, 20, 21, 22, 23, 24, 25, 4, 15, 16])]
theorem e24 : ev Tryd.prog ⟨allF, [], l24⟩ (bodyOf Tryd.f24) 0 (initSt [(.val 0), (.val 1)] [] Tryd.f24.ntmps [.sl, .sl]) (finK Tryd.prog Tryd.f24.results []) = t24 := by kernel_rfl
theorem c24 {G : List Value} {h : H} {R : Value → List (List Value) → H → Prop} (hG : FitsL [.sl, .sl] G) (H : holds Tryd.prog R t24 G [] h) : CallsA Tryd.prog 24 (fun e => SV.denL G (fun k => e (k - 1000000)) [(.val 0), (.val 1)]) ([].map (SV.denL G dE)) h R :=
  CallsA.of_ev (cf := ⟨allF, [], l24⟩) (fn := Tryd.f24) (c := bodyOf Tryd.f24) (pcs := []) Tryd.func24 (by rfl) callOK (by rfl) hG (by rfl) (by rw [show ([] : List (List SV)).map List.length = [] from rfl, e24]; exact H)
/-- What is left of slices.Clone[[]outworker/api.Edge,outworker/api.Edge]. -/
def t31 : Out :=
 (.ite (.nilp 0)
  (.done (.cst (.slice none 0 0)) [])
  (.alloc 41 [] (.lsl 0) 
  (.app 41 2 16 (.val 1) (.sl (.val 0)) 
  (.done (.val 2) []))))
def l31 : List (Nat × List Nat × List (Nat × Nat) × List Nat) := []
theorem e31 : ev Tryd.prog ⟨allF, [5], l31⟩ (bodyOf Tryd.f31) 0 (initSt [(.val 0)] [] Tryd.f31.ntmps [.sl]) (finK Tryd.prog Tryd.f31.results []) = t31 := by kernel_rfl
theorem c31 {G : List Value} {h : H} {R : Value → List (List Value) → H → Prop} (hG : FitsL [.sl] G) (H : holds Tryd.prog R t31 G [] h) : CallsA Tryd.prog 31 (fun e => SV.denL G (fun k => e (k - 1000000)) [(.val 0)]) ([].map (SV.denL G dE)) h R :=
  CallsA.of_ev (cf := ⟨allF, [5], l31⟩) (fn := Tryd.f31) (c := bodyOf Tryd.f31) (pcs := []) Tryd.func31 (by rfl) callOK (by rfl) hG (by rfl) (by rw [show ([] : List (List SV)).map List.length = [] from rfl, e31]; exact H)
/-- What is left of (*outworker/colour.work).simplify. -/
def t33 : Out :=
 (.load (.tt true) (.fld (.var 0) 5) [.sl] 
 (.call 45 [(.agg [(.val 1)])] [] [] [] [(false, [.sl])] 
 (.loop 0 [(.int .i64 (.lit 0))] [.int .i64] 
  (.ite (.cmp .lss (.var 3) (.len 2))
   (.need (.tt true) [(.cmp .geq (.var 3) (.lit 0)), (.cmp .lss (.var 3) (.len 2))] 
   (.load (.tt true) (.idx (.var 2) (.var 3) 1) [.int .i64] 
   (.load (.tt true) (.fld (.var 0) 0) [.int .i64] 
   (.call 46 [(.ptr (.var 0)), (.int .i64 (.var 4))] [] [] [] [(false, [.int .i64])] 
   (.still (.tt true) (.fld (.var 0) 0) [(.int .i64 (.var 5))] 
   (.ite (.cmp .lss (.var 6) (.var 5))
    (.call 47 [(.ptr (.var 0)), (.int .i64 (.var 4))] [] [] [] [(false, [.bool])] 
    (.still (.tt true) (.fld (.var 0) 0) [(.int .i64 (.var 5))] 
    (.ite (.not (.var 7))
     (.call 48 [(.ptr (.var 0)), (.int .i64 (.var 4))] [] [] [] [] 
     (.done (.bool (.tt true)) []))
     (.again 0 [(.int .i64 (.op .add .i64 (.var 3) (.lit 1)))]))))
    (.still (.tt true) (.fld (.var 0) 0) [(.int .i64 (.var 5))] 
    (.again 0 [(.int .i64 (.op .add .i64 (.var 3) (.lit 1)))]))))))))
   (.done (.bool (.tt false)) [])))))
def l33 : List (Nat × List Nat × List (Nat × Nat) × List Nat) := [(2, [11], [], [12, 13, 14, 4, 15, 16, 17, 18, 19, 20, 21, 22, 23, 24, 25, 26, 27, 28, 29, 30, 31, 2, 32])]
theorem e33 : ev Tryd.prog ⟨allF, [], l33⟩ (bodyOf Tryd.f33) 0 (initSt [(.ptr (.var 0))] [] Tryd.f33.ntmps [.ptr]) (finK Tryd.prog Tryd.f33.results []) = t33 := by kernel_rfl
theorem c33 {G : List Value} {h : H} {R : Value → List (List Value) → H → Prop} (hG : FitsL [.ptr] G) (H : holds Tryd.prog R t33 G [] h) : CallsA Tryd.prog 33 (fun e => SV.denL G (fun k => e (k - 1000000)) [(.ptr (.var 0))]) ([].map (SV.denL G dE)) h R :=
  CallsA.of_ev (cf := ⟨allF, [], l33⟩) (fn := Tryd.f33) (c := bodyOf Tryd.f33) (pcs := []) Tryd.func33 (by rfl) callOK (by rfl) hG (by rfl) (by rw [show ([] : List (List SV)).map List.length = [] from rfl, e33]; exact H)
/-- What is left of (*outworker/colour.work).coalesce. -/
def t34 : Out :=
 (.load (.tt true) (.fld (.var 0) 3) [.sl] 
 (.loop 0 [(.int .i64 (.lit 0))] [.int .i64] 
  (.ite (.cmp .lss (.var 2) (.len 1))
   (.need (.tt true) [(.cmp .geq (.var 2) (.lit 0)), (.cmp .lss (.var 2) (.len 1))] 
   (.load (.tt true) (.idx (.var 1) (.var 2) 2) [.int .i64, .int .i64] 
   (.call 49 [(.ptr (.var 0)), (.int .i64 (.var 3))] [] [] [] [(false, [.int .i64])] 
   (.call 49 [(.ptr (.var 0)), (.int .i64 (.var 4))] [] [] [] [(false, [.int .i64])] 
   (.load (.not (.cmp .eql (.var 5) (.var 6))) (.fld (.var 0) 2) [.sl] 
   (.need (.not (.cmp .eql (.var 5) (.var 6))) [(.cmp .geq (.var 5) (.lit 0)), (.cmp .lss (.var 5) (.len 7))] 
   (.load (.not (.cmp .eql (.var 5) (.var 6))) (.idx (.var 7) (.var 5) 1) [.sl] 
   (.ite (.not (.cmp .eql (.var 5) (.var 6)))
    (.call 44 [(.agg [(.val 8)]), (.int .i64 (.var 6))] [] [] [] [(false, [.bool])] 
    (.load (.not (.var 9)) (.fld (.var 0) 1) [.sl] 
    (.need (.not (.var 9)) [(.cmp .geq (.var 5) (.lit 0)), (.cmp .lss (.var 5) (.len 10))] 
    (.load (.not (.var 9)) (.idx (.var 10) (.var 5) 1) [.bool] 
    (.load (.not (.ite (.var 9) (.tt true) (.var 11))) (.fld (.var 0) 1) [.sl] 
    (.need (.not (.ite (.var 9) (.tt true) (.var 11))) [(.cmp .geq (.var 6) (.lit 0)), (.cmp .lss (.var 6) (.len 12))] 
    (.load (.not (.ite (.var 9) (.tt true) (.var 11))) (.idx (.var 12) (.var 6) 1) [.bool] 
    (.load (.not (.ite (.ite (.var 9) (.tt true) (.var 11)) (.tt true) (.var 13))) (.fld (.var 0) 5) [.sl] 
    (.ite (.not (.ite (.ite (.var 9) (.tt true) (.var 11)) (.tt true) (.var 13)))
     (.call 44 [(.agg [(.val 14)]), (.int .i64 (.var 5))] [] [] [] [(false, [.bool])] 
     (.load (.var 15) (.fld (.var 0) 5) [.sl] 
     (.ite (.var 15)
      (.call 44 [(.agg [(.val 16)]), (.int .i64 (.var 6))] [] [] [] [(false, [.bool])] 
      (.ite (.not (.var 17))
       (.load (.tt true) (.fld (.var 0) 3) [.sl] 
       (.call 50 [(.val 18), (.int .i64 (.var 2)), (.int .i64 (.op .add .i64 (.var 2) (.lit 1)))] [] [] [] [(false, [.sl])] 
       (.store (.fld (.var 0) 3) [(.val 19)] 
       (.done (.bool (.tt true)) []))))
       (.load (.tt true) (.fld (.var 0) 2) [.sl] 
       (.need (.tt true) [(.cmp .geq (.var 5) (.lit 0)), (.cmp .lss (.var 5) (.len 18))] 
       (.load (.tt true) (.idx (.var 18) (.var 5) 1) [.sl] 
       (.call 51 [(.agg [(.val 19)])] [] [] [] [(true, [.sl])] 
       (.load (.tt true) (.fld (.var 0) 2) [.sl] 
       (.need (.tt true) [(.cmp .geq (.var 6) (.lit 0)), (.cmp .lss (.var 6) (.len 21))] 
       (.load (.tt true) (.idx (.var 21) (.var 6) 1) [.sl] 
       (.call 52 [(.loc 7 0), (.agg [(.val 22)])] [7] [[(.val 20)]] [[.sl]] [(false, [.bool])] 
       (.load (.tt true) (.fld (.var 0) 5) [.sl] 
       (.call 53 [(.loc 7 0), (.agg [(.val 25)])] [7] [[(.val 23)]] [[.sl]] [] 
       (.call 45 [(.agg [(.val 26)])] [] [] [] [(false, [.sl])] 
       (.loop 1 [(.int .i64 (.lit 0)), (.int .i64 (.lit 0))] [.int .i64, .int .i64] 
        (.ite (.cmp .lss (.var 29) (.len 27))
         (.need (.tt true) [(.cmp .geq (.var 29) (.lit 0)), (.cmp .lss (.var 29) (.len 27))] 
         (.load (.tt true) (.idx (.var 27) (.var 29) 1) [.int .i64] 
         (.load (.tt true) (.fld (.var 0) 0) [.int .i64] 
         (.call 46 [(.ptr (.var 0)), (.int .i64 (.var 30))] [] [] [] [(false, [.int .i64])] 
         (.still (.tt true) (.fld (.var 0) 0) [(.int .i64 (.var 31))] 
         (.again 1 [(.int .i64 (.ite (.cmp .geq (.var 32) (.var 31)) (.op .add .i64 (.var 28) (.lit 1)) (.var 28))), (.int .i64 (.op .add .i64 (.var 29) (.lit 1)))]))))))
         (.load (.tt true) (.fld (.var 0) 0) [.int .i64] 
         (.ite (.cmp .geq (.var 28) (.var 30))
          (.again 0 [(.int .i64 (.op .add .i64 (.var 2) (.lit 1)))])
          (.load (.tt true) (.fld (.var 0) 3) [.sl] 
          (.call 50 [(.val 31), (.int .i64 (.var 2)), (.int .i64 (.op .add .i64 (.var 2) (.lit 1)))] [] [] [] [(false, [.sl])] 
          (.store (.fld (.var 0) 3) [(.val 32)] 
          (.load (.tt true) (.fld (.var 0) 4) [.sl] 
          (.need (.tt true) [(.cmp .geq (.var 6) (.lit 0)), (.cmp .lss (.var 6) (.len 33))] 
          (.store (.idx (.var 33) (.var 6) 1) [(.int .i64 (.var 5))] 
          (.call 54 [(.ptr (.fld (.var 0) 5)), (.int .i64 (.var 6))] [] [] [] [(false, [.bool])] 
          (.load (.tt true) (.fld (.var 0) 2) [.sl] 
          (.need (.tt true) [(.cmp .geq (.var 6) (.lit 0)), (.cmp .lss (.var 6) (.len 35))] 
          (.load (.tt true) (.idx (.var 35) (.var 6) 1) [.sl] 
          (.call 45 [(.agg [(.val 36)])] [] [] [] [(false, [.sl])] 
          (.loop 1 [(.int .i64 (.lit 0))] [.int .i64] 
           (.ite (.cmp .lss (.var 38) (.len 37))
            (.need (.tt true) [(.cmp .geq (.var 38) (.lit 0)), (.cmp .lss (.var 38) (.len 37))] 
            (.load (.tt true) (.idx (.var 37) (.var 38) 1) [.int .i64] 
            (.load (.tt true) (.fld (.var 0) 2) [.sl] 
            (.need (.tt true) [(.cmp .geq (.var 5) (.lit 0)), (.cmp .lss (.var 5) (.len 40))] 
            (.call 32 [(.ptr (.idx (.var 40) (.var 5) 1)), (.int .i64 (.var 39))] [] [] [] [(false, [.bool])] 
            (.load (.tt true) (.fld (.var 0) 2) [.sl] 
            (.need (.tt true) [(.cmp .geq (.var 39) (.lit 0)), (.cmp .lss (.var 39) (.len 42))] 
            (.call 32 [(.ptr (.idx (.var 42) (.var 39) 1)), (.int .i64 (.var 5))] [] [] [] [(false, [.bool])] 
            (.again 1 [(.int .i64 (.op .add .i64 (.var 38) (.lit 1)))])))))))))
            (.done (.bool (.tt true)) [])))))))))))))))))))))))))))))))
      (.load (.tt true) (.fld (.var 0) 3) [.sl] 
      (.call 50 [(.val 17), (.int .i64 (.var 2)), (.int .i64 (.op .add .i64 (.var 2) (.lit 1)))] [] [] [] [(false, [.sl])] 
      (.store (.fld (.var 0) 3) [(.val 18)] 
      (.done (.bool (.tt true)) [])))))))
     (.load (.tt true) (.fld (.var 0) 3) [.sl] 
     (.call 50 [(.val 15), (.int .i64 (.var 2)), (.int .i64 (.op .add .i64 (.var 2) (.lit 1)))] [] [] [] [(false, [.sl])] 
     (.store (.fld (.var 0) 3) [(.val 16)] 
     (.done (.bool (.tt true)) [])))))))))))))
    (.load (.tt true) (.fld (.var 0) 3) [.sl] 
    (.call 50 [(.val 9), (.int .i64 (.var 2)), (.int .i64 (.op .add .i64 (.var 2) (.lit 1)))] [] [] [] [(false, [.sl])] 
    (.store (.fld (.var 0) 3) [(.val 10)] 
    (.done (.bool (.tt true)) []))))))))))))
   (.done (.bool (.tt false)) []))))
def l34 : List (Nat × List Nat × List (Nat × Nat) × List Nat) := [(2, [18], [], [19, 20, 21, 22, 4, 3, 23, 24, 25, 26, 27, 28, 29, 30, 5, 6, 31, 32, 33, 34, 35, 36, 37, 38, 39, 40, 41, 42, 43, 44, 45, 46, 47, 48, 49, 50, 51, 52, 53, 54, 55, 56, 57, 58, 59, 60, 61, 62, 63, 64, 65, 66, 67, 68, 69, 70, 71, 72, 73, 74, 75, 76, 77, 78, 79, 80, 81, 82, 83, 84, 85, 86, 87, 88, 89, 90, 91, 2, 92, 93, 94, 95, 96, 97, 98, 99, 7, 100, 101, 102, 103, 104, 105, 106, 107, 108, 109, 110, 111, 112, 8, 113, 114, 115, 116, 117, 118, 119, 10, 120, 121, 122, 123, 124, 125, 126, 127, 128, 129, 130, 131, 132, 133, 134, 135, 136, 137, 138, 139, 140, 141, 142, 143, 144, 145, 146, 147, 148, 149, 150, 151, 152, 153, 154, 155, 156, 157, 158, 159, 160, 161, 162, 163, 164, 165, 166, 167, 168, 169, 170, 171, 172, 12, 173, 174, 175, 176, 177, 178, 179, 180, 181, 182, 183, 184, 185, 186, 187, 188, 189, 190]), (13, [8, 116], [], [117, 118, 119, 10, 120, 121, 122, 123, 124, 125, 126, 127, 128, 129, 130]), (23, [169], [], [170, 171, 172, 12, 173, 174, 175, 176, 177, 178, 179, 180, 181, 182, 183, 184, 185, 186, 187, 188, 189])]
theorem e34 : ev Tryd.prog ⟨allF, [], l34⟩ (bodyOf Tryd.f34) 0 (initSt [(.ptr (.var 0))] [] Tryd.f34.ntmps [.ptr]) (finK Tryd.prog Tryd.f34.results []) = t34 := by kernel_rfl
theorem c34 {G : List Value} {h : H} {R : Value → List (List Value) → H → Prop} (hG : FitsL [.ptr] G) (H : holds Tryd.prog R t34 G [] h) : CallsA Tryd.prog 34 (fun e => SV.denL G (fun k => e (k - 1000000)) [(.ptr (.var 0))]) ([].map (SV.denL G dE)) h R :=
  CallsA.of_ev (cf := ⟨allF, [], l34⟩) (fn := Tryd.f34) (c := bodyOf Tryd.f34) (pcs := []) Tryd.func34 (by rfl) callOK (by rfl) hG (by rfl) (by rw [show ([] : List (List SV)).map List.length = [] from rfl, e34]; exact H)
/-- What is left of (*outworker/colour.work).freeze. -/
def t35 : Out :=
 (.alloc 63 [(.ptr (.var 0))] .loc 
 (.load (.tt true) (.var 1) [.ptr] 
 (.need (.tt true) [(.not (.nilp 2))] 
 (.load (.tt true) (.fld (.var 2) 5) [.sl] 
 (.call 45 [(.agg [(.val 3)])] [] [] [] [(false, [.sl])] 
 (.loop 0 [(.int .i64 (.lit 0))] [.int .i64] 
  (.ite (.cmp .lss (.var 5) (.len 4))
   (.need (.tt true) [(.cmp .geq (.var 5) (.lit 0)), (.cmp .lss (.var 5) (.len 4))] 
   (.load (.tt true) (.idx (.var 4) (.var 5) 1) [.int .i64] 
   (.alloc 3 [(.int .i64 (.lit 0))] .loc 
   (.store (.var 7) [(.int .i64 (.var 6))] 
   (.load (.tt true) (.var 1) [.ptr] 
   (.load (.tt true) (.var 7) [.int .i64] 
   (.load (.tt true) (.var 1) [.ptr] 
   (.need (.tt true) [(.not (.nilp 10))] 
   (.load (.tt true) (.fld (.var 10) 0) [.int .i64] 
   (.call 46 [(.val 8), (.int .i64 (.var 9))] [] [] [] [(false, [.int .i64])] 
   (.still (.tt true) (.fld (.var 10) 0) [(.int .i64 (.var 11))] 
   (.still (.tt true) (.var 1) [(.val 10)] 
   (.ite (.cmp .lss (.var 12) (.var 11))
    (.load (.tt true) (.var 1) [.ptr] 
    (.load (.tt true) (.var 1) [.ptr] 
    (.need (.tt true) [(.not (.nilp 14))] 
    (.load (.tt true) (.fld (.var 14) 3) [.sl] 
    (.call 55 [(.val 15), (.fn (.func 56) [] [(.ptr (.var 1)), (.ptr (.var 7))])] [] [] [] [(false, [.sl])] 
    (.still (.tt true) (.var 1) [(.val 14)] 
    (.still (.tt true) (.var 1) [(.val 13)] 
    (.need (.tt true) [(.not (.nilp 13))] 
    (.store (.fld (.var 13) 3) [(.val 16)] 
    (.done (.bool (.tt true)) []))))))))))
    (.again 0 [(.int .i64 (.op .add .i64 (.var 5) (.lit 1)))]))))))))))))))
   (.done (.bool (.tt false)) []))))))))
def l35 : List (Nat × List Nat × List (Nat × Nat) × List Nat) := [(2, [11], [], [12, 13, 14, 4, 15, 16, 17, 18, 19, 20, 21, 22, 23, 24, 25, 26, 27, 28, 29, 30, 31, 2, 32])]
theorem e35 : ev Tryd.prog ⟨allF, [1, 4], l35⟩ (bodyOf Tryd.f35) 0 (initSt [(.ptr (.var 0))] [] Tryd.f35.ntmps [.ptr]) (finK Tryd.prog Tryd.f35.results []) = t35 := by kernel_rfl
theorem c35 {G : List Value} {h : H} {R : Value → List (List Value) → H → Prop} (hG : FitsL [.ptr] G) (H : holds Tryd.prog R t35 G [] h) : CallsA Tryd.prog 35 (fun e => SV.denL G (fun k => e (k - 1000000)) [(.ptr (.var 0))]) ([].map (SV.denL G dE)) h R :=
  CallsA.of_ev (cf := ⟨allF, [1, 4], l35⟩) (fn := Tryd.f35) (c := bodyOf Tryd.f35) (pcs := []) Tryd.func35 (by rfl) callOK (by rfl) hG (by rfl) (by rw [show ([] : List (List SV)).map List.length = [] from rfl, e35]; exact H)
/-- What is left of (*outworker/colour.work).spill. -/
def t36 : Out :=
 (.alloc 63 [(.ptr (.var 0))] .loc 
 (.alloc 3 [(.int .i64 (.lit 0))] .loc 
 (.store (.var 2) [(.int .i64 (.lit (-1)))] 
 (.load (.tt true) (.var 1) [.ptr] 
 (.need (.tt true) [(.not (.nilp 3))] 
 (.load (.tt true) (.fld (.var 3) 5) [.sl] 
 (.call 45 [(.agg [(.val 4)])] [] [] [] [(false, [.sl])] 
 (.loop 0 [(.int .i64 (.lit 0))] [.int .i64] 
  (.ite (.cmp .lss (.var 6) (.len 5))
   (.need (.tt true) [(.cmp .geq (.var 6) (.lit 0)), (.cmp .lss (.var 6) (.len 5))] 
   (.load (.tt true) (.idx (.var 5) (.var 6) 1) [.int .i64] 
   (.load (.tt true) (.var 2) [.int .i64] 
   (.load (.not (.cmp .lss (.var 8) (.lit 0))) (.var 1) [.ptr] 
   (.need (.not (.cmp .lss (.var 8) (.lit 0))) [(.not (.nilp 9))] 
   (.load (.not (.cmp .lss (.var 8) (.lit 0))) (.fld (.var 9) 1) [.sl] 
   (.load (.not (.cmp .lss (.var 8) (.lit 0))) (.var 2) [.int .i64] 
   (.need (.not (.cmp .lss (.var 8) (.lit 0))) [(.cmp .geq (.var 11) (.lit 0)), (.cmp .lss (.var 11) (.len 10))] 
   (.load (.not (.cmp .lss (.var 8) (.lit 0))) (.idx (.var 10) (.var 11) 1) [.bool] 
   (.load (.and (.not (.cmp .lss (.var 8) (.lit 0))) (.var 12)) (.var 1) [.ptr] 
   (.need (.and (.not (.cmp .lss (.var 8) (.lit 0))) (.var 12)) [(.not (.nilp 13))] 
   (.load (.and (.not (.cmp .lss (.var 8) (.lit 0))) (.var 12)) (.fld (.var 13) 1) [.sl] 
   (.need (.and (.not (.cmp .lss (.var 8) (.lit 0))) (.var 12)) [(.cmp .geq (.var 7) (.lit 0)), (.cmp .lss (.var 7) (.len 14))] 
   (.load (.and (.not (.cmp .lss (.var 8) (.lit 0))) (.var 12)) (.idx (.var 14) (.var 7) 1) [.bool] 
   (.load (.not (.ite (.cmp .lss (.var 8) (.lit 0)) (.tt true) (.ite (.var 12) (.not (.var 15)) (.tt false)))) (.var 1) [.ptr] 
   (.need (.not (.ite (.cmp .lss (.var 8) (.lit 0)) (.tt true) (.ite (.var 12) (.not (.var 15)) (.tt false)))) [(.not (.nilp 16))] 
   (.load (.not (.ite (.cmp .lss (.var 8) (.lit 0)) (.tt true) (.ite (.var 12) (.not (.var 15)) (.tt false)))) (.fld (.var 16) 1) [.sl] 
   (.load (.not (.ite (.cmp .lss (.var 8) (.lit 0)) (.tt true) (.ite (.var 12) (.not (.var 15)) (.tt false)))) (.var 2) [.int .i64] 
   (.need (.not (.ite (.cmp .lss (.var 8) (.lit 0)) (.tt true) (.ite (.var 12) (.not (.var 15)) (.tt false)))) [(.cmp .geq (.var 18) (.lit 0)), (.cmp .lss (.var 18) (.len 17))] 
   (.load (.not (.ite (.cmp .lss (.var 8) (.lit 0)) (.tt true) (.ite (.var 12) (.not (.var 15)) (.tt false)))) (.idx (.var 17) (.var 18) 1) [.bool] 
   (.load (.not (.ite (.cmp .lss (.var 8) (.lit 0)) (.tt true) (.ite (.var 12) (.not (.var 15)) (.tt false)))) (.var 1) [.ptr] 
   (.need (.not (.ite (.cmp .lss (.var 8) (.lit 0)) (.tt true) (.ite (.var 12) (.not (.var 15)) (.tt false)))) [(.not (.nilp 20))] 
   (.load (.not (.ite (.cmp .lss (.var 8) (.lit 0)) (.tt true) (.ite (.var 12) (.not (.var 15)) (.tt false)))) (.fld (.var 20) 1) [.sl] 
   (.need (.not (.ite (.cmp .lss (.var 8) (.lit 0)) (.tt true) (.ite (.var 12) (.not (.var 15)) (.tt false)))) [(.cmp .geq (.var 7) (.lit 0)), (.cmp .lss (.var 7) (.len 21))] 
   (.load (.not (.ite (.cmp .lss (.var 8) (.lit 0)) (.tt true) (.ite (.var 12) (.not (.var 15)) (.tt false)))) (.idx (.var 21) (.var 7) 1) [.bool] 
   (.load (.and (.not (.ite (.cmp .lss (.var 8) (.lit 0)) (.tt true) (.ite (.var 12) (.not (.var 15)) (.tt false)))) (.ite (.var 19) (.var 22) (.not (.var 22)))) (.var 1) [.ptr] 
   (.load (.and (.not (.ite (.cmp .lss (.var 8) (.lit 0)) (.tt true) (.ite (.var 12) (.not (.var 15)) (.tt false)))) (.ite (.var 19) (.var 22) (.not (.var 22)))) (.var 1) [.ptr] 
   (.load (.and (.not (.ite (.cmp .lss (.var 8) (.lit 0)) (.tt true) (.ite (.var 12) (.not (.var 15)) (.tt false)))) (.ite (.var 19) (.var 22) (.not (.var 22)))) (.var 2) [.int .i64] 
   (.ite (.not (.ite (.cmp .lss (.var 8) (.lit 0)) (.tt true) (.ite (.var 12) (.not (.var 15)) (.tt false))))
    (.ite (.ite (.var 19) (.var 22) (.not (.var 22)))
     (.call 46 [(.val 23), (.int .i64 (.var 7))] [] [] [] [(false, [.int .i64])] 
     (.still (.and (.not (.ite (.cmp .lss (.var 8) (.lit 0)) (.tt true) (.ite (.var 12) (.not (.var 15)) (.tt false)))) (.ite (.var 19) (.var 22) (.not (.var 22)))) (.var 2) [(.int .i64 (.var 25))] 
     (.still (.and (.not (.ite (.cmp .lss (.var 8) (.lit 0)) (.tt true) (.ite (.var 12) (.not (.var 15)) (.tt false)))) (.ite (.var 19) (.var 22) (.not (.var 22)))) (.var 1) [(.val 24)] 
     (.still (.not (.ite (.cmp .lss (.var 8) (.lit 0)) (.tt true) (.ite (.var 12) (.not (.var 15)) (.tt false)))) (.idx (.var 21) (.var 7) 1) [(.bool (.var 22))] 
     (.still (.not (.ite (.cmp .lss (.var 8) (.lit 0)) (.tt true) (.ite (.var 12) (.not (.var 15)) (.tt false)))) (.fld (.var 20) 1) [(.val 21)] 
     (.still (.not (.ite (.cmp .lss (.var 8) (.lit 0)) (.tt true) (.ite (.var 12) (.not (.var 15)) (.tt false)))) (.var 1) [(.val 20)] 
     (.still (.not (.ite (.cmp .lss (.var 8) (.lit 0)) (.tt true) (.ite (.var 12) (.not (.var 15)) (.tt false)))) (.idx (.var 17) (.var 18) 1) [(.bool (.var 19))] 
     (.still (.not (.ite (.cmp .lss (.var 8) (.lit 0)) (.tt true) (.ite (.var 12) (.not (.var 15)) (.tt false)))) (.var 2) [(.int .i64 (.var 18))] 
     (.still (.not (.ite (.cmp .lss (.var 8) (.lit 0)) (.tt true) (.ite (.var 12) (.not (.var 15)) (.tt false)))) (.fld (.var 16) 1) [(.val 17)] 
     (.still (.not (.ite (.cmp .lss (.var 8) (.lit 0)) (.tt true) (.ite (.var 12) (.not (.var 15)) (.tt false)))) (.var 1) [(.val 16)] 
     (.still (.and (.not (.cmp .lss (.var 8) (.lit 0))) (.var 12)) (.idx (.var 14) (.var 7) 1) [(.bool (.var 15))] 
     (.still (.and (.not (.cmp .lss (.var 8) (.lit 0))) (.var 12)) (.fld (.var 13) 1) [(.val 14)] 
     (.still (.and (.not (.cmp .lss (.var 8) (.lit 0))) (.var 12)) (.var 1) [(.val 13)] 
     (.still (.not (.cmp .lss (.var 8) (.lit 0))) (.idx (.var 10) (.var 11) 1) [(.bool (.var 12))] 
     (.still (.not (.cmp .lss (.var 8) (.lit 0))) (.var 2) [(.int .i64 (.var 11))] 
     (.still (.not (.cmp .lss (.var 8) (.lit 0))) (.fld (.var 9) 1) [(.val 10)] 
     (.still (.not (.cmp .lss (.var 8) (.lit 0))) (.var 1) [(.val 9)] 
     (.still (.tt true) (.var 2) [(.int .i64 (.var 8))] 
     (.call 46 [(.val 24), (.int .i64 (.var 25))] [] [] [] [(false, [.int .i64])] 
     (.still (.not (.ite (.cmp .lss (.var 8) (.lit 0)) (.tt true) (.ite (.var 12) (.not (.var 15)) (.tt false)))) (.idx (.var 21) (.var 7) 1) [(.bool (.var 22))] 
     (.still (.not (.ite (.cmp .lss (.var 8) (.lit 0)) (.tt true) (.ite (.var 12) (.not (.var 15)) (.tt false)))) (.fld (.var 20) 1) [(.val 21)] 
     (.still (.not (.ite (.cmp .lss (.var 8) (.lit 0)) (.tt true) (.ite (.var 12) (.not (.var 15)) (.tt false)))) (.var 1) [(.val 20)] 
     (.still (.not (.ite (.cmp .lss (.var 8) (.lit 0)) (.tt true) (.ite (.var 12) (.not (.var 15)) (.tt false)))) (.idx (.var 17) (.var 18) 1) [(.bool (.var 19))] 
     (.still (.not (.ite (.cmp .lss (.var 8) (.lit 0)) (.tt true) (.ite (.var 12) (.not (.var 15)) (.tt false)))) (.var 2) [(.int .i64 (.var 18))] 
     (.still (.not (.ite (.cmp .lss (.var 8) (.lit 0)) (.tt true) (.ite (.var 12) (.not (.var 15)) (.tt false)))) (.fld (.var 16) 1) [(.val 17)] 
     (.still (.not (.ite (.cmp .lss (.var 8) (.lit 0)) (.tt true) (.ite (.var 12) (.not (.var 15)) (.tt false)))) (.var 1) [(.val 16)] 
     (.still (.and (.not (.cmp .lss (.var 8) (.lit 0))) (.var 12)) (.idx (.var 14) (.var 7) 1) [(.bool (.var 15))] 
     (.still (.and (.not (.cmp .lss (.var 8) (.lit 0))) (.var 12)) (.fld (.var 13) 1) [(.val 14)] 
     (.still (.and (.not (.cmp .lss (.var 8) (.lit 0))) (.var 12)) (.var 1) [(.val 13)] 
     (.still (.not (.cmp .lss (.var 8) (.lit 0))) (.idx (.var 10) (.var 11) 1) [(.bool (.var 12))] 
     (.still (.not (.cmp .lss (.var 8) (.lit 0))) (.var 2) [(.int .i64 (.var 11))] 
     (.still (.not (.cmp .lss (.var 8) (.lit 0))) (.fld (.var 9) 1) [(.val 10)] 
     (.still (.not (.cmp .lss (.var 8) (.lit 0))) (.var 1) [(.val 9)] 
     (.still (.tt true) (.var 2) [(.int .i64 (.var 8))] 
     (.ite (.cmp .gtr (.var 26) (.var 27))
      (.store (.var 2) [(.int .i64 (.var 7))] 
      (.again 0 [(.int .i64 (.op .add .i64 (.var 6) (.lit 1)))]))
      (.again 0 [(.int .i64 (.op .add .i64 (.var 6) (.lit 1)))]))))))))))))))))))))))))))))))))))))
     (.still (.not (.ite (.cmp .lss (.var 8) (.lit 0)) (.tt true) (.ite (.var 12) (.not (.var 15)) (.tt false)))) (.idx (.var 21) (.var 7) 1) [(.bool (.var 22))] 
     (.still (.not (.ite (.cmp .lss (.var 8) (.lit 0)) (.tt true) (.ite (.var 12) (.not (.var 15)) (.tt false)))) (.fld (.var 20) 1) [(.val 21)] 
     (.still (.not (.ite (.cmp .lss (.var 8) (.lit 0)) (.tt true) (.ite (.var 12) (.not (.var 15)) (.tt false)))) (.var 1) [(.val 20)] 
     (.still (.not (.ite (.cmp .lss (.var 8) (.lit 0)) (.tt true) (.ite (.var 12) (.not (.var 15)) (.tt false)))) (.idx (.var 17) (.var 18) 1) [(.bool (.var 19))] 
     (.still (.not (.ite (.cmp .lss (.var 8) (.lit 0)) (.tt true) (.ite (.var 12) (.not (.var 15)) (.tt false)))) (.var 2) [(.int .i64 (.var 18))] 
     (.still (.not (.ite (.cmp .lss (.var 8) (.lit 0)) (.tt true) (.ite (.var 12) (.not (.var 15)) (.tt false)))) (.fld (.var 16) 1) [(.val 17)] 
     (.still (.not (.ite (.cmp .lss (.var 8) (.lit 0)) (.tt true) (.ite (.var 12) (.not (.var 15)) (.tt false)))) (.var 1) [(.val 16)] 
     (.still (.and (.not (.cmp .lss (.var 8) (.lit 0))) (.var 12)) (.idx (.var 14) (.var 7) 1) [(.bool (.var 15))] 
     (.still (.and (.not (.cmp .lss (.var 8) (.lit 0))) (.var 12)) (.fld (.var 13) 1) [(.val 14)] 
     (.still (.and (.not (.cmp .lss (.var 8) (.lit 0))) (.var 12)) (.var 1) [(.val 13)] 
     (.still (.not (.cmp .lss (.var 8) (.lit 0))) (.idx (.var 10) (.var 11) 1) [(.bool (.var 12))] 
     (.still (.not (.cmp .lss (.var 8) (.lit 0))) (.var 2) [(.int .i64 (.var 11))] 
     (.still (.not (.cmp .lss (.var 8) (.lit 0))) (.fld (.var 9) 1) [(.val 10)] 
     (.still (.not (.cmp .lss (.var 8) (.lit 0))) (.var 1) [(.val 9)] 
     (.still (.tt true) (.var 2) [(.int .i64 (.var 8))] 
     (.still (.not (.ite (.cmp .lss (.var 8) (.lit 0)) (.tt true) (.ite (.var 12) (.not (.var 15)) (.tt false)))) (.idx (.var 21) (.var 7) 1) [(.bool (.var 22))] 
     (.still (.not (.ite (.cmp .lss (.var 8) (.lit 0)) (.tt true) (.ite (.var 12) (.not (.var 15)) (.tt false)))) (.fld (.var 20) 1) [(.val 21)] 
     (.still (.not (.ite (.cmp .lss (.var 8) (.lit 0)) (.tt true) (.ite (.var 12) (.not (.var 15)) (.tt false)))) (.var 1) [(.val 20)] 
     (.still (.not (.ite (.cmp .lss (.var 8) (.lit 0)) (.tt true) (.ite (.var 12) (.not (.var 15)) (.tt false)))) (.idx (.var 17) (.var 18) 1) [(.bool (.var 19))] 
     (.still (.not (.ite (.cmp .lss (.var 8) (.lit 0)) (.tt true) (.ite (.var 12) (.not (.var 15)) (.tt false)))) (.var 2) [(.int .i64 (.var 18))] 
     (.still (.not (.ite (.cmp .lss (.var 8) (.lit 0)) (.tt true) (.ite (.var 12) (.not (.var 15)) (.tt false)))) (.fld (.var 16) 1) [(.val 17)] 
     (.still (.not (.ite (.cmp .lss (.var 8) (.lit 0)) (.tt true) (.ite (.var 12) (.not (.var 15)) (.tt false)))) (.var 1) [(.val 16)] 
     (.still (.and (.not (.cmp .lss (.var 8) (.lit 0))) (.var 12)) (.idx (.var 14) (.var 7) 1) [(.bool (.var 15))] 
     (.still (.and (.not (.cmp .lss (.var 8) (.lit 0))) (.var 12)) (.fld (.var 13) 1) [(.val 14)] 
     (.still (.and (.not (.cmp .lss (.var 8) (.lit 0))) (.var 12)) (.var 1) [(.val 13)] 
     (.still (.not (.cmp .lss (.var 8) (.lit 0))) (.idx (.var 10) (.var 11) 1) [(.bool (.var 12))] 
     (.still (.not (.cmp .lss (.var 8) (.lit 0))) (.var 2) [(.int .i64 (.var 11))] 
     (.still (.not (.cmp .lss (.var 8) (.lit 0))) (.fld (.var 9) 1) [(.val 10)] 
     (.still (.not (.cmp .lss (.var 8) (.lit 0))) (.var 1) [(.val 9)] 
     (.still (.tt true) (.var 2) [(.int .i64 (.var 8))] 
     (.again 0 [(.int .i64 (.op .add .i64 (.var 6) (.lit 1)))]))))))))))))))))))))))))))))))))
    (.still (.and (.not (.cmp .lss (.var 8) (.lit 0))) (.var 12)) (.idx (.var 14) (.var 7) 1) [(.bool (.var 15))] 
    (.still (.and (.not (.cmp .lss (.var 8) (.lit 0))) (.var 12)) (.fld (.var 13) 1) [(.val 14)] 
    (.still (.and (.not (.cmp .lss (.var 8) (.lit 0))) (.var 12)) (.var 1) [(.val 13)] 
    (.still (.not (.cmp .lss (.var 8) (.lit 0))) (.idx (.var 10) (.var 11) 1) [(.bool (.var 12))] 
    (.still (.not (.cmp .lss (.var 8) (.lit 0))) (.var 2) [(.int .i64 (.var 11))] 
    (.still (.not (.cmp .lss (.var 8) (.lit 0))) (.fld (.var 9) 1) [(.val 10)] 
    (.still (.not (.cmp .lss (.var 8) (.lit 0))) (.var 1) [(.val 9)] 
    (.still (.tt true) (.var 2) [(.int .i64 (.var 8))] 
    (.still (.and (.not (.cmp .lss (.var 8) (.lit 0))) (.var 12)) (.idx (.var 14) (.var 7) 1) [(.bool (.var 15))] 
    (.still (.and (.not (.cmp .lss (.var 8) (.lit 0))) (.var 12)) (.fld (.var 13) 1) [(.val 14)] 
    (.still (.and (.not (.cmp .lss (.var 8) (.lit 0))) (.var 12)) (.var 1) [(.val 13)] 
    (.still (.not (.cmp .lss (.var 8) (.lit 0))) (.idx (.var 10) (.var 11) 1) [(.bool (.var 12))] 
    (.still (.not (.cmp .lss (.var 8) (.lit 0))) (.var 2) [(.int .i64 (.var 11))] 
    (.still (.not (.cmp .lss (.var 8) (.lit 0))) (.fld (.var 9) 1) [(.val 10)] 
    (.still (.not (.cmp .lss (.var 8) (.lit 0))) (.var 1) [(.val 9)] 
    (.still (.tt true) (.var 2) [(.int .i64 (.var 8))] 
    (.store (.var 2) [(.int .i64 (.var 7))] 
    (.again 0 [(.int .i64 (.op .add .i64 (.var 6) (.lit 1)))])))))))))))))))))))))))))))))))))))))))))))))))
   (.load (.tt true) (.var 2) [.int .i64] 
   (.ite (.cmp .lss (.var 7) (.lit 0))
    (.done (.bool (.tt false)) [])
    (.load (.tt true) (.var 1) [.ptr] 
    (.load (.tt true) (.var 1) [.ptr] 
    (.need (.tt true) [(.not (.nilp 9))] 
    (.load (.tt true) (.fld (.var 9) 3) [.sl] 
    (.call 55 [(.val 10), (.fn (.func 57) [] [(.ptr (.var 1)), (.ptr (.var 2))])] [] [] [] [(false, [.sl])] 
    (.still (.tt true) (.var 1) [(.val 9)] 
    (.still (.tt true) (.var 1) [(.val 8)] 
    (.need (.tt true) [(.not (.nilp 8))] 
    (.store (.fld (.var 8) 3) [(.val 11)] 
    (.load (.tt true) (.var 1) [.ptr] 
    (.load (.tt true) (.var 2) [.int .i64] 
    (.call 48 [(.val 12), (.int .i64 (.var 13))] [] [] [] [] 
    (.done (.bool (.tt true)) []))))))))))))))))))))))))
def l36 : List (Nat × List Nat × List (Nat × Nat) × List Nat) := [(3, [12], [], [13, 14, 15, 5, 16, 17, 18, 19, 20, 21, 22, 23, 24, 25, 26, 27, 28, 29, 30, 31, 32, 33, 34, 35, 36, 37, 38, 39, 40, 41, 42, 43, 44, 45, 46, 47, 48, 49, 50, 51, 52, 53, 54, 55, 56, 57, 58, 59, 60, 61, 62, 63, 64])]
theorem e36 : ev Tryd.prog ⟨allF, [1, 3, 1000003], l36⟩ (bodyOf Tryd.f36) 0 (initSt [(.ptr (.var 0))] [] Tryd.f36.ntmps [.ptr]) (finK Tryd.prog Tryd.f36.results []) = t36 := by kernel_rfl
theorem c36 {G : List Value} {h : H} {R : Value → List (List Value) → H → Prop} (hG : FitsL [.ptr] G) (H : holds Tryd.prog R t36 G [] h) : CallsA Tryd.prog 36 (fun e => SV.denL G (fun k => e (k - 1000000)) [(.ptr (.var 0))]) ([].map (SV.denL G dE)) h R :=
  CallsA.of_ev (cf := ⟨allF, [1, 3, 1000003], l36⟩) (fn := Tryd.f36) (c := bodyOf Tryd.f36) (pcs := []) Tryd.func36 (by rfl) callOK (by rfl) hG (by rfl) (by rw [show ([] : List (List SV)).map List.length = [] from rfl, e36]; exact H)
/-- What is left of (*outworker/colour.work).pick. -/
def t37 : Out :=
 (.load (.tt true) (.fld (.var 0) 4) [.sl] 
 (.mk 3 1 8 (.len 1) 
 (.loop 0 [(.int .i64 (.lit 0))] [.int .i64] 
  (.ite (.cmp .lss (.var 3) (.len 2))
   (.need (.tt true) [(.cmp .geq (.var 3) (.lit 0)), (.cmp .lss (.var 3) (.len 2))] 
   (.store (.idx (.var 2) (.var 3) 1) [(.int .i64 (.lit (-1)))] 
   (.again 0 [(.int .i64 (.op .add .i64 (.var 3) (.lit 1)))])))
   (.load (.tt true) (.fld (.var 0) 6) [.sl] 
   (.loop 0 [(.int .i64 (.op .sub .i64 (.len 4) (.lit 1)))] [.int .i64] 
    (.ite (.cmp .geq (.var 5) (.lit 0))
     (.load (.tt true) (.fld (.var 0) 6) [.sl] 
     (.need (.tt true) [(.cmp .geq (.var 5) (.lit 0)), (.cmp .lss (.var 5) (.len 6))] 
     (.load (.tt true) (.idx (.var 6) (.var 5) 1) [.int .i64] 
     (.load (.tt true) (.fld (.var 0) 0) [.int .i64] 
     (.loop 1 [(.int .i64 (.lit 0))] [.int .i64] 
      (.ite (.cmp .lss (.var 9) (.var 8))
       (.load (.tt true) (.fld (.var 0) 2) [.sl] 
       (.need (.tt true) [(.cmp .geq (.var 7) (.lit 0)), (.cmp .lss (.var 7) (.len 10))] 
       (.load (.tt true) (.idx (.var 10) (.var 7) 1) [.sl] 
       (.call 45 [(.agg [(.val 11)])] [] [] [] [(false, [.sl])] 
       (.loop 2 [(.int .i64 (.lit 0))] [.int .i64] 
        (.ite (.cmp .lss (.var 13) (.len 12))
         (.need (.tt true) [(.cmp .geq (.var 13) (.lit 0)), (.cmp .lss (.var 13) (.len 12))] 
         (.load (.tt true) (.idx (.var 12) (.var 13) 1) [.int .i64] 
         (.call 49 [(.ptr (.var 0)), (.int .i64 (.var 14))] [] [] [] [(false, [.int .i64])] 
         (.need (.tt true) [(.cmp .geq (.var 15) (.lit 0)), (.cmp .lss (.var 15) (.len 2))] 
         (.load (.tt true) (.idx (.var 2) (.var 15) 1) [.int .i64] 
         (.ite (.cmp .eql (.var 16) (.var 9))
          (.again 1 [(.int .i64 (.op .add .i64 (.var 9) (.lit 1)))])
          (.again 2 [(.int .i64 (.op .add .i64 (.var 13) (.lit 1)))])))))))
         (.need (.tt true) [(.cmp .geq (.var 7) (.lit 0)), (.cmp .lss (.var 7) (.len 2))] 
         (.store (.idx (.var 2) (.var 7) 1) [(.int .i64 (.var 9))] 
         (.again 0 [(.int .i64 (.op .sub .i64 (.var 5) (.lit 1)))])))))))))
       (.again 0 [(.int .i64 (.op .sub .i64 (.var 5) (.lit 1)))])))))))
     (.mk 3 1 8 (.len 2) 
     (.loop 0 [(.int .i64 (.lit 0))] [.int .i64] 
      (.ite (.cmp .lss (.var 7) (.len 6))
       (.call 49 [(.ptr (.var 0)), (.int .i64 (.var 7))] [] [] [] [(false, [.int .i64])] 
       (.need (.tt true) [(.cmp .geq (.var 8) (.lit 0)), (.cmp .lss (.var 8) (.len 2))] 
       (.load (.tt true) (.idx (.var 2) (.var 8) 1) [.int .i64] 
       (.need (.tt true) [(.cmp .geq (.var 7) (.lit 0)), (.cmp .lss (.var 7) (.len 6))] 
       (.store (.idx (.var 6) (.var 7) 1) [(.int .i64 (.var 9))] 
       (.again 0 [(.int .i64 (.op .add .i64 (.var 7) (.lit 1)))]))))))
       (.done (.val 6) [])))))))))))
def l37 : List (Nat × List Nat × List (Nat × Nat) × List Nat) := [(3, [20], [], [21, 22, 4, 23, 24, 25, 26]), (8, [5], [], [33, 34, 37, 38, 39, 40, 41, 42, 43, 6, 44, 45, 46, 47, 48, 49, 50, 7, 51, 52, 53, 54, 55, 56, 57, 58, 59, 60, 61, 62, 63, 9, 64, 65, 66, 67, 68, 69, 70, 71, 72, 73, 74, 75, 76, 77, 35, 36]), (12, [48], [], [49, 50, 7, 51, 52, 53, 54, 55, 56, 57, 58, 59, 60, 61, 62, 63, 9, 64, 65, 66, 67, 68, 69, 70, 71, 72, 73, 74, 75, 76, 77]), (15, [60], [], [61, 62, 63, 9, 64, 65, 66, 67, 68, 69, 70, 71, 72]), (23, [83], [], [84, 85, 11, 86, 87, 88, 89, 90, 91, 92, 93, 94, 95])]
theorem e37 : ev Tryd.prog ⟨allF, [], l37⟩ (bodyOf Tryd.f37) 0 (initSt [(.ptr (.var 0))] [] Tryd.f37.ntmps [.ptr]) (finK Tryd.prog Tryd.f37.results []) = t37 := by kernel_rfl
theorem c37 {G : List Value} {h : H} {R : Value → List (List Value) → H → Prop} (hG : FitsL [.ptr] G) (H : holds Tryd.prog R t37 G [] h) : CallsA Tryd.prog 37 (fun e => SV.denL G (fun k => e (k - 1000000)) [(.ptr (.var 0))]) ([].map (SV.denL G dE)) h R :=
  CallsA.of_ev (cf := ⟨allF, [], l37⟩) (fn := Tryd.f37) (c := bodyOf Tryd.f37) (pcs := []) Tryd.func37 (by rfl) callOK (by rfl) hG (by rfl) (by rw [show ([] : List (List SV)).map List.length = [] from rfl, e37]; exact H)
/-- What is left of (*outworker/colour.work).degree. -/
def t46 : Out :=
 (.load (.tt true) (.fld (.var 0) 2) [.sl] 
 (.need (.tt true) [(.cmp .geq (.var 1) (.lit 0)), (.cmp .lss (.var 1) (.len 2))] 
 (.load (.tt true) (.idx (.var 2) (.var 1) 1) [.sl] 
 (.call 51 [(.agg [(.val 3)])] [] [] [] [(true, [.sl])] 
 (.load (.tt true) (.fld (.var 0) 5) [.sl] 
 (.call 53 [(.loc 5 0), (.agg [(.val 5)])] [5] [[(.val 4)]] [[.sl]] [] 
 (.call 61 [(.agg [(.val 6)])] [] [] [] [(false, [.int .i64])] 
 (.done (.int .i64 (.var 7)) []))))))))
def l46 : List (Nat × List Nat × List (Nat × Nat) × List Nat) := []
theorem e46 : ev Tryd.prog ⟨allF, [], l46⟩ (bodyOf Tryd.f46) 0 (initSt [(.ptr (.var 0)), (.int .i64 (.var 1))] [] Tryd.f46.ntmps [.ptr, .int .i64]) (finK Tryd.prog Tryd.f46.results []) = t46 := by kernel_rfl
theorem c46 {G : List Value} {h : H} {R : Value → List (List Value) → H → Prop} (hG : FitsL [.ptr, .int .i64] G) (H : holds Tryd.prog R t46 G [] h) : CallsA Tryd.prog 46 (fun e => SV.denL G (fun k => e (k - 1000000)) [(.ptr (.var 0)), (.int .i64 (.var 1))]) ([].map (SV.denL G dE)) h R :=
  CallsA.of_ev (cf := ⟨allF, [], l46⟩) (fn := Tryd.f46) (c := bodyOf Tryd.f46) (pcs := []) Tryd.func46 (by rfl) callOK (by rfl) hG (by rfl) (by rw [show ([] : List (List SV)).map List.length = [] from rfl, e46]; exact H)
/-- What is left of (*outworker/colour.work).moving. -/
def t47 : Out :=
 (.alloc 63 [(.ptr (.var 0))] .loc 
 (.alloc 3 [(.int .i64 (.var 1))] .loc 
 (.load (.tt true) (.var 2) [.ptr] 
 (.need (.tt true) [(.not (.nilp 4))] 
 (.load (.tt true) (.fld (.var 4) 3) [.sl] 
 (.call 41 [(.val 5), (.fn (.func 62) [] [(.ptr (.var 2)), (.ptr (.var 3))])] [] [] [] [(false, [.bool])] 
 (.done (.bool (.var 6)) [])))))))
def l47 : List (Nat × List Nat × List (Nat × Nat) × List Nat) := []
theorem e47 : ev Tryd.prog ⟨allF, [2, 3], l47⟩ (bodyOf Tryd.f47) 0 (initSt [(.ptr (.var 0)), (.int .i64 (.var 1))] [] Tryd.f47.ntmps [.ptr, .int .i64]) (finK Tryd.prog Tryd.f47.results []) = t47 := by kernel_rfl
theorem c47 {G : List Value} {h : H} {R : Value → List (List Value) → H → Prop} (hG : FitsL [.ptr, .int .i64] G) (H : holds Tryd.prog R t47 G [] h) : CallsA Tryd.prog 47 (fun e => SV.denL G (fun k => e (k - 1000000)) [(.ptr (.var 0)), (.int .i64 (.var 1))]) ([].map (SV.denL G dE)) h R :=
  CallsA.of_ev (cf := ⟨allF, [2, 3], l47⟩) (fn := Tryd.f47) (c := bodyOf Tryd.f47) (pcs := []) Tryd.func47 (by rfl) callOK (by rfl) hG (by rfl) (by rw [show ([] : List (List SV)).map List.length = [] from rfl, e47]; exact H)
/-- What is left of (*outworker/colour.work).push. -/
def t48 : Out :=
 (.call 54 [(.ptr (.fld (.var 0) 5)), (.int .i64 (.var 1))] [] [] [] [(false, [.bool])] 
 (.load (.tt true) (.fld (.var 0) 6) [.sl] 
 (.app 3 1 8 (.val 3) (.cells [(.int .i64 (.var 1))] 1) 
 (.store (.fld (.var 0) 6) [(.val 4)] 
 (.done (.tup []) [])))))
def l48 : List (Nat × List Nat × List (Nat × Nat) × List Nat) := []
theorem e48 : ev Tryd.prog ⟨allF, [], l48⟩ (bodyOf Tryd.f48) 0 (initSt [(.ptr (.var 0)), (.int .i64 (.var 1))] [] Tryd.f48.ntmps [.ptr, .int .i64]) (finK Tryd.prog Tryd.f48.results []) = t48 := by kernel_rfl
theorem c48 {G : List Value} {h : H} {R : Value → List (List Value) → H → Prop} (hG : FitsL [.ptr, .int .i64] G) (H : holds Tryd.prog R t48 G [] h) : CallsA Tryd.prog 48 (fun e => SV.denL G (fun k => e (k - 1000000)) [(.ptr (.var 0)), (.int .i64 (.var 1))]) ([].map (SV.denL G dE)) h R :=
  CallsA.of_ev (cf := ⟨allF, [], l48⟩) (fn := Tryd.f48) (c := bodyOf Tryd.f48) (pcs := []) Tryd.func48 (by rfl) callOK (by rfl) hG (by rfl) (by rw [show ([] : List (List SV)).map List.length = [] from rfl, e48]; exact H)
/-- What is left of (*outworker/colour.work).of. -/
def t49 : Out :=
 (.loop 0 [(.int .i64 (.var 1))] [.int .i64] 
  (.load (.tt true) (.fld (.var 0) 4) [.sl] 
  (.need (.tt true) [(.cmp .geq (.var 2) (.lit 0)), (.cmp .lss (.var 2) (.len 3))] 
  (.load (.tt true) (.idx (.var 3) (.var 2) 1) [.int .i64] 
  (.ite (.cmp .neq (.var 4) (.var 2))
   (.load (.tt true) (.fld (.var 0) 4) [.sl] 
   (.need (.tt true) [(.cmp .geq (.var 2) (.lit 0)), (.cmp .lss (.var 2) (.len 5))] 
   (.load (.tt true) (.idx (.var 5) (.var 2) 1) [.int .i64] 
   (.again 0 [(.int .i64 (.var 6))]))))
   (.done (.int .i64 (.var 2)) []))))))
def l49 : List (Nat × List Nat × List (Nat × Nat) × List Nat) := [(1, [1], [], [5, 6, 7, 8, 9, 10, 11, 12, 13, 14, 15, 16, 17, 18, 19, 20])]
theorem e49 : ev Tryd.prog ⟨allF, [], l49⟩ (bodyOf Tryd.f49) 0 (initSt [(.ptr (.var 0)), (.int .i64 (.var 1))] [] Tryd.f49.ntmps [.ptr, .int .i64]) (finK Tryd.prog Tryd.f49.results []) = t49 := by kernel_rfl
theorem c49 {G : List Value} {h : H} {R : Value → List (List Value) → H → Prop} (hG : FitsL [.ptr, .int .i64] G) (H : holds Tryd.prog R t49 G [] h) : CallsA Tryd.prog 49 (fun e => SV.denL G (fun k => e (k - 1000000)) [(.ptr (.var 0)), (.int .i64 (.var 1))]) ([].map (SV.denL G dE)) h R :=
  CallsA.of_ev (cf := ⟨allF, [], l49⟩) (fn := Tryd.f49) (c := bodyOf Tryd.f49) (pcs := []) Tryd.func49 (by rfl) callOK (by rfl) hG (by rfl) (by rw [show ([] : List (List SV)).map List.length = [] from rfl, e49]; exact H)
/-- What is left of slices.Delete[[]outworker/api.Edge,outworker/api.Edge]. -/
def t50 : Out :=
 (.need (.tt true) [(.cmp .geq (.len 0) (.lit 0)), (.cmp .leq (.len 0) (.cap 0)), (.cmp .geq (.var 2) (.lit 0)), (.cmp .leq (.var 2) (.len 0)), (.cmp .geq (.var 1) (.lit 0)), (.cmp .leq (.var 1) (.var 2))] 
 (.bnd (.slice4 (.val 0) (.var 1) (.var 2) (.len 0) 2) 
 (.ite (.cmp .eql (.var 1) (.var 2))
  (.done (.val 0) [])
  (.need (.tt true) [(.cmp .geq (.var 1) (.lit 0)), (.cmp .leq (.var 1) (.cap 0))] 
  (.bnd (.slice (.val 0) none (some (.var 1)) 2) 
  (.need (.tt true) [(.cmp .geq (.var 2) (.lit 0)), (.cmp .leq (.var 2) (.len 0))] 
  (.bnd (.slice (.val 0) (some (.var 2)) none 2) 
  (.app 41 2 16 (.val 4) (.sl (.val 5)) 
  (.need (.tt true) [(.cmp .geq (.len 0) (.lit 0)), (.cmp .leq (.len 0) (.cap 6)), (.cmp .geq (.len 6) (.lit 0)), (.cmp .leq (.len 6) (.len 0))] 
  (.bnd (.slice (.val 6) (some (.len 6)) (some (.len 0)) 2) 
  (.clr [(.int .i64 0), (.int .i64 0)] (.val 7) 
  (.done (.val 6) []))))))))))))
def l50 : List (Nat × List Nat × List (Nat × Nat) × List Nat) := []
theorem e50 : ev Tryd.prog ⟨allF, [], l50⟩ (bodyOf Tryd.f50) 0 (initSt [(.val 0), (.int .i64 (.var 1)), (.int .i64 (.var 2))] [] Tryd.f50.ntmps [.sl, .int .i64, .int .i64]) (finK Tryd.prog Tryd.f50.results []) = t50 := by kernel_rfl
theorem c50 {G : List Value} {h : H} {R : Value → List (List Value) → H → Prop} (hG : FitsL [.sl, .int .i64, .int .i64] G) (H : holds Tryd.prog R t50 G [] h) : CallsA Tryd.prog 50 (fun e => SV.denL G (fun k => e (k - 1000000)) [(.val 0), (.int .i64 (.var 1)), (.int .i64 (.var 2))]) ([].map (SV.denL G dE)) h R :=
  CallsA.of_ev (cf := ⟨allF, [], l50⟩) (fn := Tryd.f50) (c := bodyOf Tryd.f50) (pcs := []) Tryd.func50 (by rfl) callOK (by rfl) hG (by rfl) (by rw [show ([] : List (List SV)).map List.length = [] from rfl, e50]; exact H)
/-- What is left of slices.DeleteFunc[[]outworker/api.Edge,outworker/api.Edge]. -/
def t55 : Out :=
 (.call 59 [(.val 0), (.val 1)] [] [] [] [(false, [.int .i64])] 
 (.ite (.cmp .eql (.var 2) (.lit (-1)))
  (.done (.val 0) [])
  (.loop 0 [(.int .i64 (.var 2)), (.int .i64 (.op .add .i64 (.var 2) (.lit 1)))] [.int .i64, .int .i64] 
   (.ite (.cmp .lss (.var 4) (.len 0))
    (.need (.tt true) [(.cmp .geq (.var 4) (.lit 0)), (.cmp .lss (.var 4) (.len 0))] 
    (.load (.tt true) (.idx (.var 0) (.var 4) 2) [.int .i64, .int .i64] 
    (.callv (.val 1) [(.agg [(.int .i64 (.var 5)), (.int .i64 (.var 6))])] [(false, [.bool])] 
    (.ite (.not (.var 7))
     (.need (.tt true) [(.cmp .geq (.var 3) (.lit 0)), (.cmp .lss (.var 3) (.len 0))] 
     (.store (.idx (.var 0) (.var 3) 2) [(.int .i64 (.var 5)), (.int .i64 (.var 6))] 
     (.again 0 [(.int .i64 (.op .add .i64 (.var 3) (.lit 1))), (.int .i64 (.op .add .i64 (.var 4) (.lit 1)))])))
     (.again 0 [(.int .i64 (.var 3)), (.int .i64 (.op .add .i64 (.var 4) (.lit 1)))])))))
    (.need (.tt true) [(.cmp .geq (.var 3) (.lit 0)), (.cmp .leq (.var 3) (.len 0))] 
    (.bnd (.slice (.val 0) (some (.var 3)) none 2) 
    (.clr [(.int .i64 0), (.int .i64 0)] (.val 5) 
    (.need (.tt true) [(.cmp .geq (.var 3) (.lit 0)), (.cmp .leq (.var 3) (.cap 0))] 
    (.bnd (.slice (.val 0) none (some (.var 3)) 2) 
    (.done (.val 6) []))))))))))
def l55 : List (Nat × List Nat × List (Nat × Nat) × List Nat) := [(2000028, [], [(0, 1)], [0]), (5, [5, 6], [], [16, 17, 18, 19, 22, 23, 24, 25, 7, 26, 27, 28, 29, 30, 31, 32, 33, 34, 35, 20, 21])]
theorem e55 : ev Tryd.prog ⟨allF, [], l55⟩ (bodyOf Tryd.f55) 0 (initSt [(.val 0), (.val 1)] [] Tryd.f55.ntmps [.sl, .fn]) (finK Tryd.prog Tryd.f55.results []) = t55 := by kernel_rfl
theorem c55 {G : List Value} {h : H} {R : Value → List (List Value) → H → Prop} (hG : FitsL [.sl, .fn] G) (H : holds Tryd.prog R t55 G [] h) : CallsA Tryd.prog 55 (fun e => SV.denL G (fun k => e (k - 1000000)) [(.val 0), (.val 1)]) ([].map (SV.denL G dE)) h R :=
  CallsA.of_ev (cf := ⟨allF, [], l55⟩) (fn := Tryd.f55) (c := bodyOf Tryd.f55) (pcs := []) Tryd.func55 (by rfl) callOK (by rfl) hG (by rfl) (by rw [show ([] : List (List SV)).map List.length = [] from rfl, e55]; exact H)
/-- What is left of (*outworker/colour.work).freeze$1. -/
def t56 : Out :=
 (.load (.tt true) (.var 2) [.ptr] 
 (.load (.tt true) (.var 3) [.int .i64] 
 (.call 49 [(.val 4), (.int .i64 (.var 0))] [] [] [] [(false, [.int .i64])] 
 (.still (.tt true) (.var 3) [(.int .i64 (.var 5))] 
 (.load (.not (.cmp .eql (.var 6) (.var 5))) (.var 2) [.ptr] 
 (.load (.not (.cmp .eql (.var 6) (.var 5))) (.var 3) [.int .i64] 
 (.ite (.not (.cmp .eql (.var 6) (.var 5)))
  (.call 49 [(.val 7), (.int .i64 (.var 1))] [] [] [] [(false, [.int .i64])] 
  (.still (.not (.cmp .eql (.var 6) (.var 5))) (.var 3) [(.int .i64 (.var 8))] 
  (.still (.tt true) (.var 3) [(.int .i64 (.var 5))] 
  (.done (.bool (.cmp .eql (.var 9) (.var 8))) []))))
  (.still (.tt true) (.var 3) [(.int .i64 (.var 5))] 
  (.done (.bool (.tt true)) [])))))))))
def l56 : List (Nat × List Nat × List (Nat × Nat) × List Nat) := []
theorem e56 : ev Tryd.prog ⟨allF, [], l56⟩ (bodyOf Tryd.f56) 0 (initSt [(.agg [(.int .i64 (.var 0)), (.int .i64 (.var 1))]), (.ptr (.var 2)), (.ptr (.var 3))] [] Tryd.f56.ntmps [.int .i64, .int .i64, .ptr, .ptr]) (finK Tryd.prog Tryd.f56.results []) = t56 := by kernel_rfl
theorem c56 {G : List Value} {h : H} {R : Value → List (List Value) → H → Prop} (hG : FitsL [.int .i64, .int .i64, .ptr, .ptr] G) (H : holds Tryd.prog R t56 G [] h) : CallsA Tryd.prog 56 (fun e => SV.denL G (fun k => e (k - 1000000)) [(.agg [(.int .i64 (.var 0)), (.int .i64 (.var 1))]), (.ptr (.var 2)), (.ptr (.var 3))]) ([].map (SV.denL G dE)) h R :=
  CallsA.of_ev (cf := ⟨allF, [], l56⟩) (fn := Tryd.f56) (c := bodyOf Tryd.f56) (pcs := []) Tryd.func56 (by rfl) callOK (by rfl) hG (by rfl) (by rw [show ([] : List (List SV)).map List.length = [] from rfl, e56]; exact H)
/-- What is left of (*outworker/colour.work).spill$1. -/
def t57 : Out :=
 (.load (.tt true) (.var 2) [.ptr] 
 (.load (.tt true) (.var 3) [.int .i64] 
 (.call 49 [(.val 4), (.int .i64 (.var 0))] [] [] [] [(false, [.int .i64])] 
 (.still (.tt true) (.var 3) [(.int .i64 (.var 5))] 
 (.load (.not (.cmp .eql (.var 6) (.var 5))) (.var 2) [.ptr] 
 (.load (.not (.cmp .eql (.var 6) (.var 5))) (.var 3) [.int .i64] 
 (.ite (.not (.cmp .eql (.var 6) (.var 5)))
  (.call 49 [(.val 7), (.int .i64 (.var 1))] [] [] [] [(false, [.int .i64])] 
  (.still (.not (.cmp .eql (.var 6) (.var 5))) (.var 3) [(.int .i64 (.var 8))] 
  (.still (.tt true) (.var 3) [(.int .i64 (.var 5))] 
  (.done (.bool (.cmp .eql (.var 9) (.var 8))) []))))
  (.still (.tt true) (.var 3) [(.int .i64 (.var 5))] 
  (.done (.bool (.tt true)) [])))))))))
def l57 : List (Nat × List Nat × List (Nat × Nat) × List Nat) := []
theorem e57 : ev Tryd.prog ⟨allF, [], l57⟩ (bodyOf Tryd.f57) 0 (initSt [(.agg [(.int .i64 (.var 0)), (.int .i64 (.var 1))]), (.ptr (.var 2)), (.ptr (.var 3))] [] Tryd.f57.ntmps [.int .i64, .int .i64, .ptr, .ptr]) (finK Tryd.prog Tryd.f57.results []) = t57 := by kernel_rfl
theorem c57 {G : List Value} {h : H} {R : Value → List (List Value) → H → Prop} (hG : FitsL [.int .i64, .int .i64, .ptr, .ptr] G) (H : holds Tryd.prog R t57 G [] h) : CallsA Tryd.prog 57 (fun e => SV.denL G (fun k => e (k - 1000000)) [(.agg [(.int .i64 (.var 0)), (.int .i64 (.var 1))]), (.ptr (.var 2)), (.ptr (.var 3))]) ([].map (SV.denL G dE)) h R :=
  CallsA.of_ev (cf := ⟨allF, [], l57⟩) (fn := Tryd.f57) (c := bodyOf Tryd.f57) (pcs := []) Tryd.func57 (by rfl) callOK (by rfl) hG (by rfl) (by rw [show ([] : List (List SV)).map List.length = [] from rfl, e57]; exact H)
/-- What is left of (*outworker/colour.work).moving$1. -/
def t62 : Out :=
 (.load (.tt true) (.var 2) [.ptr] 
 (.load (.tt true) (.var 3) [.int .i64] 
 (.call 49 [(.val 4), (.int .i64 (.var 0))] [] [] [] [(false, [.int .i64])] 
 (.still (.tt true) (.var 3) [(.int .i64 (.var 5))] 
 (.load (.not (.cmp .eql (.var 6) (.var 5))) (.var 2) [.ptr] 
 (.load (.not (.cmp .eql (.var 6) (.var 5))) (.var 3) [.int .i64] 
 (.ite (.not (.cmp .eql (.var 6) (.var 5)))
  (.call 49 [(.val 7), (.int .i64 (.var 1))] [] [] [] [(false, [.int .i64])] 
  (.still (.not (.cmp .eql (.var 6) (.var 5))) (.var 3) [(.int .i64 (.var 8))] 
  (.still (.tt true) (.var 3) [(.int .i64 (.var 5))] 
  (.done (.bool (.cmp .eql (.var 9) (.var 8))) []))))
  (.still (.tt true) (.var 3) [(.int .i64 (.var 5))] 
  (.done (.bool (.tt true)) [])))))))))
def l62 : List (Nat × List Nat × List (Nat × Nat) × List Nat) := []
theorem e62 : ev Tryd.prog ⟨allF, [], l62⟩ (bodyOf Tryd.f62) 0 (initSt [(.agg [(.int .i64 (.var 0)), (.int .i64 (.var 1))]), (.ptr (.var 2)), (.ptr (.var 3))] [] Tryd.f62.ntmps [.int .i64, .int .i64, .ptr, .ptr]) (finK Tryd.prog Tryd.f62.results []) = t62 := by kernel_rfl
theorem c62 {G : List Value} {h : H} {R : Value → List (List Value) → H → Prop} (hG : FitsL [.int .i64, .int .i64, .ptr, .ptr] G) (H : holds Tryd.prog R t62 G [] h) : CallsA Tryd.prog 62 (fun e => SV.denL G (fun k => e (k - 1000000)) [(.agg [(.int .i64 (.var 0)), (.int .i64 (.var 1))]), (.ptr (.var 2)), (.ptr (.var 3))]) ([].map (SV.denL G dE)) h R :=
  CallsA.of_ev (cf := ⟨allF, [], l62⟩) (fn := Tryd.f62) (c := bodyOf Tryd.f62) (pcs := []) Tryd.func62 (by rfl) callOK (by rfl) hG (by rfl) (by rw [show ([] : List (List SV)).map List.length = [] from rfl, e62]; exact H)
end Go.Proofs.YtbgfabppmobpgaaDoor
