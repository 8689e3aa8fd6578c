/-
  What the evaluator leaves of the functions of this seat (trees, printed by a program of ours), and their contracts from it. Conditions: none.
-/
import Derived.Test.YtbbicdfipheaeaaDoorR1Tr
set_option linter.unusedVariables false
set_option linter.unusedSimpArgs false
namespace Go.Proofs.YtbbicdfipheaeaaDoor
open Go

/-- What is left of outworker/outworkerlaw12.Wide. -/
def t30 : Out :=
 (.loop 0 [(.int .i64 (.lit 0))] [.int .i64] 
  (.ite (.ite (.cmp .lss (.op .add .i64 (.var 4) (.lit 2)) (.len 3)) (.cmp .lss (.var 4) (.lit 30)) (.tt false))
   (.need (.tt true) [(.cmp .geq (.var 4) (.lit 0)), (.cmp .lss (.var 4) (.len 3))] 
   (.load (.tt true) (.idx (.var 3) (.var 4) 1) [.int .u8] 
   (.need (.tt true) [(.cmp .neq (.len 2) (.lit 0))] 
   (.need (.tt true) [(.cmp .geq (.op .rem .i64 (.conv .i64 (.var 5)) (.len 2)) (.lit 0)), (.cmp .lss (.op .rem .i64 (.conv .i64 (.var 5)) (.len 2)) (.len 2))] 
   (.need (.tt true) [(.cmp .geq (.op .add .i64 (.var 4) (.lit 1)) (.lit 0)), (.cmp .lss (.op .add .i64 (.var 4) (.lit 1)) (.len 3))] 
   (.load (.tt true) (.idx (.var 3) (.op .add .i64 (.var 4) (.lit 1)) 1) [.int .u8] 
   (.need (.tt true) [(.cmp .geq (.op .add .i64 (.var 4) (.lit 2)) (.lit 0)), (.cmp .lss (.op .add .i64 (.var 4) (.lit 2)) (.len 3))] 
   (.load (.tt true) (.idx (.var 3) (.op .add .i64 (.var 4) (.lit 2)) 1) [.int .u8] 
   (.need (.tt true) [(.cmp .neq (.var 1) (.lit 0))] 
   (.still (.tt true) (.idx (.var 3) (.op .add .i64 (.var 4) (.lit 2)) 1) [(.int .u8 (.var 7))] 
   (.still (.tt true) (.idx (.var 3) (.op .add .i64 (.var 4) (.lit 1)) 1) [(.int .u8 (.var 6))] 
   (.need (.tt true) [(.cmp .geq (.var 4) (.lit 0)), (.cmp .lss (.var 4) (.len 3))] 
   (.load (.tt true) (.idx (.var 3) (.var 4) 1) [.int .u8] 
   (.ite (.cmp .eql (.op .rem .u8 (.var 8) (.lit 2)) (.lit 1))
    (.need (.tt true) [(.cmp .geq (.op .add .i64 (.var 4) (.lit 1)) (.lit 0)), (.cmp .lss (.op .add .i64 (.var 4) (.lit 1)) (.len 3))] 
    (.load (.tt true) (.idx (.var 3) (.op .add .i64 (.var 4) (.lit 1)) 1) [.int .u8] 
    (.need (.tt true) [(.cmp .neq (.var 1) (.lit 0))] 
    (.need (.tt true) [(.cmp .geq (.op .add .i64 (.var 4) (.lit 2)) (.lit 0)), (.cmp .lss (.op .add .i64 (.var 4) (.lit 2)) (.len 3))] 
    (.load (.tt true) (.idx (.var 3) (.op .add .i64 (.var 4) (.lit 2)) 1) [.int .u8] 
    (.need (.tt true) [(.cmp .geq (.var 4) (.lit 0)), (.cmp .lss (.var 4) (.len 3))] 
    (.load (.tt true) (.idx (.var 3) (.var 4) 1) [.int .u8] 
    (.load (.tt true) (.fld (.idx (.var 2) (.op .rem .i64 (.conv .i64 (.var 5)) (.len 2)) 5) 0) [.sl] 
    (.need (.tt true) [(.cmp .neq (.op .add .i64 (.len 12) (.lit 1)) (.lit 0))] 
    (.load (.tt true) (.fld (.idx (.var 2) (.op .rem .i64 (.conv .i64 (.var 5)) (.len 2)) 5) 0) [.sl] 
    (.need (.tt true) [(.cmp .geq (.op .rem .i64 (.conv .i64 (.op .quo .u8 (.var 11) (.lit 8))) (.op .add .i64 (.len 12) (.lit 1))) (.lit 0)), (.cmp .leq (.op .rem .i64 (.conv .i64 (.op .quo .u8 (.var 11) (.lit 8))) (.op .add .i64 (.len 12) (.lit 1))) (.cap 13))] 
    (.bnd (.slice (.val 13) none (some (.op .rem .i64 (.conv .i64 (.op .quo .u8 (.var 11) (.lit 8))) (.op .add .i64 (.len 12) (.lit 1)))) 7) 
    (.load (.tt true) (.fld (.idx (.var 2) (.op .rem .i64 (.conv .i64 (.var 5)) (.len 2)) 5) 0) [.sl] 
    (.need (.tt true) [(.cmp .geq (.op .rem .i64 (.conv .i64 (.op .quo .u8 (.var 11) (.lit 8))) (.op .add .i64 (.len 12) (.lit 1))) (.lit 0)), (.cmp .leq (.op .rem .i64 (.conv .i64 (.op .quo .u8 (.var 11) (.lit 8))) (.op .add .i64 (.len 12) (.lit 1))) (.len 15))] 
    (.bnd (.slice (.val 15) (some (.op .rem .i64 (.conv .i64 (.op .quo .u8 (.var 11) (.lit 8))) (.op .add .i64 (.len 12) (.lit 1)))) none 7) 
    (.both 
     (.alloc 72 [] (.lsl 0) 
     (.still (.tt true) (.fld (.idx (.var 2) (.op .rem .i64 (.conv .i64 (.var 5)) (.len 2)) 5) 0) [(.val 15)] 
     (.still (.tt true) (.fld (.idx (.var 2) (.op .rem .i64 (.conv .i64 (.var 5)) (.len 2)) 5) 0) [(.val 13)] 
     (.both 
      (.app 72 7 64 (.val 17) (.sl (.val 14)) 
      (.still (.tt true) (.fld (.idx (.var 2) (.op .rem .i64 (.conv .i64 (.var 5)) (.len 2)) 5) 0) [(.val 15)] 
      (.still (.tt true) (.fld (.idx (.var 2) (.op .rem .i64 (.conv .i64 (.var 5)) (.len 2)) 5) 0) [(.val 13)] 
      (.still (.tt true) (.fld (.idx (.var 2) (.op .rem .i64 (.conv .i64 (.var 5)) (.len 2)) 5) 0) [(.val 15)] 
      (.still (.tt true) (.fld (.idx (.var 2) (.op .rem .i64 (.conv .i64 (.var 5)) (.len 2)) 5) 0) [(.val 13)] 
      (.app 72 7 64 (.val 18) (.cells [(.int .u8 (.lit 8)), (.int .u8 (.lit 0)), (.int .i64 (.op .rem .i64 (.conv .i64 (.var 9)) (.var 1))), (.int .i64 (.op .rem .i64 (.conv .i64 (.var 10)) (.lit 64))), (.int .i64 (.lit 0)), (.int .i64 (.lit 0)), (.cst (.slice none 0 0))] 1) 
      (.still (.tt true) (.fld (.idx (.var 2) (.op .rem .i64 (.conv .i64 (.var 5)) (.len 2)) 5) 0) [(.val 15)] 
      (.still (.tt true) (.fld (.idx (.var 2) (.op .rem .i64 (.conv .i64 (.var 5)) (.len 2)) 5) 0) [(.val 13)] 
      (.app 72 7 64 (.val 19) (.sl (.val 16)) 
      (.still (.tt true) (.fld (.idx (.var 2) (.op .rem .i64 (.conv .i64 (.var 5)) (.len 2)) 5) 0) [(.val 15)] 
      (.still (.tt true) (.fld (.idx (.var 2) (.op .rem .i64 (.conv .i64 (.var 5)) (.len 2)) 5) 0) [(.val 13)] 
      (.store (.fld (.idx (.var 2) (.op .rem .i64 (.conv .i64 (.var 5)) (.len 2)) 5) 0) [(.val 20)] 
      (.again 0 [(.int .i64 (.op .add .i64 (.var 4) (.lit 3)))]))))))))))))) 
      (.still (.tt true) (.fld (.idx (.var 2) (.op .rem .i64 (.conv .i64 (.var 5)) (.len 2)) 5) 0) [(.val 15)] 
      (.still (.tt true) (.fld (.idx (.var 2) (.op .rem .i64 (.conv .i64 (.var 5)) (.len 2)) 5) 0) [(.val 13)] 
      (.app 72 7 64 (.val 17) (.sl (.val 14)) 
      (.still (.tt true) (.fld (.idx (.var 2) (.op .rem .i64 (.conv .i64 (.var 5)) (.len 2)) 5) 0) [(.val 15)] 
      (.still (.tt true) (.fld (.idx (.var 2) (.op .rem .i64 (.conv .i64 (.var 5)) (.len 2)) 5) 0) [(.val 13)] 
      (.app 72 7 64 (.val 18) (.cells [(.int .u8 (.lit 8)), (.int .u8 (.lit 0)), (.int .i64 (.op .rem .i64 (.conv .i64 (.var 9)) (.var 1))), (.int .i64 (.op .rem .i64 (.conv .i64 (.var 10)) (.lit 64))), (.int .i64 (.lit 0)), (.int .i64 (.lit 0)), (.cst (.slice none 0 0))] 1) 
      (.still (.tt true) (.fld (.idx (.var 2) (.op .rem .i64 (.conv .i64 (.var 5)) (.len 2)) 5) 0) [(.val 15)] 
      (.still (.tt true) (.fld (.idx (.var 2) (.op .rem .i64 (.conv .i64 (.var 5)) (.len 2)) 5) 0) [(.val 13)] 
      (.app 72 7 64 (.val 19) (.sl (.val 16)) 
      (.still (.tt true) (.fld (.idx (.var 2) (.op .rem .i64 (.conv .i64 (.var 5)) (.len 2)) 5) 0) [(.val 15)] 
      (.still (.tt true) (.fld (.idx (.var 2) (.op .rem .i64 (.conv .i64 (.var 5)) (.len 2)) 5) 0) [(.val 13)] 
      (.store (.fld (.idx (.var 2) (.op .rem .i64 (.conv .i64 (.var 5)) (.len 2)) 5) 0) [(.val 20)] 
      (.again 0 [(.int .i64 (.op .add .i64 (.var 4) (.lit 3)))]))))))))))))))))) 
     (.still (.tt true) (.fld (.idx (.var 2) (.op .rem .i64 (.conv .i64 (.var 5)) (.len 2)) 5) 0) [(.val 15)] 
     (.still (.tt true) (.fld (.idx (.var 2) (.op .rem .i64 (.conv .i64 (.var 5)) (.len 2)) 5) 0) [(.val 13)] 
     (.alloc 72 [] (.lsl 0) 
     (.still (.tt true) (.fld (.idx (.var 2) (.op .rem .i64 (.conv .i64 (.var 5)) (.len 2)) 5) 0) [(.val 15)] 
     (.still (.tt true) (.fld (.idx (.var 2) (.op .rem .i64 (.conv .i64 (.var 5)) (.len 2)) 5) 0) [(.val 13)] 
     (.app 72 7 64 (.val 17) (.sl (.val 14)) 
     (.still (.tt true) (.fld (.idx (.var 2) (.op .rem .i64 (.conv .i64 (.var 5)) (.len 2)) 5) 0) [(.val 15)] 
     (.still (.tt true) (.fld (.idx (.var 2) (.op .rem .i64 (.conv .i64 (.var 5)) (.len 2)) 5) 0) [(.val 13)] 
     (.app 72 7 64 (.val 18) (.cells [(.int .u8 (.lit 8)), (.int .u8 (.lit 0)), (.int .i64 (.op .rem .i64 (.conv .i64 (.var 9)) (.var 1))), (.int .i64 (.op .rem .i64 (.conv .i64 (.var 10)) (.lit 64))), (.int .i64 (.lit 0)), (.int .i64 (.lit 0)), (.cst (.slice none 0 0))] 1) 
     (.still (.tt true) (.fld (.idx (.var 2) (.op .rem .i64 (.conv .i64 (.var 5)) (.len 2)) 5) 0) [(.val 15)] 
     (.still (.tt true) (.fld (.idx (.var 2) (.op .rem .i64 (.conv .i64 (.var 5)) (.len 2)) 5) 0) [(.val 13)] 
     (.app 72 7 64 (.val 19) (.sl (.val 16)) 
     (.still (.tt true) (.fld (.idx (.var 2) (.op .rem .i64 (.conv .i64 (.var 5)) (.len 2)) 5) 0) [(.val 15)] 
     (.still (.tt true) (.fld (.idx (.var 2) (.op .rem .i64 (.conv .i64 (.var 5)) (.len 2)) 5) 0) [(.val 13)] 
     (.store (.fld (.idx (.var 2) (.op .rem .i64 (.conv .i64 (.var 5)) (.len 2)) 5) 0) [(.val 20)] 
     (.again 0 [(.int .i64 (.op .add .i64 (.var 4) (.lit 3)))]))))))))))))))))))))))))))))))))
    (.need (.tt true) [(.cmp .geq (.var 4) (.lit 0)), (.cmp .lss (.var 4) (.len 3))] 
    (.load (.tt true) (.idx (.var 3) (.var 4) 1) [.int .u8] 
    (.load (.tt true) (.fld (.idx (.var 2) (.op .rem .i64 (.conv .i64 (.var 5)) (.len 2)) 5) 0) [.sl] 
    (.need (.tt true) [(.cmp .neq (.op .add .i64 (.len 10) (.lit 1)) (.lit 0))] 
    (.load (.tt true) (.fld (.idx (.var 2) (.op .rem .i64 (.conv .i64 (.var 5)) (.len 2)) 5) 0) [.sl] 
    (.need (.tt true) [(.cmp .geq (.op .rem .i64 (.conv .i64 (.op .quo .u8 (.var 9) (.lit 8))) (.op .add .i64 (.len 10) (.lit 1))) (.lit 0)), (.cmp .leq (.op .rem .i64 (.conv .i64 (.op .quo .u8 (.var 9) (.lit 8))) (.op .add .i64 (.len 10) (.lit 1))) (.cap 11))] 
    (.bnd (.slice (.val 11) none (some (.op .rem .i64 (.conv .i64 (.op .quo .u8 (.var 9) (.lit 8))) (.op .add .i64 (.len 10) (.lit 1)))) 7) 
    (.load (.tt true) (.fld (.idx (.var 2) (.op .rem .i64 (.conv .i64 (.var 5)) (.len 2)) 5) 0) [.sl] 
    (.need (.tt true) [(.cmp .geq (.op .rem .i64 (.conv .i64 (.op .quo .u8 (.var 9) (.lit 8))) (.op .add .i64 (.len 10) (.lit 1))) (.lit 0)), (.cmp .leq (.op .rem .i64 (.conv .i64 (.op .quo .u8 (.var 9) (.lit 8))) (.op .add .i64 (.len 10) (.lit 1))) (.len 13))] 
    (.bnd (.slice (.val 13) (some (.op .rem .i64 (.conv .i64 (.op .quo .u8 (.var 9) (.lit 8))) (.op .add .i64 (.len 10) (.lit 1)))) none 7) 
    (.both 
     (.alloc 72 [] (.lsl 0) 
     (.still (.tt true) (.fld (.idx (.var 2) (.op .rem .i64 (.conv .i64 (.var 5)) (.len 2)) 5) 0) [(.val 13)] 
     (.still (.tt true) (.fld (.idx (.var 2) (.op .rem .i64 (.conv .i64 (.var 5)) (.len 2)) 5) 0) [(.val 11)] 
     (.both 
      (.app 72 7 64 (.val 15) (.sl (.val 12)) 
      (.still (.tt true) (.fld (.idx (.var 2) (.op .rem .i64 (.conv .i64 (.var 5)) (.len 2)) 5) 0) [(.val 13)] 
      (.still (.tt true) (.fld (.idx (.var 2) (.op .rem .i64 (.conv .i64 (.var 5)) (.len 2)) 5) 0) [(.val 11)] 
      (.still (.tt true) (.fld (.idx (.var 2) (.op .rem .i64 (.conv .i64 (.var 5)) (.len 2)) 5) 0) [(.val 13)] 
      (.still (.tt true) (.fld (.idx (.var 2) (.op .rem .i64 (.conv .i64 (.var 5)) (.len 2)) 5) 0) [(.val 11)] 
      (.app 72 7 64 (.val 16) (.cells [(.int .u8 (.lit 7)), (.int .u8 (.lit 0)), (.int .i64 (.op .rem .i64 (.conv .i64 (.var 6)) (.lit 64))), (.int .i64 (.op .rem .i64 (.conv .i64 (.var 7)) (.var 1))), (.int .i64 (.lit 0)), (.int .i64 (.lit 0)), (.cst (.slice none 0 0))] 1) 
      (.still (.tt true) (.fld (.idx (.var 2) (.op .rem .i64 (.conv .i64 (.var 5)) (.len 2)) 5) 0) [(.val 13)] 
      (.still (.tt true) (.fld (.idx (.var 2) (.op .rem .i64 (.conv .i64 (.var 5)) (.len 2)) 5) 0) [(.val 11)] 
      (.app 72 7 64 (.val 17) (.sl (.val 14)) 
      (.still (.tt true) (.fld (.idx (.var 2) (.op .rem .i64 (.conv .i64 (.var 5)) (.len 2)) 5) 0) [(.val 13)] 
      (.still (.tt true) (.fld (.idx (.var 2) (.op .rem .i64 (.conv .i64 (.var 5)) (.len 2)) 5) 0) [(.val 11)] 
      (.store (.fld (.idx (.var 2) (.op .rem .i64 (.conv .i64 (.var 5)) (.len 2)) 5) 0) [(.val 18)] 
      (.again 0 [(.int .i64 (.op .add .i64 (.var 4) (.lit 3)))]))))))))))))) 
      (.still (.tt true) (.fld (.idx (.var 2) (.op .rem .i64 (.conv .i64 (.var 5)) (.len 2)) 5) 0) [(.val 13)] 
      (.still (.tt true) (.fld (.idx (.var 2) (.op .rem .i64 (.conv .i64 (.var 5)) (.len 2)) 5) 0) [(.val 11)] 
      (.app 72 7 64 (.val 15) (.sl (.val 12)) 
      (.still (.tt true) (.fld (.idx (.var 2) (.op .rem .i64 (.conv .i64 (.var 5)) (.len 2)) 5) 0) [(.val 13)] 
      (.still (.tt true) (.fld (.idx (.var 2) (.op .rem .i64 (.conv .i64 (.var 5)) (.len 2)) 5) 0) [(.val 11)] 
      (.app 72 7 64 (.val 16) (.cells [(.int .u8 (.lit 7)), (.int .u8 (.lit 0)), (.int .i64 (.op .rem .i64 (.conv .i64 (.var 6)) (.lit 64))), (.int .i64 (.op .rem .i64 (.conv .i64 (.var 7)) (.var 1))), (.int .i64 (.lit 0)), (.int .i64 (.lit 0)), (.cst (.slice none 0 0))] 1) 
      (.still (.tt true) (.fld (.idx (.var 2) (.op .rem .i64 (.conv .i64 (.var 5)) (.len 2)) 5) 0) [(.val 13)] 
      (.still (.tt true) (.fld (.idx (.var 2) (.op .rem .i64 (.conv .i64 (.var 5)) (.len 2)) 5) 0) [(.val 11)] 
      (.app 72 7 64 (.val 17) (.sl (.val 14)) 
      (.still (.tt true) (.fld (.idx (.var 2) (.op .rem .i64 (.conv .i64 (.var 5)) (.len 2)) 5) 0) [(.val 13)] 
      (.still (.tt true) (.fld (.idx (.var 2) (.op .rem .i64 (.conv .i64 (.var 5)) (.len 2)) 5) 0) [(.val 11)] 
      (.store (.fld (.idx (.var 2) (.op .rem .i64 (.conv .i64 (.var 5)) (.len 2)) 5) 0) [(.val 18)] 
      (.again 0 [(.int .i64 (.op .add .i64 (.var 4) (.lit 3)))]))))))))))))))))) 
     (.still (.tt true) (.fld (.idx (.var 2) (.op .rem .i64 (.conv .i64 (.var 5)) (.len 2)) 5) 0) [(.val 13)] 
     (.still (.tt true) (.fld (.idx (.var 2) (.op .rem .i64 (.conv .i64 (.var 5)) (.len 2)) 5) 0) [(.val 11)] 
     (.alloc 72 [] (.lsl 0) 
     (.still (.tt true) (.fld (.idx (.var 2) (.op .rem .i64 (.conv .i64 (.var 5)) (.len 2)) 5) 0) [(.val 13)] 
     (.still (.tt true) (.fld (.idx (.var 2) (.op .rem .i64 (.conv .i64 (.var 5)) (.len 2)) 5) 0) [(.val 11)] 
     (.app 72 7 64 (.val 15) (.sl (.val 12)) 
     (.still (.tt true) (.fld (.idx (.var 2) (.op .rem .i64 (.conv .i64 (.var 5)) (.len 2)) 5) 0) [(.val 13)] 
     (.still (.tt true) (.fld (.idx (.var 2) (.op .rem .i64 (.conv .i64 (.var 5)) (.len 2)) 5) 0) [(.val 11)] 
     (.app 72 7 64 (.val 16) (.cells [(.int .u8 (.lit 7)), (.int .u8 (.lit 0)), (.int .i64 (.op .rem .i64 (.conv .i64 (.var 6)) (.lit 64))), (.int .i64 (.op .rem .i64 (.conv .i64 (.var 7)) (.var 1))), (.int .i64 (.lit 0)), (.int .i64 (.lit 0)), (.cst (.slice none 0 0))] 1) 
     (.still (.tt true) (.fld (.idx (.var 2) (.op .rem .i64 (.conv .i64 (.var 5)) (.len 2)) 5) 0) [(.val 13)] 
     (.still (.tt true) (.fld (.idx (.var 2) (.op .rem .i64 (.conv .i64 (.var 5)) (.len 2)) 5) 0) [(.val 11)] 
     (.app 72 7 64 (.val 17) (.sl (.val 14)) 
     (.still (.tt true) (.fld (.idx (.var 2) (.op .rem .i64 (.conv .i64 (.var 5)) (.len 2)) 5) 0) [(.val 13)] 
     (.still (.tt true) (.fld (.idx (.var 2) (.op .rem .i64 (.conv .i64 (.var 5)) (.len 2)) 5) 0) [(.val 11)] 
     (.store (.fld (.idx (.var 2) (.op .rem .i64 (.conv .i64 (.var 5)) (.len 2)) 5) 0) [(.val 18)] 
     (.again 0 [(.int .i64 (.op .add .i64 (.var 4) (.lit 3)))])))))))))))))))))))))))))))))))))))))))))
   (.done (.val 2) [])))
def l30 : List (Nat × List Nat × List (Nat × Nat) × List Nat) := [(3, [6], [], [12, 13, 14, 15, 16, 17, 18, 19, 20, 23, 24, 25, 26, 27, 28, 29, 30, 31, 32, 7, 33, 34, 35, 36, 37, 38, 39, 40, 41, 42, 43, 44, 45, 46, 47, 48, 49, 8, 50, 51, 52, 53, 54, 55, 56, 57, 58, 59, 60, 61, 62, 63, 64, 65, 66, 67, 68, 69, 70, 71, 72, 73, 74, 75, 76, 77, 78, 79, 80, 81, 82, 83, 84, 85, 9, 86, 87, 88, 89, 90, 91, 92, 93, 94, 95, 96, 97, 98, 99, 100, 101, 102, 103, 104, 105, 106, 21, 22])]
theorem e30 : ev Tryd.prog ⟨allF, [87], l30⟩ (bodyOf Tryd.f30) 0 (initSt [(.agg [(.int .i64 (.var 0)), (.int .i64 (.var 1)), (.val 2)]), (.val 3)] [] Tryd.f30.ntmps [.int .i64, .int .i64, .sl, .sl]) (finK Tryd.prog Tryd.f30.results []) = t30 := by kernel_rfl
theorem c30 {G : List Value} {h : H} {R : Value → List (List Value) → H → Prop} (hG : FitsL [.int .i64, .int .i64, .sl, .sl] G) (H : holds Tryd.prog R t30 G [] h) : CallsA Tryd.prog 30 (fun e => SV.denL G (fun k => e (k - 1000000)) [(.agg [(.int .i64 (.var 0)), (.int .i64 (.var 1)), (.val 2)]), (.val 3)]) ([].map (SV.denL G dE)) h R :=
  CallsA.of_ev (cf := ⟨allF, [87], l30⟩) (fn := Tryd.f30) (c := bodyOf Tryd.f30) (pcs := []) Tryd.func30 (by rfl) callOK (by rfl) hG (by rfl) (by rw [show ([] : List (List SV)).map List.length = [] from rfl, e30]; exact H)
end Go.Proofs.YtbbicdfipheaeaaDoor
