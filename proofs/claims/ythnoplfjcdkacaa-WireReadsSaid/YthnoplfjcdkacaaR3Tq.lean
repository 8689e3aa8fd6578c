/-
  What the evaluator leaves of the functions of this seat (trees, printed by a program of ours), and their contracts from it. Conditions: none.
-/
import Derived.Test.YthnoplfjcdkacaaR1Tr
set_option linter.unusedVariables false
set_option linter.unusedSimpArgs false
namespace Go.Proofs.Ythnoplfjcdkacaa
open Go

/-- What is left of (*outworker/outworkerref01.Reader).Below. -/
def t48k : Out :=
 (.call 67 [(.loc 1000000 0)] [1000000] [[(.val 0), (.int .i64 (.var 1))]] [[.sl, .int .i64]] [(false, [.int .u64])] 
 (.ite (.cmp .neq (.ite (.ite (.cmp .eql (.var 4) (.lit 0)) (.ite (.cmp .leq (.var 2) (.lit 0)) (.tt true) (.cmp .geq (.var 5) (.conv .u64 (.var 2)))) (.tt false)) (.lit 2) (.var 4)) (.lit 0))
  (.done (.int .i64 (.lit 0)) [[(.val 3), (.int .i64 (.ite (.ite (.cmp .eql (.var 4) (.lit 0)) (.ite (.cmp .leq (.var 2) (.lit 0)) (.tt true) (.cmp .geq (.var 5) (.conv .u64 (.var 2)))) (.tt false)) (.lit 2) (.var 4)))]])
  (.done (.int .i64 (.conv .i64 (.var 5))) [[(.val 3), (.int .i64 (.ite (.ite (.cmp .eql (.var 4) (.lit 0)) (.ite (.cmp .leq (.var 2) (.lit 0)) (.tt true) (.cmp .geq (.var 5) (.conv .u64 (.var 2)))) (.tt false)) (.lit 2) (.var 4)))]])))
def l48k : List (Nat × List Nat × List (Nat × Nat) × List Nat) := []
theorem e48k : ev Try.prog ⟨allF, [], l48k⟩ (bodyOf Try.f48) 0 (initSt [(.loc 1000000 0), (.int .i64 (.var 2))] [[(.val 0), (.int .i64 (.var 1))]] Try.f48.ntmps [.sl, .int .i64, .int .i64]) (finK Try.prog Try.f48.results [2]) = t48k := by kernel_rfl
theorem c48k {G : List Value} {h : H} {R : Value → List (List Value) → H → Prop} (hG : FitsL [.sl, .int .i64, .int .i64] G) (H : holds Try.prog R t48k G [] h) : CallsA Try.prog 48 (fun e => SV.denL G (fun k => e (k - 1000000)) [(.loc 1000000 0), (.int .i64 (.var 2))]) ([[(.val 0), (.int .i64 (.var 1))]].map (SV.denL G dE)) h R :=
  CallsA.of_ev (cf := ⟨allF, [], l48k⟩) (fn := Try.f48) (c := bodyOf Try.f48) (pcs := [[(.val 0), (.int .i64 (.var 1))]]) Try.func48 (by rfl) callOK (by rfl) hG (by rfl) (by rw [show ([[(.val 0), (.int .i64 (.var 1))]] : List (List SV)).map List.length = [2] from rfl, e48k]; exact H)
/-- What is left of (*outworker/outworkerref01.Reader).End. -/
def t49k : Out :=
 (.done (.int .i64 (.ite (.ite (.cmp .eql (.var 1) (.lit 0)) (.cmp .gtr (.len 0) (.lit 0)) (.tt false)) (.lit 5) (.var 1))) [[(.val 0), (.int .i64 (.ite (.ite (.cmp .eql (.var 1) (.lit 0)) (.cmp .gtr (.len 0) (.lit 0)) (.tt false)) (.lit 5) (.var 1)))]])
def l49k : List (Nat × List Nat × List (Nat × Nat) × List Nat) := []
theorem e49k : ev Try.prog ⟨allF, [], l49k⟩ (bodyOf Try.f49) 0 (initSt [(.loc 1000000 0)] [[(.val 0), (.int .i64 (.var 1))]] Try.f49.ntmps [.sl, .int .i64]) (finK Try.prog Try.f49.results [2]) = t49k := by kernel_rfl
theorem c49k {G : List Value} {h : H} {R : Value → List (List Value) → H → Prop} (hG : FitsL [.sl, .int .i64] G) (H : holds Try.prog R t49k G [] h) : CallsA Try.prog 49 (fun e => SV.denL G (fun k => e (k - 1000000)) [(.loc 1000000 0)]) ([[(.val 0), (.int .i64 (.var 1))]].map (SV.denL G dE)) h R :=
  CallsA.of_ev (cf := ⟨allF, [], l49k⟩) (fn := Try.f49) (c := bodyOf Try.f49) (pcs := [[(.val 0), (.int .i64 (.var 1))]]) Try.func49 (by rfl) callOK (by rfl) hG (by rfl) (by rw [show ([[(.val 0), (.int .i64 (.var 1))]] : List (List SV)).map List.length = [2] from rfl, e49k]; exact H)
/-- What is left of (*outworker/outworkerref01.Reader).Num. -/
def t67k : Out :=
 (.ite (.cmp .neq (.var 1) (.lit 0))
  (.done (.int .u64 (.lit 0)) [[(.val 0), (.int .i64 (.var 1))]])
  (.loop 0 [(.int .u64 (.lit 0)), (.int .u64 (.lit 1)), (.int .i64 (.lit 0))] [.int .u64, .int .u64, .int .i64] 
   (.ite (.cmp .eql (.var 4) (.len 0))
    (.done (.int .u64 (.lit 0)) [[(.val 0), (.int .i64 (.lit 3))]])
    (.need (.tt true) [(.cmp .geq (.var 4) (.lit 0)), (.cmp .lss (.var 4) (.len 0))] 
    (.load (.tt true) (.idx (.var 0) (.var 4) 1) [.int .u8] 
    (.ite (.ite (.ite (.cmp .eql (.var 4) (.lit 9)) (.cmp .gtr (.var 5) (.lit 1)) (.tt false)) (.tt true) (.ite (.cmp .gtr (.var 4) (.lit 0)) (.cmp .eql (.var 5) (.lit 0)) (.tt false)))
     (.done (.int .u64 (.lit 0)) [[(.val 0), (.int .i64 (.lit 8))]])
     (.ite (.cmp .lss (.var 5) (.lit 128))
      (.need (.tt true) [(.cmp .geq (.op .add .i64 (.var 4) (.lit 1)) (.lit 0)), (.cmp .leq (.op .add .i64 (.var 4) (.lit 1)) (.len 0))] 
      (.bnd (.slice (.val 0) (some (.op .add .i64 (.var 4) (.lit 1))) none 1) 
      (.done (.int .u64 (.op .add .u64 (.var 2) (.op .mul .u64 (.conv .u64 (.op .rem .u8 (.var 5) (.lit 128))) (.var 3)))) [[(.val 6), (.int .i64 (.var 1))]])))
      (.again 0 [(.int .u64 (.op .add .u64 (.var 2) (.op .mul .u64 (.conv .u64 (.op .rem .u8 (.var 5) (.lit 128))) (.var 3)))), (.int .u64 (.op .mul .u64 (.var 3) (.lit 128))), (.int .i64 (.op .add .i64 (.var 4) (.lit 1)))]))))))))
def l67k : List (Nat × List Nat × List (Nat × Nat) × List Nat) := [(7, [3, 4, 5], [], [14, 15, 16, 17, 18, 19, 20, 21, 22, 23, 2, 24, 25, 26, 27, 28, 29, 30, 6, 31, 32, 33, 34, 35, 36, 37, 38, 39, 40, 41, 42, 43, 44, 45, 46, 47, 48, 49, 50, 51, 52, 53, 54, 55, 56, 57, 58, 59, 60, 61, 62, 63, 64, 65, 66, 67, 68, 69, 12, 13])]
theorem e67k : ev Try.prog ⟨allF, [], l67k⟩ (bodyOf Try.f67) 0 (initSt [(.loc 1000000 0)] [[(.val 0), (.int .i64 (.var 1))]] Try.f67.ntmps [.sl, .int .i64]) (finK Try.prog Try.f67.results [2]) = t67k := by kernel_rfl
theorem c67k {G : List Value} {h : H} {R : Value → List (List Value) → H → Prop} (hG : FitsL [.sl, .int .i64] G) (H : holds Try.prog R t67k G [] h) : CallsA Try.prog 67 (fun e => SV.denL G (fun k => e (k - 1000000)) [(.loc 1000000 0)]) ([[(.val 0), (.int .i64 (.var 1))]].map (SV.denL G dE)) h R :=
  CallsA.of_ev (cf := ⟨allF, [], l67k⟩) (fn := Try.f67) (c := bodyOf Try.f67) (pcs := [[(.val 0), (.int .i64 (.var 1))]]) Try.func67 (by rfl) callOK (by rfl) hG (by rfl) (by rw [show ([[(.val 0), (.int .i64 (.var 1))]] : List (List SV)).map List.length = [2] from rfl, e67k]; exact H)
/-- What is left of (*outworker/outworkerref01.Reader).Fail. -/
def t70k : Out :=
 (.done (.tup []) [[(.val 0), (.int .i64 (.ite (.cmp .eql (.var 1) (.lit 0)) (.var 2) (.var 1)))]])
def l70k : List (Nat × List Nat × List (Nat × Nat) × List Nat) := []
theorem e70k : ev Try.prog ⟨allF, [], l70k⟩ (bodyOf Try.f70) 0 (initSt [(.loc 1000000 0), (.int .i64 (.var 2))] [[(.val 0), (.int .i64 (.var 1))]] Try.f70.ntmps [.sl, .int .i64, .int .i64]) (finK Try.prog Try.f70.results [2]) = t70k := by kernel_rfl
theorem c70k {G : List Value} {h : H} {R : Value → List (List Value) → H → Prop} (hG : FitsL [.sl, .int .i64, .int .i64] G) (H : holds Try.prog R t70k G [] h) : CallsA Try.prog 70 (fun e => SV.denL G (fun k => e (k - 1000000)) [(.loc 1000000 0), (.int .i64 (.var 2))]) ([[(.val 0), (.int .i64 (.var 1))]].map (SV.denL G dE)) h R :=
  CallsA.of_ev (cf := ⟨allF, [], l70k⟩) (fn := Try.f70) (c := bodyOf Try.f70) (pcs := [[(.val 0), (.int .i64 (.var 1))]]) Try.func70 (by rfl) callOK (by rfl) hG (by rfl) (by rw [show ([[(.val 0), (.int .i64 (.var 1))]] : List (List SV)).map List.length = [2] from rfl, e70k]; exact H)
/-- What is left of outworker/outworkerref04.Blocks. -/
def t52k : Out :=
 (.call 48 [(.loc 1000000 0), (.int .i64 (.lit 17))] [1000000] [[(.val 0), (.int .i64 (.var 1))]] [[.sl, .int .i64]] [(false, [.int .i64])] 
 (.loop 0 [(.cst (.slice none 0 0)), (.int .i64 (.lit 0)), (.val 3), (.int .i64 (.var 4))] [.sl, .int .i64, .sl, .int .i64] 
  (.ite (.ite (.cmp .lss (.var 7) (.var 5)) (.cmp .eql (.var 9) (.lit 0)) (.tt false))
   (.call 48 [(.loc 1000000 0), (.int .i64 (.op .add .i64 (.var 2) (.lit 1)))] [1000000] [[(.val 8), (.int .i64 (.var 9))]] [[.sl, .int .i64]] [(false, [.int .i64])] 
   (.loop 1 [(.int .i64 (.lit 0)), (.cst (.slice none 0 0)), (.val 10), (.int .i64 (.var 11))] [.int .i64, .sl, .sl, .int .i64] 
    (.ite (.ite (.cmp .lss (.var 13) (.var 12)) (.cmp .eql (.var 16) (.lit 0)) (.tt false))
     (.call 48 [(.loc 1000000 0), (.int .i64 (.lit 256))] [1000000] [[(.val 15), (.int .i64 (.var 16))]] [[.sl, .int .i64]] [(false, [.int .i64])] 
     (.ite (.ite (.cmp .eql (.var 18) (.lit 0)) (.ite (.cmp .lss (.conv .u8 (.var 19)) (.lit 1)) (.tt true) (.cmp .gtr (.conv .u8 (.var 19)) (.lit 8))) (.tt false))
      (.call 70 [(.loc 1000000 0), (.int .i64 (.lit 20))] [1000000] [[(.val 17), (.int .i64 (.var 18))]] [[.sl, .int .i64]] [] 
      (.ite (.cmp .neq (.var 21) (.lit 0))
       (.call 48 [(.loc 1000000 0), (.int .i64 (.lit 256))] [1000000] [[(.val 20), (.int .i64 (.var 21))]] [[.sl, .int .i64]] [(false, [.int .i64])] 
       (.ite (.ite (.cmp .eql (.var 23) (.lit 0)) (.ite (.cmp .lss (.conv .u8 (.var 24)) (.lit 1)) (.tt true) (.cmp .gtr (.conv .u8 (.var 24)) (.lit 3))) (.tt false))
        (.call 70 [(.loc 1000000 0), (.int .i64 (.lit 20))] [1000000] [[(.val 22), (.int .i64 (.var 23))]] [[.sl, .int .i64]] [] 
        (.call 61 [(.agg [(.int .u8 (.conv .u8 (.var 24))), (.int .i64 (.lit 0)), (.int .i64 (.lit 0)), (.int .i64 (.lit 0))])] [] [] [] [(false, [.bool])] 
        (.ite (.var 27)
         (.call 48 [(.loc 1000000 0), (.int .i64 (.lit 4096))] [1000000] [[(.val 25), (.int .i64 (.var 26))]] [[.sl, .int .i64]] [(false, [.int .i64])] 
         (.ite (.cmp .neq (.conv .u8 (.var 24)) (.lit 3))
          (.call 48 [(.loc 1000000 0), (.int .i64 (.lit 4096))] [1000000] [[(.val 28), (.int .i64 (.var 29))]] [[.sl, .int .i64]] [(false, [.int .i64])] 
          (.ite (.cmp .eql (.conv .u8 (.var 24)) (.lit 2))
           (.call 48 [(.loc 1000000 0), (.int .i64 (.lit 4096))] [1000000] [[(.val 31), (.int .i64 (.var 32))]] [[.sl, .int .i64]] [(false, [.int .i64])] 
           (.app 83 5 56 (.val 6) (.cells [(.val 14), (.int .u8 (.conv .u8 (.var 24))), (.int .i64 (.var 30)), (.int .i64 (.var 33)), (.int .i64 (.var 36))] 1) 
           (.again 0 [(.val 37), (.int .i64 (.op .add .i64 (.var 7) (.lit 1))), (.val 34), (.int .i64 (.var 35))])))
           (.app 83 5 56 (.val 6) (.cells [(.val 14), (.int .u8 (.conv .u8 (.var 24))), (.int .i64 (.var 30)), (.int .i64 (.var 33)), (.int .i64 (.lit 0))] 1) 
           (.again 0 [(.val 34), (.int .i64 (.op .add .i64 (.var 7) (.lit 1))), (.val 31), (.int .i64 (.var 32))]))))
          (.ite (.cmp .eql (.conv .u8 (.var 24)) (.lit 2))
           (.call 48 [(.loc 1000000 0), (.int .i64 (.lit 4096))] [1000000] [[(.val 28), (.int .i64 (.var 29))]] [[.sl, .int .i64]] [(false, [.int .i64])] 
           (.app 83 5 56 (.val 6) (.cells [(.val 14), (.int .u8 (.conv .u8 (.var 24))), (.int .i64 (.var 30)), (.int .i64 (.lit 0)), (.int .i64 (.var 33))] 1) 
           (.again 0 [(.val 34), (.int .i64 (.op .add .i64 (.var 7) (.lit 1))), (.val 31), (.int .i64 (.var 32))])))
           (.app 83 5 56 (.val 6) (.cells [(.val 14), (.int .u8 (.conv .u8 (.var 24))), (.int .i64 (.var 30)), (.int .i64 (.lit 0)), (.int .i64 (.lit 0))] 1) 
           (.again 0 [(.val 31), (.int .i64 (.op .add .i64 (.var 7) (.lit 1))), (.val 28), (.int .i64 (.var 29))])))))
         (.ite (.cmp .neq (.conv .u8 (.var 24)) (.lit 3))
          (.call 48 [(.loc 1000000 0), (.int .i64 (.lit 4096))] [1000000] [[(.val 25), (.int .i64 (.var 26))]] [[.sl, .int .i64]] [(false, [.int .i64])] 
          (.ite (.cmp .eql (.conv .u8 (.var 24)) (.lit 2))
           (.call 48 [(.loc 1000000 0), (.int .i64 (.lit 4096))] [1000000] [[(.val 28), (.int .i64 (.var 29))]] [[.sl, .int .i64]] [(false, [.int .i64])] 
           (.app 83 5 56 (.val 6) (.cells [(.val 14), (.int .u8 (.conv .u8 (.var 24))), (.int .i64 (.lit 0)), (.int .i64 (.var 30)), (.int .i64 (.var 33))] 1) 
           (.again 0 [(.val 34), (.int .i64 (.op .add .i64 (.var 7) (.lit 1))), (.val 31), (.int .i64 (.var 32))])))
           (.app 83 5 56 (.val 6) (.cells [(.val 14), (.int .u8 (.conv .u8 (.var 24))), (.int .i64 (.lit 0)), (.int .i64 (.var 30)), (.int .i64 (.lit 0))] 1) 
           (.again 0 [(.val 31), (.int .i64 (.op .add .i64 (.var 7) (.lit 1))), (.val 28), (.int .i64 (.var 29))]))))
          (.ite (.cmp .eql (.conv .u8 (.var 24)) (.lit 2))
           (.call 48 [(.loc 1000000 0), (.int .i64 (.lit 4096))] [1000000] [[(.val 25), (.int .i64 (.var 26))]] [[.sl, .int .i64]] [(false, [.int .i64])] 
           (.app 83 5 56 (.val 6) (.cells [(.val 14), (.int .u8 (.conv .u8 (.var 24))), (.int .i64 (.lit 0)), (.int .i64 (.lit 0)), (.int .i64 (.var 30))] 1) 
           (.again 0 [(.val 31), (.int .i64 (.op .add .i64 (.var 7) (.lit 1))), (.val 28), (.int .i64 (.var 29))])))
           (.app 83 5 56 (.val 6) (.cells [(.val 14), (.int .u8 (.conv .u8 (.var 24))), (.int .i64 (.lit 0)), (.int .i64 (.lit 0)), (.int .i64 (.lit 0))] 1) 
           (.again 0 [(.val 28), (.int .i64 (.op .add .i64 (.var 7) (.lit 1))), (.val 25), (.int .i64 (.var 26))])))))))
        (.call 61 [(.agg [(.int .u8 (.conv .u8 (.var 24))), (.int .i64 (.lit 0)), (.int .i64 (.lit 0)), (.int .i64 (.lit 0))])] [] [] [] [(false, [.bool])] 
        (.ite (.var 25)
         (.call 48 [(.loc 1000000 0), (.int .i64 (.lit 4096))] [1000000] [[(.val 22), (.int .i64 (.var 23))]] [[.sl, .int .i64]] [(false, [.int .i64])] 
         (.ite (.cmp .neq (.conv .u8 (.var 24)) (.lit 3))
          (.call 48 [(.loc 1000000 0), (.int .i64 (.lit 4096))] [1000000] [[(.val 26), (.int .i64 (.var 27))]] [[.sl, .int .i64]] [(false, [.int .i64])] 
          (.ite (.cmp .eql (.conv .u8 (.var 24)) (.lit 2))
           (.call 48 [(.loc 1000000 0), (.int .i64 (.lit 4096))] [1000000] [[(.val 29), (.int .i64 (.var 30))]] [[.sl, .int .i64]] [(false, [.int .i64])] 
           (.app 83 5 56 (.val 6) (.cells [(.val 14), (.int .u8 (.conv .u8 (.var 24))), (.int .i64 (.var 28)), (.int .i64 (.var 31)), (.int .i64 (.var 34))] 1) 
           (.again 0 [(.val 35), (.int .i64 (.op .add .i64 (.var 7) (.lit 1))), (.val 32), (.int .i64 (.var 33))])))
           (.app 83 5 56 (.val 6) (.cells [(.val 14), (.int .u8 (.conv .u8 (.var 24))), (.int .i64 (.var 28)), (.int .i64 (.var 31)), (.int .i64 (.lit 0))] 1) 
           (.again 0 [(.val 32), (.int .i64 (.op .add .i64 (.var 7) (.lit 1))), (.val 29), (.int .i64 (.var 30))]))))
          (.ite (.cmp .eql (.conv .u8 (.var 24)) (.lit 2))
           (.call 48 [(.loc 1000000 0), (.int .i64 (.lit 4096))] [1000000] [[(.val 26), (.int .i64 (.var 27))]] [[.sl, .int .i64]] [(false, [.int .i64])] 
           (.app 83 5 56 (.val 6) (.cells [(.val 14), (.int .u8 (.conv .u8 (.var 24))), (.int .i64 (.var 28)), (.int .i64 (.lit 0)), (.int .i64 (.var 31))] 1) 
           (.again 0 [(.val 32), (.int .i64 (.op .add .i64 (.var 7) (.lit 1))), (.val 29), (.int .i64 (.var 30))])))
           (.app 83 5 56 (.val 6) (.cells [(.val 14), (.int .u8 (.conv .u8 (.var 24))), (.int .i64 (.var 28)), (.int .i64 (.lit 0)), (.int .i64 (.lit 0))] 1) 
           (.again 0 [(.val 29), (.int .i64 (.op .add .i64 (.var 7) (.lit 1))), (.val 26), (.int .i64 (.var 27))])))))
         (.ite (.cmp .neq (.conv .u8 (.var 24)) (.lit 3))
          (.call 48 [(.loc 1000000 0), (.int .i64 (.lit 4096))] [1000000] [[(.val 22), (.int .i64 (.var 23))]] [[.sl, .int .i64]] [(false, [.int .i64])] 
          (.ite (.cmp .eql (.conv .u8 (.var 24)) (.lit 2))
           (.call 48 [(.loc 1000000 0), (.int .i64 (.lit 4096))] [1000000] [[(.val 26), (.int .i64 (.var 27))]] [[.sl, .int .i64]] [(false, [.int .i64])] 
           (.app 83 5 56 (.val 6) (.cells [(.val 14), (.int .u8 (.conv .u8 (.var 24))), (.int .i64 (.lit 0)), (.int .i64 (.var 28)), (.int .i64 (.var 31))] 1) 
           (.again 0 [(.val 32), (.int .i64 (.op .add .i64 (.var 7) (.lit 1))), (.val 29), (.int .i64 (.var 30))])))
           (.app 83 5 56 (.val 6) (.cells [(.val 14), (.int .u8 (.conv .u8 (.var 24))), (.int .i64 (.lit 0)), (.int .i64 (.var 28)), (.int .i64 (.lit 0))] 1) 
           (.again 0 [(.val 29), (.int .i64 (.op .add .i64 (.var 7) (.lit 1))), (.val 26), (.int .i64 (.var 27))]))))
          (.ite (.cmp .eql (.conv .u8 (.var 24)) (.lit 2))
           (.call 48 [(.loc 1000000 0), (.int .i64 (.lit 4096))] [1000000] [[(.val 22), (.int .i64 (.var 23))]] [[.sl, .int .i64]] [(false, [.int .i64])] 
           (.app 83 5 56 (.val 6) (.cells [(.val 14), (.int .u8 (.conv .u8 (.var 24))), (.int .i64 (.lit 0)), (.int .i64 (.lit 0)), (.int .i64 (.var 28))] 1) 
           (.again 0 [(.val 29), (.int .i64 (.op .add .i64 (.var 7) (.lit 1))), (.val 26), (.int .i64 (.var 27))])))
           (.app 83 5 56 (.val 6) (.cells [(.val 14), (.int .u8 (.conv .u8 (.var 24))), (.int .i64 (.lit 0)), (.int .i64 (.lit 0)), (.int .i64 (.lit 0))] 1) 
           (.again 0 [(.val 26), (.int .i64 (.op .add .i64 (.var 7) (.lit 1))), (.val 22), (.int .i64 (.var 23))]))))))))
       (.call 59 [(.int .u8 (.conv .u8 (.var 19)))] [] [] [] [(false, [.str])] 
       (.loop 2 [(.int .i64 (.lit 0)), (.int .u8 (.lit 0)), (.val 20), (.int .i64 (.var 21)), (.int .i64 (.lit 0)), (.int .i64 (.lit 0)), (.int .i64 (.lit 0)), (.int .i64 (.lit 0)), (.cst (.slice none 0 0))] [.int .i64, .int .u8, .sl, .int .i64, .int .i64, .int .i64, .int .i64, .int .i64, .sl] 
        (.ite (.cmp .lss (.var 23) (.slen (.var 22)))
         (.need (.tt true) [(.cmp .geq (.var 23) (.lit 0)), (.cmp .lss (.var 23) (.slen (.var 22)))] 
         (.ite (.cmp .eql (.byte (.var 22) (.var 23)) (.lit 79))
          (.call 48 [(.loc 1000000 0), (.int .i64 (.lit 256))] [1000000] [[(.val 25), (.int .i64 (.var 26))]] [[.sl, .int .i64]] [(false, [.int .i64])] 
          (.again 2 [(.int .i64 (.op .add .i64 (.var 23) (.lit 1))), (.int .u8 (.conv .u8 (.var 34))), (.val 32), (.int .i64 (.var 33)), (.int .i64 (.var 27)), (.int .i64 (.var 28)), (.int .i64 (.var 29)), (.int .i64 (.var 30)), (.val 31)]))
          (.ite (.cmp .eql (.byte (.var 22) (.var 23)) (.lit 68))
           (.call 48 [(.loc 1000000 0), (.int .i64 (.lit 4096))] [1000000] [[(.val 25), (.int .i64 (.var 26))]] [[.sl, .int .i64]] [(false, [.int .i64])] 
           (.again 2 [(.int .i64 (.op .add .i64 (.var 23) (.lit 1))), (.int .u8 (.var 24)), (.val 32), (.int .i64 (.var 33)), (.int .i64 (.var 34)), (.int .i64 (.var 28)), (.int .i64 (.var 29)), (.int .i64 (.var 30)), (.val 31)]))
           (.ite (.cmp .eql (.byte (.var 22) (.var 23)) (.lit 65))
            (.call 48 [(.loc 1000000 0), (.int .i64 (.lit 4096))] [1000000] [[(.val 25), (.int .i64 (.var 26))]] [[.sl, .int .i64]] [(false, [.int .i64])] 
            (.again 2 [(.int .i64 (.op .add .i64 (.var 23) (.lit 1))), (.int .u8 (.var 24)), (.val 32), (.int .i64 (.var 33)), (.int .i64 (.var 27)), (.int .i64 (.var 34)), (.int .i64 (.var 29)), (.int .i64 (.var 30)), (.val 31)]))
            (.ite (.cmp .eql (.byte (.var 22) (.var 23)) (.lit 66))
             (.call 48 [(.loc 1000000 0), (.int .i64 (.lit 4096))] [1000000] [[(.val 25), (.int .i64 (.var 26))]] [[.sl, .int .i64]] [(false, [.int .i64])] 
             (.again 2 [(.int .i64 (.op .add .i64 (.var 23) (.lit 1))), (.int .u8 (.var 24)), (.val 32), (.int .i64 (.var 33)), (.int .i64 (.var 27)), (.int .i64 (.var 28)), (.int .i64 (.var 34)), (.int .i64 (.var 30)), (.val 31)]))
             (.ite (.cmp .eql (.byte (.var 22) (.var 23)) (.lit 78))
              (.call 67 [(.loc 1000000 0)] [1000000] [[(.val 25), (.int .i64 (.var 26))]] [[.sl, .int .i64]] [(false, [.int .u64])] 
              (.call 71 [(.int .u64 (.var 34))] [] [] [] [(false, [.int .i64])] 
              (.again 2 [(.int .i64 (.op .add .i64 (.var 23) (.lit 1))), (.int .u8 (.var 24)), (.val 32), (.int .i64 (.var 33)), (.int .i64 (.var 27)), (.int .i64 (.var 28)), (.int .i64 (.var 29)), (.int .i64 (.var 35)), (.val 31)])))
              (.call 48 [(.loc 1000000 0), (.int .i64 (.lit 4))] [1000000] [[(.val 25), (.int .i64 (.var 26))]] [[.sl, .int .i64]] [(false, [.int .i64])] 
              (.loop 3 [(.int .i64 (.lit 0)), (.val 31), (.val 32), (.int .i64 (.var 33))] [.int .i64, .sl, .sl, .int .i64] 
               (.ite (.cmp .lss (.var 35) (.var 34))
                (.call 48 [(.loc 1000000 0), (.int .i64 (.lit 4096))] [1000000] [[(.val 37), (.int .i64 (.var 38))]] [[.sl, .int .i64]] [(false, [.int .i64])] 
                (.app 3 1 8 (.val 36) (.cells [(.int .i64 (.var 41))] 1) 
                (.again 3 [(.int .i64 (.op .add .i64 (.var 35) (.lit 1))), (.val 42), (.val 39), (.int .i64 (.var 40))])))
                (.again 2 [(.int .i64 (.op .add .i64 (.var 23) (.lit 1))), (.int .u8 (.var 24)), (.val 37), (.int .i64 (.var 38)), (.int .i64 (.var 27)), (.int .i64 (.var 28)), (.int .i64 (.var 29)), (.int .i64 (.var 30)), (.val 36)]))))))))))
         (.app 87 7 64 (.val 14) (.cells [(.int .u8 (.conv .u8 (.var 19))), (.int .u8 (.var 24)), (.int .i64 (.var 27)), (.int .i64 (.var 28)), (.int .i64 (.var 29)), (.int .i64 (.var 30)), (.val 31)] 1) 
         (.again 1 [(.int .i64 (.op .add .i64 (.var 13) (.lit 1))), (.val 32), (.val 25), (.int .i64 (.var 26))])))))))
      (.ite (.cmp .neq (.var 18) (.lit 0))
       (.call 48 [(.loc 1000000 0), (.int .i64 (.lit 256))] [1000000] [[(.val 17), (.int .i64 (.var 18))]] [[.sl, .int .i64]] [(false, [.int .i64])] 
       (.ite (.ite (.cmp .eql (.var 21) (.lit 0)) (.ite (.cmp .lss (.conv .u8 (.var 22)) (.lit 1)) (.tt true) (.cmp .gtr (.conv .u8 (.var 22)) (.lit 3))) (.tt false))
        (.call 70 [(.loc 1000000 0), (.int .i64 (.lit 20))] [1000000] [[(.val 20), (.int .i64 (.var 21))]] [[.sl, .int .i64]] [] 
        (.call 61 [(.agg [(.int .u8 (.conv .u8 (.var 22))), (.int .i64 (.lit 0)), (.int .i64 (.lit 0)), (.int .i64 (.lit 0))])] [] [] [] [(false, [.bool])] 
        (.ite (.var 25)
         (.call 48 [(.loc 1000000 0), (.int .i64 (.lit 4096))] [1000000] [[(.val 23), (.int .i64 (.var 24))]] [[.sl, .int .i64]] [(false, [.int .i64])] 
         (.ite (.cmp .neq (.conv .u8 (.var 22)) (.lit 3))
          (.call 48 [(.loc 1000000 0), (.int .i64 (.lit 4096))] [1000000] [[(.val 26), (.int .i64 (.var 27))]] [[.sl, .int .i64]] [(false, [.int .i64])] 
          (.ite (.cmp .eql (.conv .u8 (.var 22)) (.lit 2))
           (.call 48 [(.loc 1000000 0), (.int .i64 (.lit 4096))] [1000000] [[(.val 29), (.int .i64 (.var 30))]] [[.sl, .int .i64]] [(false, [.int .i64])] 
           (.app 83 5 56 (.val 6) (.cells [(.val 14), (.int .u8 (.conv .u8 (.var 22))), (.int .i64 (.var 28)), (.int .i64 (.var 31)), (.int .i64 (.var 34))] 1) 
           (.again 0 [(.val 35), (.int .i64 (.op .add .i64 (.var 7) (.lit 1))), (.val 32), (.int .i64 (.var 33))])))
           (.app 83 5 56 (.val 6) (.cells [(.val 14), (.int .u8 (.conv .u8 (.var 22))), (.int .i64 (.var 28)), (.int .i64 (.var 31)), (.int .i64 (.lit 0))] 1) 
           (.again 0 [(.val 32), (.int .i64 (.op .add .i64 (.var 7) (.lit 1))), (.val 29), (.int .i64 (.var 30))]))))
          (.ite (.cmp .eql (.conv .u8 (.var 22)) (.lit 2))
           (.call 48 [(.loc 1000000 0), (.int .i64 (.lit 4096))] [1000000] [[(.val 26), (.int .i64 (.var 27))]] [[.sl, .int .i64]] [(false, [.int .i64])] 
           (.app 83 5 56 (.val 6) (.cells [(.val 14), (.int .u8 (.conv .u8 (.var 22))), (.int .i64 (.var 28)), (.int .i64 (.lit 0)), (.int .i64 (.var 31))] 1) 
           (.again 0 [(.val 32), (.int .i64 (.op .add .i64 (.var 7) (.lit 1))), (.val 29), (.int .i64 (.var 30))])))
           (.app 83 5 56 (.val 6) (.cells [(.val 14), (.int .u8 (.conv .u8 (.var 22))), (.int .i64 (.var 28)), (.int .i64 (.lit 0)), (.int .i64 (.lit 0))] 1) 
           (.again 0 [(.val 29), (.int .i64 (.op .add .i64 (.var 7) (.lit 1))), (.val 26), (.int .i64 (.var 27))])))))
         (.ite (.cmp .neq (.conv .u8 (.var 22)) (.lit 3))
          (.call 48 [(.loc 1000000 0), (.int .i64 (.lit 4096))] [1000000] [[(.val 23), (.int .i64 (.var 24))]] [[.sl, .int .i64]] [(false, [.int .i64])] 
          (.ite (.cmp .eql (.conv .u8 (.var 22)) (.lit 2))
           (.call 48 [(.loc 1000000 0), (.int .i64 (.lit 4096))] [1000000] [[(.val 26), (.int .i64 (.var 27))]] [[.sl, .int .i64]] [(false, [.int .i64])] 
           (.app 83 5 56 (.val 6) (.cells [(.val 14), (.int .u8 (.conv .u8 (.var 22))), (.int .i64 (.lit 0)), (.int .i64 (.var 28)), (.int .i64 (.var 31))] 1) 
           (.again 0 [(.val 32), (.int .i64 (.op .add .i64 (.var 7) (.lit 1))), (.val 29), (.int .i64 (.var 30))])))
           (.app 83 5 56 (.val 6) (.cells [(.val 14), (.int .u8 (.conv .u8 (.var 22))), (.int .i64 (.lit 0)), (.int .i64 (.var 28)), (.int .i64 (.lit 0))] 1) 
           (.again 0 [(.val 29), (.int .i64 (.op .add .i64 (.var 7) (.lit 1))), (.val 26), (.int .i64 (.var 27))]))))
          (.ite (.cmp .eql (.conv .u8 (.var 22)) (.lit 2))
           (.call 48 [(.loc 1000000 0), (.int .i64 (.lit 4096))] [1000000] [[(.val 23), (.int .i64 (.var 24))]] [[.sl, .int .i64]] [(false, [.int .i64])] 
           (.app 83 5 56 (.val 6) (.cells [(.val 14), (.int .u8 (.conv .u8 (.var 22))), (.int .i64 (.lit 0)), (.int .i64 (.lit 0)), (.int .i64 (.var 28))] 1) 
           (.again 0 [(.val 29), (.int .i64 (.op .add .i64 (.var 7) (.lit 1))), (.val 26), (.int .i64 (.var 27))])))
           (.app 83 5 56 (.val 6) (.cells [(.val 14), (.int .u8 (.conv .u8 (.var 22))), (.int .i64 (.lit 0)), (.int .i64 (.lit 0)), (.int .i64 (.lit 0))] 1) 
           (.again 0 [(.val 26), (.int .i64 (.op .add .i64 (.var 7) (.lit 1))), (.val 23), (.int .i64 (.var 24))])))))))
        (.call 61 [(.agg [(.int .u8 (.conv .u8 (.var 22))), (.int .i64 (.lit 0)), (.int .i64 (.lit 0)), (.int .i64 (.lit 0))])] [] [] [] [(false, [.bool])] 
        (.ite (.var 23)
         (.call 48 [(.loc 1000000 0), (.int .i64 (.lit 4096))] [1000000] [[(.val 20), (.int .i64 (.var 21))]] [[.sl, .int .i64]] [(false, [.int .i64])] 
         (.ite (.cmp .neq (.conv .u8 (.var 22)) (.lit 3))
          (.call 48 [(.loc 1000000 0), (.int .i64 (.lit 4096))] [1000000] [[(.val 24), (.int .i64 (.var 25))]] [[.sl, .int .i64]] [(false, [.int .i64])] 
          (.ite (.cmp .eql (.conv .u8 (.var 22)) (.lit 2))
           (.call 48 [(.loc 1000000 0), (.int .i64 (.lit 4096))] [1000000] [[(.val 27), (.int .i64 (.var 28))]] [[.sl, .int .i64]] [(false, [.int .i64])] 
           (.app 83 5 56 (.val 6) (.cells [(.val 14), (.int .u8 (.conv .u8 (.var 22))), (.int .i64 (.var 26)), (.int .i64 (.var 29)), (.int .i64 (.var 32))] 1) 
           (.again 0 [(.val 33), (.int .i64 (.op .add .i64 (.var 7) (.lit 1))), (.val 30), (.int .i64 (.var 31))])))
           (.app 83 5 56 (.val 6) (.cells [(.val 14), (.int .u8 (.conv .u8 (.var 22))), (.int .i64 (.var 26)), (.int .i64 (.var 29)), (.int .i64 (.lit 0))] 1) 
           (.again 0 [(.val 30), (.int .i64 (.op .add .i64 (.var 7) (.lit 1))), (.val 27), (.int .i64 (.var 28))]))))
          (.ite (.cmp .eql (.conv .u8 (.var 22)) (.lit 2))
           (.call 48 [(.loc 1000000 0), (.int .i64 (.lit 4096))] [1000000] [[(.val 24), (.int .i64 (.var 25))]] [[.sl, .int .i64]] [(false, [.int .i64])] 
           (.app 83 5 56 (.val 6) (.cells [(.val 14), (.int .u8 (.conv .u8 (.var 22))), (.int .i64 (.var 26)), (.int .i64 (.lit 0)), (.int .i64 (.var 29))] 1) 
           (.again 0 [(.val 30), (.int .i64 (.op .add .i64 (.var 7) (.lit 1))), (.val 27), (.int .i64 (.var 28))])))
           (.app 83 5 56 (.val 6) (.cells [(.val 14), (.int .u8 (.conv .u8 (.var 22))), (.int .i64 (.var 26)), (.int .i64 (.lit 0)), (.int .i64 (.lit 0))] 1) 
           (.again 0 [(.val 27), (.int .i64 (.op .add .i64 (.var 7) (.lit 1))), (.val 24), (.int .i64 (.var 25))])))))
         (.ite (.cmp .neq (.conv .u8 (.var 22)) (.lit 3))
          (.call 48 [(.loc 1000000 0), (.int .i64 (.lit 4096))] [1000000] [[(.val 20), (.int .i64 (.var 21))]] [[.sl, .int .i64]] [(false, [.int .i64])] 
          (.ite (.cmp .eql (.conv .u8 (.var 22)) (.lit 2))
           (.call 48 [(.loc 1000000 0), (.int .i64 (.lit 4096))] [1000000] [[(.val 24), (.int .i64 (.var 25))]] [[.sl, .int .i64]] [(false, [.int .i64])] 
           (.app 83 5 56 (.val 6) (.cells [(.val 14), (.int .u8 (.conv .u8 (.var 22))), (.int .i64 (.lit 0)), (.int .i64 (.var 26)), (.int .i64 (.var 29))] 1) 
           (.again 0 [(.val 30), (.int .i64 (.op .add .i64 (.var 7) (.lit 1))), (.val 27), (.int .i64 (.var 28))])))
           (.app 83 5 56 (.val 6) (.cells [(.val 14), (.int .u8 (.conv .u8 (.var 22))), (.int .i64 (.lit 0)), (.int .i64 (.var 26)), (.int .i64 (.lit 0))] 1) 
           (.again 0 [(.val 27), (.int .i64 (.op .add .i64 (.var 7) (.lit 1))), (.val 24), (.int .i64 (.var 25))]))))
          (.ite (.cmp .eql (.conv .u8 (.var 22)) (.lit 2))
           (.call 48 [(.loc 1000000 0), (.int .i64 (.lit 4096))] [1000000] [[(.val 20), (.int .i64 (.var 21))]] [[.sl, .int .i64]] [(false, [.int .i64])] 
           (.app 83 5 56 (.val 6) (.cells [(.val 14), (.int .u8 (.conv .u8 (.var 22))), (.int .i64 (.lit 0)), (.int .i64 (.lit 0)), (.int .i64 (.var 26))] 1) 
           (.again 0 [(.val 27), (.int .i64 (.op .add .i64 (.var 7) (.lit 1))), (.val 24), (.int .i64 (.var 25))])))
           (.app 83 5 56 (.val 6) (.cells [(.val 14), (.int .u8 (.conv .u8 (.var 22))), (.int .i64 (.lit 0)), (.int .i64 (.lit 0)), (.int .i64 (.lit 0))] 1) 
           (.again 0 [(.val 24), (.int .i64 (.op .add .i64 (.var 7) (.lit 1))), (.val 20), (.int .i64 (.var 21))]))))))))
       (.call 59 [(.int .u8 (.conv .u8 (.var 19)))] [] [] [] [(false, [.str])] 
       (.loop 2 [(.int .i64 (.lit 0)), (.int .u8 (.lit 0)), (.val 17), (.int .i64 (.var 18)), (.int .i64 (.lit 0)), (.int .i64 (.lit 0)), (.int .i64 (.lit 0)), (.int .i64 (.lit 0)), (.cst (.slice none 0 0))] [.int .i64, .int .u8, .sl, .int .i64, .int .i64, .int .i64, .int .i64, .int .i64, .sl] 
        (.ite (.cmp .lss (.var 21) (.slen (.var 20)))
         (.need (.tt true) [(.cmp .geq (.var 21) (.lit 0)), (.cmp .lss (.var 21) (.slen (.var 20)))] 
         (.ite (.cmp .eql (.byte (.var 20) (.var 21)) (.lit 79))
          (.call 48 [(.loc 1000000 0), (.int .i64 (.lit 256))] [1000000] [[(.val 23), (.int .i64 (.var 24))]] [[.sl, .int .i64]] [(false, [.int .i64])] 
          (.again 2 [(.int .i64 (.op .add .i64 (.var 21) (.lit 1))), (.int .u8 (.conv .u8 (.var 32))), (.val 30), (.int .i64 (.var 31)), (.int .i64 (.var 25)), (.int .i64 (.var 26)), (.int .i64 (.var 27)), (.int .i64 (.var 28)), (.val 29)]))
          (.ite (.cmp .eql (.byte (.var 20) (.var 21)) (.lit 68))
           (.call 48 [(.loc 1000000 0), (.int .i64 (.lit 4096))] [1000000] [[(.val 23), (.int .i64 (.var 24))]] [[.sl, .int .i64]] [(false, [.int .i64])] 
           (.again 2 [(.int .i64 (.op .add .i64 (.var 21) (.lit 1))), (.int .u8 (.var 22)), (.val 30), (.int .i64 (.var 31)), (.int .i64 (.var 32)), (.int .i64 (.var 26)), (.int .i64 (.var 27)), (.int .i64 (.var 28)), (.val 29)]))
           (.ite (.cmp .eql (.byte (.var 20) (.var 21)) (.lit 65))
            (.call 48 [(.loc 1000000 0), (.int .i64 (.lit 4096))] [1000000] [[(.val 23), (.int .i64 (.var 24))]] [[.sl, .int .i64]] [(false, [.int .i64])] 
            (.again 2 [(.int .i64 (.op .add .i64 (.var 21) (.lit 1))), (.int .u8 (.var 22)), (.val 30), (.int .i64 (.var 31)), (.int .i64 (.var 25)), (.int .i64 (.var 32)), (.int .i64 (.var 27)), (.int .i64 (.var 28)), (.val 29)]))
            (.ite (.cmp .eql (.byte (.var 20) (.var 21)) (.lit 66))
             (.call 48 [(.loc 1000000 0), (.int .i64 (.lit 4096))] [1000000] [[(.val 23), (.int .i64 (.var 24))]] [[.sl, .int .i64]] [(false, [.int .i64])] 
             (.again 2 [(.int .i64 (.op .add .i64 (.var 21) (.lit 1))), (.int .u8 (.var 22)), (.val 30), (.int .i64 (.var 31)), (.int .i64 (.var 25)), (.int .i64 (.var 26)), (.int .i64 (.var 32)), (.int .i64 (.var 28)), (.val 29)]))
             (.ite (.cmp .eql (.byte (.var 20) (.var 21)) (.lit 78))
              (.call 67 [(.loc 1000000 0)] [1000000] [[(.val 23), (.int .i64 (.var 24))]] [[.sl, .int .i64]] [(false, [.int .u64])] 
              (.call 71 [(.int .u64 (.var 32))] [] [] [] [(false, [.int .i64])] 
              (.again 2 [(.int .i64 (.op .add .i64 (.var 21) (.lit 1))), (.int .u8 (.var 22)), (.val 30), (.int .i64 (.var 31)), (.int .i64 (.var 25)), (.int .i64 (.var 26)), (.int .i64 (.var 27)), (.int .i64 (.var 33)), (.val 29)])))
              (.call 48 [(.loc 1000000 0), (.int .i64 (.lit 4))] [1000000] [[(.val 23), (.int .i64 (.var 24))]] [[.sl, .int .i64]] [(false, [.int .i64])] 
              (.loop 3 [(.int .i64 (.lit 0)), (.val 29), (.val 30), (.int .i64 (.var 31))] [.int .i64, .sl, .sl, .int .i64] 
               (.ite (.cmp .lss (.var 33) (.var 32))
                (.call 48 [(.loc 1000000 0), (.int .i64 (.lit 4096))] [1000000] [[(.val 35), (.int .i64 (.var 36))]] [[.sl, .int .i64]] [(false, [.int .i64])] 
                (.app 3 1 8 (.val 34) (.cells [(.int .i64 (.var 39))] 1) 
                (.again 3 [(.int .i64 (.op .add .i64 (.var 33) (.lit 1))), (.val 40), (.val 37), (.int .i64 (.var 38))])))
                (.again 2 [(.int .i64 (.op .add .i64 (.var 21) (.lit 1))), (.int .u8 (.var 22)), (.val 35), (.int .i64 (.var 36)), (.int .i64 (.var 25)), (.int .i64 (.var 26)), (.int .i64 (.var 27)), (.int .i64 (.var 28)), (.val 34)]))))))))))
         (.app 87 7 64 (.val 14) (.cells [(.int .u8 (.conv .u8 (.var 19))), (.int .u8 (.var 22)), (.int .i64 (.var 25)), (.int .i64 (.var 26)), (.int .i64 (.var 27)), (.int .i64 (.var 28)), (.val 29)] 1) 
         (.again 1 [(.int .i64 (.op .add .i64 (.var 13) (.lit 1))), (.val 30), (.val 23), (.int .i64 (.var 24))]))))))))
     (.call 48 [(.loc 1000000 0), (.int .i64 (.lit 256))] [1000000] [[(.val 15), (.int .i64 (.var 16))]] [[.sl, .int .i64]] [(false, [.int .i64])] 
     (.ite (.ite (.cmp .eql (.var 18) (.lit 0)) (.ite (.cmp .lss (.conv .u8 (.var 19)) (.lit 1)) (.tt true) (.cmp .gtr (.conv .u8 (.var 19)) (.lit 3))) (.tt false))
      (.call 70 [(.loc 1000000 0), (.int .i64 (.lit 20))] [1000000] [[(.val 17), (.int .i64 (.var 18))]] [[.sl, .int .i64]] [] 
      (.call 61 [(.agg [(.int .u8 (.conv .u8 (.var 19))), (.int .i64 (.lit 0)), (.int .i64 (.lit 0)), (.int .i64 (.lit 0))])] [] [] [] [(false, [.bool])] 
      (.ite (.var 22)
       (.call 48 [(.loc 1000000 0), (.int .i64 (.lit 4096))] [1000000] [[(.val 20), (.int .i64 (.var 21))]] [[.sl, .int .i64]] [(false, [.int .i64])] 
       (.ite (.cmp .neq (.conv .u8 (.var 19)) (.lit 3))
        (.call 48 [(.loc 1000000 0), (.int .i64 (.lit 4096))] [1000000] [[(.val 23), (.int .i64 (.var 24))]] [[.sl, .int .i64]] [(false, [.int .i64])] 
        (.ite (.cmp .eql (.conv .u8 (.var 19)) (.lit 2))
         (.call 48 [(.loc 1000000 0), (.int .i64 (.lit 4096))] [1000000] [[(.val 26), (.int .i64 (.var 27))]] [[.sl, .int .i64]] [(false, [.int .i64])] 
         (.app 83 5 56 (.val 6) (.cells [(.val 14), (.int .u8 (.conv .u8 (.var 19))), (.int .i64 (.var 25)), (.int .i64 (.var 28)), (.int .i64 (.var 31))] 1) 
         (.again 0 [(.val 32), (.int .i64 (.op .add .i64 (.var 7) (.lit 1))), (.val 29), (.int .i64 (.var 30))])))
         (.app 83 5 56 (.val 6) (.cells [(.val 14), (.int .u8 (.conv .u8 (.var 19))), (.int .i64 (.var 25)), (.int .i64 (.var 28)), (.int .i64 (.lit 0))] 1) 
         (.again 0 [(.val 29), (.int .i64 (.op .add .i64 (.var 7) (.lit 1))), (.val 26), (.int .i64 (.var 27))]))))
        (.ite (.cmp .eql (.conv .u8 (.var 19)) (.lit 2))
         (.call 48 [(.loc 1000000 0), (.int .i64 (.lit 4096))] [1000000] [[(.val 23), (.int .i64 (.var 24))]] [[.sl, .int .i64]] [(false, [.int .i64])] 
         (.app 83 5 56 (.val 6) (.cells [(.val 14), (.int .u8 (.conv .u8 (.var 19))), (.int .i64 (.var 25)), (.int .i64 (.lit 0)), (.int .i64 (.var 28))] 1) 
         (.again 0 [(.val 29), (.int .i64 (.op .add .i64 (.var 7) (.lit 1))), (.val 26), (.int .i64 (.var 27))])))
         (.app 83 5 56 (.val 6) (.cells [(.val 14), (.int .u8 (.conv .u8 (.var 19))), (.int .i64 (.var 25)), (.int .i64 (.lit 0)), (.int .i64 (.lit 0))] 1) 
         (.again 0 [(.val 26), (.int .i64 (.op .add .i64 (.var 7) (.lit 1))), (.val 23), (.int .i64 (.var 24))])))))
       (.ite (.cmp .neq (.conv .u8 (.var 19)) (.lit 3))
        (.call 48 [(.loc 1000000 0), (.int .i64 (.lit 4096))] [1000000] [[(.val 20), (.int .i64 (.var 21))]] [[.sl, .int .i64]] [(false, [.int .i64])] 
        (.ite (.cmp .eql (.conv .u8 (.var 19)) (.lit 2))
         (.call 48 [(.loc 1000000 0), (.int .i64 (.lit 4096))] [1000000] [[(.val 23), (.int .i64 (.var 24))]] [[.sl, .int .i64]] [(false, [.int .i64])] 
         (.app 83 5 56 (.val 6) (.cells [(.val 14), (.int .u8 (.conv .u8 (.var 19))), (.int .i64 (.lit 0)), (.int .i64 (.var 25)), (.int .i64 (.var 28))] 1) 
         (.again 0 [(.val 29), (.int .i64 (.op .add .i64 (.var 7) (.lit 1))), (.val 26), (.int .i64 (.var 27))])))
         (.app 83 5 56 (.val 6) (.cells [(.val 14), (.int .u8 (.conv .u8 (.var 19))), (.int .i64 (.lit 0)), (.int .i64 (.var 25)), (.int .i64 (.lit 0))] 1) 
         (.again 0 [(.val 26), (.int .i64 (.op .add .i64 (.var 7) (.lit 1))), (.val 23), (.int .i64 (.var 24))]))))
        (.ite (.cmp .eql (.conv .u8 (.var 19)) (.lit 2))
         (.call 48 [(.loc 1000000 0), (.int .i64 (.lit 4096))] [1000000] [[(.val 20), (.int .i64 (.var 21))]] [[.sl, .int .i64]] [(false, [.int .i64])] 
         (.app 83 5 56 (.val 6) (.cells [(.val 14), (.int .u8 (.conv .u8 (.var 19))), (.int .i64 (.lit 0)), (.int .i64 (.lit 0)), (.int .i64 (.var 25))] 1) 
         (.again 0 [(.val 26), (.int .i64 (.op .add .i64 (.var 7) (.lit 1))), (.val 23), (.int .i64 (.var 24))])))
         (.app 83 5 56 (.val 6) (.cells [(.val 14), (.int .u8 (.conv .u8 (.var 19))), (.int .i64 (.lit 0)), (.int .i64 (.lit 0)), (.int .i64 (.lit 0))] 1) 
         (.again 0 [(.val 23), (.int .i64 (.op .add .i64 (.var 7) (.lit 1))), (.val 20), (.int .i64 (.var 21))])))))))
      (.call 61 [(.agg [(.int .u8 (.conv .u8 (.var 19))), (.int .i64 (.lit 0)), (.int .i64 (.lit 0)), (.int .i64 (.lit 0))])] [] [] [] [(false, [.bool])] 
      (.ite (.var 20)
       (.call 48 [(.loc 1000000 0), (.int .i64 (.lit 4096))] [1000000] [[(.val 17), (.int .i64 (.var 18))]] [[.sl, .int .i64]] [(false, [.int .i64])] 
       (.ite (.cmp .neq (.conv .u8 (.var 19)) (.lit 3))
        (.call 48 [(.loc 1000000 0), (.int .i64 (.lit 4096))] [1000000] [[(.val 21), (.int .i64 (.var 22))]] [[.sl, .int .i64]] [(false, [.int .i64])] 
        (.ite (.cmp .eql (.conv .u8 (.var 19)) (.lit 2))
         (.call 48 [(.loc 1000000 0), (.int .i64 (.lit 4096))] [1000000] [[(.val 24), (.int .i64 (.var 25))]] [[.sl, .int .i64]] [(false, [.int .i64])] 
         (.app 83 5 56 (.val 6) (.cells [(.val 14), (.int .u8 (.conv .u8 (.var 19))), (.int .i64 (.var 23)), (.int .i64 (.var 26)), (.int .i64 (.var 29))] 1) 
         (.again 0 [(.val 30), (.int .i64 (.op .add .i64 (.var 7) (.lit 1))), (.val 27), (.int .i64 (.var 28))])))
         (.app 83 5 56 (.val 6) (.cells [(.val 14), (.int .u8 (.conv .u8 (.var 19))), (.int .i64 (.var 23)), (.int .i64 (.var 26)), (.int .i64 (.lit 0))] 1) 
         (.again 0 [(.val 27), (.int .i64 (.op .add .i64 (.var 7) (.lit 1))), (.val 24), (.int .i64 (.var 25))]))))
        (.ite (.cmp .eql (.conv .u8 (.var 19)) (.lit 2))
         (.call 48 [(.loc 1000000 0), (.int .i64 (.lit 4096))] [1000000] [[(.val 21), (.int .i64 (.var 22))]] [[.sl, .int .i64]] [(false, [.int .i64])] 
         (.app 83 5 56 (.val 6) (.cells [(.val 14), (.int .u8 (.conv .u8 (.var 19))), (.int .i64 (.var 23)), (.int .i64 (.lit 0)), (.int .i64 (.var 26))] 1) 
         (.again 0 [(.val 27), (.int .i64 (.op .add .i64 (.var 7) (.lit 1))), (.val 24), (.int .i64 (.var 25))])))
         (.app 83 5 56 (.val 6) (.cells [(.val 14), (.int .u8 (.conv .u8 (.var 19))), (.int .i64 (.var 23)), (.int .i64 (.lit 0)), (.int .i64 (.lit 0))] 1) 
         (.again 0 [(.val 24), (.int .i64 (.op .add .i64 (.var 7) (.lit 1))), (.val 21), (.int .i64 (.var 22))])))))
       (.ite (.cmp .neq (.conv .u8 (.var 19)) (.lit 3))
        (.call 48 [(.loc 1000000 0), (.int .i64 (.lit 4096))] [1000000] [[(.val 17), (.int .i64 (.var 18))]] [[.sl, .int .i64]] [(false, [.int .i64])] 
        (.ite (.cmp .eql (.conv .u8 (.var 19)) (.lit 2))
         (.call 48 [(.loc 1000000 0), (.int .i64 (.lit 4096))] [1000000] [[(.val 21), (.int .i64 (.var 22))]] [[.sl, .int .i64]] [(false, [.int .i64])] 
         (.app 83 5 56 (.val 6) (.cells [(.val 14), (.int .u8 (.conv .u8 (.var 19))), (.int .i64 (.lit 0)), (.int .i64 (.var 23)), (.int .i64 (.var 26))] 1) 
         (.again 0 [(.val 27), (.int .i64 (.op .add .i64 (.var 7) (.lit 1))), (.val 24), (.int .i64 (.var 25))])))
         (.app 83 5 56 (.val 6) (.cells [(.val 14), (.int .u8 (.conv .u8 (.var 19))), (.int .i64 (.lit 0)), (.int .i64 (.var 23)), (.int .i64 (.lit 0))] 1) 
         (.again 0 [(.val 24), (.int .i64 (.op .add .i64 (.var 7) (.lit 1))), (.val 21), (.int .i64 (.var 22))]))))
        (.ite (.cmp .eql (.conv .u8 (.var 19)) (.lit 2))
         (.call 48 [(.loc 1000000 0), (.int .i64 (.lit 4096))] [1000000] [[(.val 17), (.int .i64 (.var 18))]] [[.sl, .int .i64]] [(false, [.int .i64])] 
         (.app 83 5 56 (.val 6) (.cells [(.val 14), (.int .u8 (.conv .u8 (.var 19))), (.int .i64 (.lit 0)), (.int .i64 (.lit 0)), (.int .i64 (.var 23))] 1) 
         (.again 0 [(.val 24), (.int .i64 (.op .add .i64 (.var 7) (.lit 1))), (.val 21), (.int .i64 (.var 22))])))
         (.app 83 5 56 (.val 6) (.cells [(.val 14), (.int .u8 (.conv .u8 (.var 19))), (.int .i64 (.lit 0)), (.int .i64 (.lit 0)), (.int .i64 (.lit 0))] 1) 
         (.again 0 [(.val 21), (.int .i64 (.op .add .i64 (.var 7) (.lit 1))), (.val 17), (.int .i64 (.var 18))])))))))))))
   (.done (.val 6) [[(.val 8), (.int .i64 (.var 9))]]))))
def l52k : List (Nat × List Nat × List (Nat × Nat) × List Nat) := [(4, [5, 7], [(1000000, 0), (1000000, 1)], [18, 19, 20, 21, 22, 23, 24, 25, 26, 27, 8, 30, 31, 32, 33, 9, 10, 34, 35, 36, 37, 38, 39, 40, 41, 42, 43, 46, 47, 48, 49, 11, 50, 51, 52, 53, 54, 55, 56, 57, 58, 59, 60, 61, 62, 63, 64, 65, 66, 67, 68, 69, 70, 71, 72, 73, 74, 12, 13, 75, 76, 77, 78, 81, 82, 83, 99, 98, 100, 101, 102, 103, 105, 104, 106, 107, 108, 110, 109, 111, 112, 113, 115, 114, 116, 117, 118, 120, 119, 121, 122, 123, 124, 84, 85, 14, 15, 86, 87, 88, 91, 92, 93, 94, 95, 96, 97, 89, 90, 79, 80, 125, 126, 127, 128, 129, 130, 44, 45, 131, 132, 133, 134, 135, 136, 137, 138, 139, 140, 141, 142, 143, 144, 145, 146, 147, 148, 149, 150, 151, 152, 153, 154, 155, 156, 157, 158, 159, 160, 161, 162, 163, 164, 165, 166, 167, 168, 169, 170, 171, 172, 173, 174, 175, 176, 177, 178, 179, 180, 181, 28, 29]), (9, [10], [(8, 0), (1000000, 0), (1000000, 1)], [34, 35, 36, 37, 38, 39, 40, 41, 42, 43, 46, 47, 48, 49, 11, 50, 51, 52, 53, 54, 55, 56, 57, 58, 59, 60, 61, 62, 63, 64, 65, 66, 67, 68, 69, 70, 71, 72, 73, 74, 12, 13, 75, 76, 77, 78, 81, 82, 83, 99, 98, 100, 101, 102, 103, 105, 104, 106, 107, 108, 110, 109, 111, 112, 113, 115, 114, 116, 117, 118, 120, 119, 121, 122, 123, 124, 84, 85, 14, 15, 86, 87, 88, 91, 92, 93, 94, 95, 96, 97, 89, 90, 79, 80, 125, 126, 127, 128, 129, 130, 44, 45]), (17, [13], [(11, 1), (1000000, 0), (1000000, 1), (11, 2), (11, 3), (11, 4), (11, 5), (11, 6)], [75, 76, 77, 78, 81, 82, 83, 99, 98, 100, 101, 102, 103, 105, 104, 106, 107, 108, 110, 109, 111, 112, 113, 115, 114, 116, 117, 118, 120, 119, 121, 122, 123, 124, 84, 85, 14, 15, 86, 87, 88, 91, 92, 93, 94, 95, 96, 97, 89, 90, 79, 80]), (22, [15], [(11, 6), (1000000, 0), (1000000, 1)], [86, 87, 88, 91, 92, 93, 94, 95, 96, 97, 89, 90])]
theorem e52k : ev Try.prog ⟨allF, [], l52k⟩ (bodyOf Try.f52) 0 (initSt [(.loc 1000000 0), (.int .i64 (.var 2))] [[(.val 0), (.int .i64 (.var 1))]] Try.f52.ntmps [.sl, .int .i64, .int .i64]) (finK Try.prog Try.f52.results [2]) = t52k := by kernel_rfl
theorem c52k {G : List Value} {h : H} {R : Value → List (List Value) → H → Prop} (hG : FitsL [.sl, .int .i64, .int .i64] G) (H : holds Try.prog R t52k G [] h) : CallsA Try.prog 52 (fun e => SV.denL G (fun k => e (k - 1000000)) [(.loc 1000000 0), (.int .i64 (.var 2))]) ([[(.val 0), (.int .i64 (.var 1))]].map (SV.denL G dE)) h R :=
  CallsA.of_ev (cf := ⟨allF, [], l52k⟩) (fn := Try.f52) (c := bodyOf Try.f52) (pcs := [[(.val 0), (.int .i64 (.var 1))]]) Try.func52 (by rfl) callOK (by rfl) hG (by rfl) (by rw [show ([[(.val 0), (.int .i64 (.var 1))]] : List (List SV)).map List.length = [2] from rfl, e52k]; exact H)
/-- What is left of outworker/outworkerref04.ReadFunc. -/
def t29 : Out :=
 (.call 48 [(.loc 9 0), (.int .i64 (.lit 4096))] [9] [[(.val 0), (.int .i64 (.lit 0))]] [[.sl, .int .i64]] [(false, [.int .i64])] 
 (.call 48 [(.loc 9 0), (.int .i64 (.lit 4096))] [9] [[(.val 1), (.int .i64 (.var 2))]] [[.sl, .int .i64]] [(false, [.int .i64])] 
 (.call 52 [(.loc 9 0), (.int .i64 (.lit 32))] [9] [[(.val 4), (.int .i64 (.var 5))]] [[.sl, .int .i64]] [(false, [.sl])] 
 (.call 49 [(.loc 9 0)] [9] [[(.val 7), (.int .i64 (.var 8))]] [[.sl, .int .i64]] [(false, [.int .i64])] 
 (.ite (.cmp .neq (.var 12) (.lit 0))
  (.done (.tup [(.agg [(.int .i64 (.lit 0)), (.int .i64 (.lit 0)), (.cst (.slice none 0 0))]), (.int .i64 (.var 12))]) [])
  (.call 15 [(.agg [(.int .i64 (.var 3)), (.int .i64 (.var 6)), (.val 9)])] [] [] [] [(true, [.int .i64, .int .i64, .int .i64])] 
  (.ite (.cmp .neq (.var 13) (.lit 0))
   (.done (.tup [(.agg [(.int .i64 (.lit 0)), (.int .i64 (.lit 0)), (.cst (.slice none 0 0))]), (.int .i64 (.lit 30))]) [])
   (.done (.tup [(.agg [(.int .i64 (.var 3)), (.int .i64 (.var 6)), (.val 9)]), (.int .i64 (.lit 0))]) []))))))))
def l29 : List (Nat × List Nat × List (Nat × Nat) × List Nat) := []
theorem e29 : ev Try.prog ⟨allF, [], l29⟩ (bodyOf Try.f29) 0 (initSt [(.val 0)] [] Try.f29.ntmps [.sl]) (finK Try.prog Try.f29.results []) = t29 := by kernel_rfl
theorem c29 {G : List Value} {h : H} {R : Value → List (List Value) → H → Prop} (hG : FitsL [.sl] G) (H : holds Try.prog R t29 G [] h) : CallsA Try.prog 29 (fun e => SV.denL G (fun k => e (k - 1000000)) [(.val 0)]) ([].map (SV.denL G dE)) h R :=
  CallsA.of_ev (cf := ⟨allF, [], l29⟩) (fn := Try.f29) (c := bodyOf Try.f29) (pcs := []) Try.func29 (by rfl) callOK (by rfl) hG (by rfl) (by rw [show ([] : List (List SV)).map List.length = [] from rfl, e29]; exact H)
/-- What is left of outworker/outworkerref04.ReadCode. -/
def t31 : Out :=
 (.call 48 [(.loc 9 0), (.int .i64 (.lit 4096))] [9] [[(.val 0), (.int .i64 (.lit 0))]] [[.sl, .int .i64]] [(false, [.int .i64])] 
 (.call 48 [(.loc 9 0), (.int .i64 (.lit 4096))] [9] [[(.val 1), (.int .i64 (.var 2))]] [[.sl, .int .i64]] [(false, [.int .i64])] 
 (.call 48 [(.loc 9 0), (.int .i64 (.lit 4096))] [9] [[(.val 4), (.int .i64 (.var 5))]] [[.sl, .int .i64]] [(false, [.int .i64])] 
 (.call 52 [(.loc 9 0), (.int .i64 (.lit 400))] [9] [[(.val 7), (.int .i64 (.var 8))]] [[.sl, .int .i64]] [(false, [.sl])] 
 (.call 49 [(.loc 9 0)] [9] [[(.val 10), (.int .i64 (.var 11))]] [[.sl, .int .i64]] [(false, [.int .i64])] 
 (.ite (.cmp .neq (.var 15) (.lit 0))
  (.done (.tup [(.agg [(.int .i64 (.lit 0)), (.int .i64 (.lit 0)), (.int .i64 (.lit 0)), (.cst (.slice none 0 0))]), (.int .i64 (.var 15))]) [])
  (.call 20 [(.agg [(.int .i64 (.var 3)), (.int .i64 (.var 6)), (.int .i64 (.var 9)), (.val 12)])] [] [] [] [(true, [.int .i64, .int .i64, .int .i64])] 
  (.ite (.cmp .neq (.var 16) (.lit 0))
   (.done (.tup [(.agg [(.int .i64 (.lit 0)), (.int .i64 (.lit 0)), (.int .i64 (.lit 0)), (.cst (.slice none 0 0))]), (.int .i64 (.lit 30))]) [])
   (.done (.tup [(.agg [(.int .i64 (.var 3)), (.int .i64 (.var 6)), (.int .i64 (.var 9)), (.val 12)]), (.int .i64 (.lit 0))]) [])))))))))
def l31 : List (Nat × List Nat × List (Nat × Nat) × List Nat) := []
theorem e31 : ev Try.prog ⟨allF, [], l31⟩ (bodyOf Try.f31) 0 (initSt [(.val 0)] [] Try.f31.ntmps [.sl]) (finK Try.prog Try.f31.results []) = t31 := by kernel_rfl
theorem c31 {G : List Value} {h : H} {R : Value → List (List Value) → H → Prop} (hG : FitsL [.sl] G) (H : holds Try.prog R t31 G [] h) : CallsA Try.prog 31 (fun e => SV.denL G (fun k => e (k - 1000000)) [(.val 0)]) ([].map (SV.denL G dE)) h R :=
  CallsA.of_ev (cf := ⟨allF, [], l31⟩) (fn := Try.f31) (c := bodyOf Try.f31) (pcs := []) Try.func31 (by rfl) callOK (by rfl) hG (by rfl) (by rw [show ([] : List (List SV)).map List.length = [] from rfl, e31]; exact H)
/-- What is left of outworker/outworkerref04.ReadCert. -/
def t26 : Out :=
 (.call 48 [(.loc 15 0), (.int .i64 (.lit 17))] [15] [[(.val 0), (.int .i64 (.lit 0))]] [[.sl, .int .i64]] [(false, [.int .i64])] 
 (.loop 0 [(.cst (.slice none 0 0)), (.int .i64 (.lit 0)), (.val 1), (.int .i64 (.var 2))] [.sl, .int .i64, .sl, .int .i64] 
  (.ite (.ite (.cmp .lss (.var 5) (.var 3)) (.cmp .eql (.var 7) (.lit 0)) (.tt false))
   (.call 48 [(.loc 15 0), (.int .i64 (.lit 65536))] [15] [[(.val 6), (.int .i64 (.var 7))]] [[.sl, .int .i64]] [(false, [.int .i64])] 
   (.loop 1 [(.cst (.slice none 0 0)), (.int .i64 (.lit 0)), (.val 8), (.int .i64 (.var 9))] [.sl, .int .i64, .sl, .int .i64] 
    (.ite (.ite (.cmp .lss (.var 12) (.var 10)) (.cmp .eql (.var 14) (.lit 0)) (.tt false))
     (.call 48 [(.loc 15 0), (.int .i64 (.lit 4096))] [15] [[(.val 13), (.int .i64 (.var 14))]] [[.sl, .int .i64]] [(false, [.int .i64])] 
     (.call 48 [(.loc 15 0), (.int .i64 (.lit 4096))] [15] [[(.val 15), (.int .i64 (.var 16))]] [[.sl, .int .i64]] [(false, [.int .i64])] 
     (.app 106 2 16 (.val 11) (.cells [(.int .i64 (.var 17)), (.int .i64 (.var 20))] 1) 
     (.again 1 [(.val 21), (.int .i64 (.op .add .i64 (.var 12) (.lit 1))), (.val 18), (.int .i64 (.var 19))]))))
     (.app 53 1 24 (.val 4) (.cells [(.val 11)] 1) 
     (.again 0 [(.val 15), (.int .i64 (.op .add .i64 (.var 5) (.lit 1))), (.val 13), (.int .i64 (.var 14))])))))
   (.call 49 [(.loc 15 0)] [15] [[(.val 6), (.int .i64 (.var 7))]] [[.sl, .int .i64]] [(false, [.int .i64])] 
   (.ite (.cmp .neq (.var 10) (.lit 0))
    (.done (.tup [(.cst (.slice none 0 0)), (.int .i64 (.var 10))]) [])
    (.done (.tup [(.val 4), (.int .i64 (.lit 0))]) []))))))
def l26 : List (Nat × List Nat × List (Nat × Nat) × List Nat) := [(5, [5, 7], [(15, 0), (15, 1)], [18, 19, 20, 21, 22, 23, 24, 25, 26, 27, 8, 30, 31, 9, 10, 32, 33, 34, 35, 36, 37, 38, 39, 40, 41, 44, 11, 45, 46, 47, 48, 49, 50, 51, 52, 53, 54, 42, 43, 55, 56, 57, 58, 28, 29]), (10, [8, 10], [(15, 0), (15, 1)], [32, 33, 34, 35, 36, 37, 38, 39, 40, 41, 44, 11, 45, 46, 47, 48, 49, 50, 51, 52, 53, 54, 42, 43])]
theorem e26 : ev Try.prog ⟨allF, [], l26⟩ (bodyOf Try.f26) 0 (initSt [(.val 0)] [] Try.f26.ntmps [.sl]) (finK Try.prog Try.f26.results []) = t26 := by kernel_rfl
theorem c26 {G : List Value} {h : H} {R : Value → List (List Value) → H → Prop} (hG : FitsL [.sl] G) (H : holds Try.prog R t26 G [] h) : CallsA Try.prog 26 (fun e => SV.denL G (fun k => e (k - 1000000)) [(.val 0)]) ([].map (SV.denL G dE)) h R :=
  CallsA.of_ev (cf := ⟨allF, [], l26⟩) (fn := Try.f26) (c := bodyOf Try.f26) (pcs := []) Try.func26 (by rfl) callOK (by rfl) hG (by rfl) (by rw [show ([] : List (List SV)).map List.length = [] from rfl, e26]; exact H)
end Go.Proofs.Ythnoplfjcdkacaa
