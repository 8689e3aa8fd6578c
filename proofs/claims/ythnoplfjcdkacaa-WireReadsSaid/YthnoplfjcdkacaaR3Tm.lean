/-
  What the evaluator leaves of the functions of this seat (trees, printed by a program of ours), and their contracts from it. Conditions: none.
-/
import Derived.Test.YthnoplfjcdkacaaR1Tr
set_option linter.unusedVariables false
set_option linter.unusedSimpArgs false
namespace Go.Proofs.Ythnoplfjcdkacaa
open Go

/-- What is left of outworker/outworkerlaw08.Turned. -/
def t24 : Out :=
 (.alloc 5 [] (.lsl 0) 
 (.app 5 1 1 (.val 3) (.sl (.val 0)) 
 (.loop 0 [(.val 4), (.int .i64 (.lit 0))] [.sl, .int .i64] 
  (.ite (.ite (.ite (.ite (.cmp .lss (.var 6) (.len 1)) (.cmp .lss (.var 6) (.len 2)) (.tt false)) (.cmp .lss (.var 6) (.lit 4)) (.tt false)) (.cmp .gtr (.len 5) (.lit 0)) (.tt false))
   (.need (.tt true) [(.cmp .geq (.var 6) (.lit 0)), (.cmp .lss (.var 6) (.len 1))] 
   (.load (.tt true) (.idx (.var 1) (.var 6) 1) [.int .i64] 
   (.need (.tt true) [(.cmp .neq (.conv .u64 (.len 5)) (.lit 0))] 
   (.need (.tt true) [(.cmp .geq (.var 6) (.lit 0)), (.cmp .lss (.var 6) (.len 2))] 
   (.load (.tt true) (.idx (.var 2) (.var 6) 1) [.int .u8] 
   (.ite (.cmp .eql (.op .rem .u8 (.var 8) (.lit 9)) (.lit 8))
    (.need (.tt true) [(.cmp .geq (.conv .i64 (.op .rem .u64 (.conv .u64 (.var 7)) (.conv .u64 (.len 5)))) (.lit 0)), (.cmp .leq (.conv .i64 (.op .rem .u64 (.conv .u64 (.var 7)) (.conv .u64 (.len 5)))) (.cap 5)), (.cmp .geq (.conv .i64 (.op .rem .u64 (.conv .u64 (.var 7)) (.conv .u64 (.len 5)))) (.lit 0)), (.cmp .leq (.conv .i64 (.op .rem .u64 (.conv .u64 (.var 7)) (.conv .u64 (.len 5)))) (.conv .i64 (.op .rem .u64 (.conv .u64 (.var 7)) (.conv .u64 (.len 5)))))] 
    (.bnd (.slice3 (.val 5) (.conv .i64 (.op .rem .u64 (.conv .u64 (.var 7)) (.conv .u64 (.len 5)))) (.conv .i64 (.op .rem .u64 (.conv .u64 (.var 7)) (.conv .u64 (.len 5))))) 
    (.need (.tt true) [(.cmp .geq (.op .add .i64 (.conv .i64 (.op .rem .u64 (.conv .u64 (.var 7)) (.conv .u64 (.len 5)))) (.lit 1)) (.lit 0)), (.cmp .leq (.op .add .i64 (.conv .i64 (.op .rem .u64 (.conv .u64 (.var 7)) (.conv .u64 (.len 5)))) (.lit 1)) (.len 5))] 
    (.bnd (.slice (.val 5) (some (.op .add .i64 (.conv .i64 (.op .rem .u64 (.conv .u64 (.var 7)) (.conv .u64 (.len 5)))) (.lit 1))) none 1) 
    (.app 5 1 1 (.val 9) (.sl (.val 10)) 
    (.again 0 [(.val 11), (.int .i64 (.op .add .i64 (.var 6) (.lit 1)))]))))))
    (.need (.tt true) [(.cmp .geq (.conv .i64 (.op .rem .u64 (.conv .u64 (.var 7)) (.conv .u64 (.len 5)))) (.lit 0)), (.cmp .lss (.conv .i64 (.op .rem .u64 (.conv .u64 (.var 7)) (.conv .u64 (.len 5)))) (.len 5))] 
    (.load (.tt true) (.idx (.var 5) (.conv .i64 (.op .rem .u64 (.conv .u64 (.var 7)) (.conv .u64 (.len 5)))) 1) [.int .u8] 
    (.need (.tt true) [(.cmp .geq (.var 6) (.lit 0)), (.cmp .lss (.var 6) (.len 2))] 
    (.load (.tt true) (.idx (.var 2) (.var 6) 1) [.int .u8] 
    (.need (.tt true) [(.cmp .geq (.op .rem .u8 (.var 10) (.lit 9)) (.lit 0))] 
    (.need (.tt true) [(.cmp .geq (.conv .i64 (.op .rem .u64 (.conv .u64 (.var 7)) (.conv .u64 (.len 5)))) (.lit 0)), (.cmp .lss (.conv .i64 (.op .rem .u64 (.conv .u64 (.var 7)) (.conv .u64 (.len 5)))) (.len 5))] 
    (.store (.idx (.var 5) (.conv .i64 (.op .rem .u64 (.conv .u64 (.var 7)) (.conv .u64 (.len 5)))) 1) [(.int .u8 (.op .xor .u8 (.var 9) (.op .shl .u8 (.lit 1) (.op .rem .u8 (.var 10) (.lit 9)))))] 
    (.again 0 [(.val 5), (.int .i64 (.op .add .i64 (.var 6) (.lit 1)))]))))))))))))))
   (.done (.val 5) [])))))
def l24 : List (Nat × List Nat × List (Nat × Nat) × List Nat) := [(3, [7, 8], [], [13, 14, 15, 16, 17, 18, 19, 20, 21, 22, 23, 24, 25, 26, 27, 28, 29, 30, 31, 34, 35, 36, 37, 38, 39, 40, 41, 42, 43, 9, 44, 45, 46, 47, 48, 49, 50, 51, 52, 53, 54, 55, 56, 57, 58, 59, 60, 61, 62, 63, 64, 65, 66, 67, 68, 69, 70, 32, 33])]
theorem e24 : ev Try.prog ⟨allF, [10], l24⟩ (bodyOf Try.f24) 0 (initSt [(.val 0), (.val 1), (.val 2)] [] Try.f24.ntmps [.sl, .sl, .sl]) (finK Try.prog Try.f24.results []) = t24 := by kernel_rfl
theorem c24 {G : List Value} {h : H} {R : Value → List (List Value) → H → Prop} (hG : FitsL [.sl, .sl, .sl] G) (H : holds Try.prog R t24 G [] h) : CallsA Try.prog 24 (fun e => SV.denL G (fun k => e (k - 1000000)) [(.val 0), (.val 1), (.val 2)]) ([].map (SV.denL G dE)) h R :=
  CallsA.of_ev (cf := ⟨allF, [10], l24⟩) (fn := Try.f24) (c := bodyOf Try.f24) (pcs := []) Try.func24 (by rfl) callOK (by rfl) hG (by rfl) (by rw [show ([] : List (List SV)).map List.length = [] from rfl, e24]; exact H)
end Go.Proofs.Ythnoplfjcdkacaa
