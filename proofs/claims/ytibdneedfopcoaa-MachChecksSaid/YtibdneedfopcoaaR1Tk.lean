/-
  What the evaluator leaves of the functions of this seat (trees, printed by a program of ours), and their contracts from it. Conditions: none.
-/
import Derived.Test.YtibdneedfopcoaaR1Tr
set_option linter.unusedVariables false
set_option linter.unusedSimpArgs false
namespace Go.Proofs.Ytibdneedfopcoaa
open Go

/-- What is left of (*outworker/outworkerlaw04.maker).next. -/
def t37k : Out :=
 (.ite (.cmp .eql (.len 0) (.lit 0))
  (.done (.int .i64 (.lit 0)) [[(.val 0)]])
  (.need (.tt true) [(.tt true), (.cmp .lss (.lit 0) (.len 0))] 
  (.load (.tt true) (.idx (.var 0) (.lit 0) 1) [.int .u8] 
  (.need (.tt true) [(.cmp .neq (.var 1) (.lit 0))] 
  (.need (.tt true) [(.tt true), (.cmp .leq (.lit 1) (.len 0))] 
  (.bnd (.slice (.val 0) (some (.lit 1)) none 1) 
  (.done (.int .i64 (.op .rem .i64 (.conv .i64 (.var 2)) (.var 1))) [[(.val 3)]])))))))
def l37k : List (Nat × List Nat × List (Nat × Nat) × List Nat) := []
theorem e37k : ev Try.prog ⟨allF, [], l37k⟩ (bodyOf Try.f37) 0 (initSt [(.loc 1000000 0), (.int .i64 (.var 1))] [[(.val 0)]] Try.f37.ntmps [.sl, .int .i64]) (finK Try.prog Try.f37.results [1]) = t37k := by kernel_rfl
theorem c37k {G : List Value} {h : H} {R : Value → List (List Value) → H → Prop} (hG : FitsL [.sl, .int .i64] G) (H : holds Try.prog R t37k G [] h) : CallsA Try.prog 37 (fun e => SV.denL G (fun k => e (k - 1000000)) [(.loc 1000000 0), (.int .i64 (.var 1))]) ([[(.val 0)]].map (SV.denL G dE)) h R :=
  CallsA.of_ev (cf := ⟨allF, [], l37k⟩) (fn := Try.f37) (c := bodyOf Try.f37) (pcs := [[(.val 0)]]) Try.func37 (by rfl) callOK (by rfl) hG (by rfl) (by rw [show ([[(.val 0)]] : List (List SV)).map List.length = [1] from rfl, e37k]; exact H)
/-- What is left of (*outworker/outworkerlaw04.maker).ins. -/
def t38k : Out :=
 (.call 37 [(.loc 1000000 0), (.int .i64 (.lit 9))] [1000000] [[(.val 0)]] [[.sl]] [(false, [.int .i64])] 
 (.ite (.cmp .eql (.conv .u8 (.op .add .i64 (.lit 1) (.var 3))) (.lit 1))
  (.call 37 [(.loc 1000000 0), (.int .i64 (.var 1))] [1000000] [[(.val 2)]] [[.sl]] [(false, [.int .i64])] 
  (.call 37 [(.loc 1000000 0), (.int .i64 (.lit 256))] [1000000] [[(.val 4)]] [[.sl]] [(false, [.int .i64])] 
  (.done (.agg [(.int .u8 (.conv .u8 (.op .add .i64 (.lit 1) (.var 3)))), (.int .u8 (.lit 0)), (.int .i64 (.var 5)), (.int .i64 (.lit 0)), (.int .i64 (.lit 0)), (.int .i64 (.op .sub .i64 (.var 7) (.lit 3))), (.cst (.slice none 0 0))]) [[(.val 6)]])))
  (.ite (.cmp .eql (.conv .u8 (.op .add .i64 (.lit 1) (.var 3))) (.lit 4))
   (.call 37 [(.loc 1000000 0), (.int .i64 (.var 1))] [1000000] [[(.val 2)]] [[.sl]] [(false, [.int .i64])] 
   (.call 37 [(.loc 1000000 0), (.int .i64 (.var 1))] [1000000] [[(.val 4)]] [[.sl]] [(false, [.int .i64])] 
   (.done (.agg [(.int .u8 (.conv .u8 (.op .add .i64 (.lit 1) (.var 3)))), (.int .u8 (.lit 0)), (.int .i64 (.var 5)), (.int .i64 (.var 7)), (.int .i64 (.lit 0)), (.int .i64 (.lit 0)), (.cst (.slice none 0 0))]) [[(.val 6)]])))
   (.ite (.cmp .eql (.conv .u8 (.op .add .i64 (.lit 1) (.var 3))) (.lit 5))
    (.call 37 [(.loc 1000000 0), (.int .i64 (.var 1))] [1000000] [[(.val 2)]] [[.sl]] [(false, [.int .i64])] 
    (.call 37 [(.loc 1000000 0), (.int .i64 (.var 1))] [1000000] [[(.val 4)]] [[.sl]] [(false, [.int .i64])] 
    (.done (.agg [(.int .u8 (.conv .u8 (.op .add .i64 (.lit 1) (.var 3)))), (.int .u8 (.lit 0)), (.int .i64 (.lit 0)), (.int .i64 (.var 5)), (.int .i64 (.var 7)), (.int .i64 (.lit 0)), (.cst (.slice none 0 0))]) [[(.val 6)]])))
    (.ite (.cmp .eql (.conv .u8 (.op .add .i64 (.lit 1) (.var 3))) (.lit 6))
     (.call 37 [(.loc 1000000 0), (.int .i64 (.var 1))] [1000000] [[(.val 2)]] [[.sl]] [(false, [.int .i64])] 
     (.call 37 [(.loc 1000000 0), (.int .i64 (.lit 5))] [1000000] [[(.val 4)]] [[.sl]] [(false, [.int .i64])] 
     (.call 37 [(.loc 1000000 0), (.int .i64 (.lit 4))] [1000000] [[(.val 6)]] [[.sl]] [(false, [.int .i64])] 
     (.loop 0 [(.int .i64 (.lit 0)), (.cst (.slice none 0 0)), (.val 8)] [.int .i64, .sl, .sl] 
      (.ite (.cmp .lss (.var 10) (.var 9))
       (.call 37 [(.loc 1000000 0), (.int .i64 (.var 1))] [1000000] [[(.val 12)]] [[.sl]] [(false, [.int .i64])] 
       (.app 3 1 8 (.val 11) (.cells [(.int .i64 (.var 14))] 1) 
       (.again 0 [(.int .i64 (.op .add .i64 (.var 10) (.lit 1))), (.val 15), (.val 13)])))
       (.done (.agg [(.int .u8 (.conv .u8 (.op .add .i64 (.lit 1) (.var 3)))), (.int .u8 (.lit 0)), (.int .i64 (.var 5)), (.int .i64 (.lit 0)), (.int .i64 (.lit 0)), (.int .i64 (.var 7)), (.val 11)]) [[(.val 12)]]))))))
     (.ite (.ite (.cmp .eql (.conv .u8 (.op .add .i64 (.lit 1) (.var 3))) (.lit 2)) (.cmp .eql (.conv .u8 (.op .add .i64 (.lit 1) (.var 3))) (.lit 2)) (.cmp .eql (.conv .u8 (.op .add .i64 (.lit 1) (.var 3))) (.lit 7)))
      (.call 37 [(.loc 1000000 0), (.int .i64 (.var 1))] [1000000] [[(.val 2)]] [[.sl]] [(false, [.int .i64])] 
      (.call 37 [(.loc 1000000 0), (.int .i64 (.var 1))] [1000000] [[(.val 4)]] [[.sl]] [(false, [.int .i64])] 
      (.done (.agg [(.int .u8 (.lit 2)), (.int .u8 (.lit 0)), (.int .i64 (.var 5)), (.int .i64 (.var 7)), (.int .i64 (.lit 0)), (.int .i64 (.lit 0)), (.cst (.slice none 0 0))]) [[(.val 6)]])))
      (.call 37 [(.loc 1000000 0), (.int .i64 (.lit 7))] [1000000] [[(.val 2)]] [[.sl]] [(false, [.int .i64])] 
      (.call 37 [(.loc 1000000 0), (.int .i64 (.var 1))] [1000000] [[(.val 4)]] [[.sl]] [(false, [.int .i64])] 
      (.call 37 [(.loc 1000000 0), (.int .i64 (.var 1))] [1000000] [[(.val 6)]] [[.sl]] [(false, [.int .i64])] 
      (.call 37 [(.loc 1000000 0), (.int .i64 (.var 1))] [1000000] [[(.val 8)]] [[.sl]] [(false, [.int .i64])] 
      (.done (.agg [(.int .u8 (.lit 3)), (.int .u8 (.conv .u8 (.op .add .i64 (.lit 1) (.var 5)))), (.int .i64 (.var 7)), (.int .i64 (.var 9)), (.int .i64 (.var 11)), (.int .i64 (.lit 0)), (.cst (.slice none 0 0))]) [[(.val 10)]])))))))))))
def l38k : List (Nat × List Nat × List (Nat × Nat) × List Nat) := [(12, [53], [(6, 6), (1000000, 0)], [54, 55, 56, 57, 58, 59, 60, 61, 62, 63])]
theorem e38k : ev Try.prog ⟨allF, [], l38k⟩ (bodyOf Try.f38) 0 (initSt [(.loc 1000000 0), (.int .i64 (.var 1))] [[(.val 0)]] Try.f38.ntmps [.sl, .int .i64]) (finK Try.prog Try.f38.results [1]) = t38k := by kernel_rfl
theorem c38k {G : List Value} {h : H} {R : Value → List (List Value) → H → Prop} (hG : FitsL [.sl, .int .i64] G) (H : holds Try.prog R t38k G [] h) : CallsA Try.prog 38 (fun e => SV.denL G (fun k => e (k - 1000000)) [(.loc 1000000 0), (.int .i64 (.var 1))]) ([[(.val 0)]].map (SV.denL G dE)) h R :=
  CallsA.of_ev (cf := ⟨allF, [], l38k⟩) (fn := Try.f38) (c := bodyOf Try.f38) (pcs := [[(.val 0)]]) Try.func38 (by rfl) callOK (by rfl) hG (by rfl) (by rw [show ([[(.val 0)]] : List (List SV)).map List.length = [1] from rfl, e38k]; exact H)
/-- What is left of outworker/outworkerlaw04.IrOnly$1. -/
def t28 : Out :=
 (.done (.bool (.ite (.cmp .leq (.lit 0) (.var 0)) (.cmp .lss (.var 0) (.var 1)) (.tt false))) [])
def l28 : List (Nat × List Nat × List (Nat × Nat) × List Nat) := []
theorem e28 : ev Try.prog ⟨allF, [], l28⟩ (bodyOf Try.f28) 0 (initSt [(.int .i64 (.var 0)), (.int .i64 (.var 1))] [] Try.f28.ntmps [.int .i64, .int .i64]) (finK Try.prog Try.f28.results []) = t28 := by kernel_rfl
theorem c28 {G : List Value} {h : H} {R : Value → List (List Value) → H → Prop} (hG : FitsL [.int .i64, .int .i64] G) (H : holds Try.prog R t28 G [] h) : CallsA Try.prog 28 (fun e => SV.denL G (fun k => e (k - 1000000)) [(.int .i64 (.var 0)), (.int .i64 (.var 1))]) ([].map (SV.denL G dE)) h R :=
  CallsA.of_ev (cf := ⟨allF, [], l28⟩) (fn := Try.f28) (c := bodyOf Try.f28) (pcs := []) Try.func28 (by rfl) callOK (by rfl) hG (by rfl) (by rw [show ([] : List (List SV)).map List.length = [] from rfl, e28]; exact H)
end Go.Proofs.Ytibdneedfopcoaa
