/-
  What the evaluator leaves of the functions of this seat (trees, printed by a program of ours), and their contracts from it. Conditions: none.
-/
import Derived.Test.YtbbicdfipheaeaaR1Tr
set_option linter.unusedVariables false
set_option linter.unusedSimpArgs false
namespace Go.Proofs.Ytbbicdfipheaeaa
open Go

/-- What is left of (*outworker/outworkerlaw04.maker).next. -/
def t17k : Out :=
 (.ite (.cmp .eql (.len 0) (.lit 0))
  (.done (.int .i64 (.lit 0)) [[(.val 0)]])
  (.need (.tt true) [(.tt true), (.cmp .lss (.lit 0) (.len 0))] 
  (.load (.tt true) (.idx (.var 0) (.lit 0) 1) [.int .u8] 
  (.need (.tt true) [(.cmp .neq (.var 1) (.lit 0))] 
  (.need (.tt true) [(.tt true), (.cmp .leq (.lit 1) (.len 0))] 
  (.bnd (.slice (.val 0) (some (.lit 1)) none 1) 
  (.done (.int .i64 (.op .rem .i64 (.conv .i64 (.var 2)) (.var 1))) [[(.val 3)]])))))))
def l17k : List (Nat × List Nat × List (Nat × Nat) × List Nat) := []
theorem e17k : ev Try.prog ⟨allF, [], l17k⟩ (bodyOf Try.f17) 0 (initSt [(.loc 1000000 0), (.int .i64 (.var 1))] [[(.val 0)]] Try.f17.ntmps [.sl, .int .i64]) (finK Try.prog Try.f17.results [1]) = t17k := by kernel_rfl
theorem c17k {G : List Value} {h : H} {R : Value → List (List Value) → H → Prop} (hG : FitsL [.sl, .int .i64] G) (H : holds Try.prog R t17k G [] h) : CallsA Try.prog 17 (fun e => SV.denL G (fun k => e (k - 1000000)) [(.loc 1000000 0), (.int .i64 (.var 1))]) ([[(.val 0)]].map (SV.denL G dE)) h R :=
  CallsA.of_ev (cf := ⟨allF, [], l17k⟩) (fn := Try.f17) (c := bodyOf Try.f17) (pcs := [[(.val 0)]]) Try.func17 (by rfl) callOK (by rfl) hG (by rfl) (by rw [show ([[(.val 0)]] : List (List SV)).map List.length = [1] from rfl, e17k]; exact H)
/-- What is left of (*outworker/outworkerlaw04.maker).ins. -/
def t18k : Out :=
 (.call 17 [(.loc 1000000 0), (.int .i64 (.lit 9))] [1000000] [[(.val 0)]] [[.sl]] [(false, [.int .i64])] 
 (.ite (.cmp .eql (.conv .u8 (.op .add .i64 (.lit 1) (.var 3))) (.lit 1))
  (.call 17 [(.loc 1000000 0), (.int .i64 (.var 1))] [1000000] [[(.val 2)]] [[.sl]] [(false, [.int .i64])] 
  (.call 17 [(.loc 1000000 0), (.int .i64 (.lit 256))] [1000000] [[(.val 4)]] [[.sl]] [(false, [.int .i64])] 
  (.done (.agg [(.int .u8 (.conv .u8 (.op .add .i64 (.lit 1) (.var 3)))), (.int .u8 (.lit 0)), (.int .i64 (.var 5)), (.int .i64 (.lit 0)), (.int .i64 (.lit 0)), (.int .i64 (.op .sub .i64 (.var 7) (.lit 3))), (.cst (.slice none 0 0))]) [[(.val 6)]])))
  (.ite (.cmp .eql (.conv .u8 (.op .add .i64 (.lit 1) (.var 3))) (.lit 4))
   (.call 17 [(.loc 1000000 0), (.int .i64 (.var 1))] [1000000] [[(.val 2)]] [[.sl]] [(false, [.int .i64])] 
   (.call 17 [(.loc 1000000 0), (.int .i64 (.var 1))] [1000000] [[(.val 4)]] [[.sl]] [(false, [.int .i64])] 
   (.done (.agg [(.int .u8 (.conv .u8 (.op .add .i64 (.lit 1) (.var 3)))), (.int .u8 (.lit 0)), (.int .i64 (.var 5)), (.int .i64 (.var 7)), (.int .i64 (.lit 0)), (.int .i64 (.lit 0)), (.cst (.slice none 0 0))]) [[(.val 6)]])))
   (.ite (.cmp .eql (.conv .u8 (.op .add .i64 (.lit 1) (.var 3))) (.lit 5))
    (.call 17 [(.loc 1000000 0), (.int .i64 (.var 1))] [1000000] [[(.val 2)]] [[.sl]] [(false, [.int .i64])] 
    (.call 17 [(.loc 1000000 0), (.int .i64 (.var 1))] [1000000] [[(.val 4)]] [[.sl]] [(false, [.int .i64])] 
    (.done (.agg [(.int .u8 (.conv .u8 (.op .add .i64 (.lit 1) (.var 3)))), (.int .u8 (.lit 0)), (.int .i64 (.lit 0)), (.int .i64 (.var 5)), (.int .i64 (.var 7)), (.int .i64 (.lit 0)), (.cst (.slice none 0 0))]) [[(.val 6)]])))
    (.ite (.cmp .eql (.conv .u8 (.op .add .i64 (.lit 1) (.var 3))) (.lit 6))
     (.call 17 [(.loc 1000000 0), (.int .i64 (.var 1))] [1000000] [[(.val 2)]] [[.sl]] [(false, [.int .i64])] 
     (.call 17 [(.loc 1000000 0), (.int .i64 (.lit 5))] [1000000] [[(.val 4)]] [[.sl]] [(false, [.int .i64])] 
     (.call 17 [(.loc 1000000 0), (.int .i64 (.lit 4))] [1000000] [[(.val 6)]] [[.sl]] [(false, [.int .i64])] 
     (.loop 0 [(.int .i64 (.lit 0)), (.cst (.slice none 0 0)), (.val 8)] [.int .i64, .sl, .sl] 
      (.ite (.cmp .lss (.var 10) (.var 9))
       (.call 17 [(.loc 1000000 0), (.int .i64 (.var 1))] [1000000] [[(.val 12)]] [[.sl]] [(false, [.int .i64])] 
       (.app 3 1 8 (.val 11) (.cells [(.int .i64 (.var 14))] 1) 
       (.again 0 [(.int .i64 (.op .add .i64 (.var 10) (.lit 1))), (.val 15), (.val 13)])))
       (.done (.agg [(.int .u8 (.conv .u8 (.op .add .i64 (.lit 1) (.var 3)))), (.int .u8 (.lit 0)), (.int .i64 (.var 5)), (.int .i64 (.lit 0)), (.int .i64 (.lit 0)), (.int .i64 (.var 7)), (.val 11)]) [[(.val 12)]]))))))
     (.ite (.ite (.cmp .eql (.conv .u8 (.op .add .i64 (.lit 1) (.var 3))) (.lit 2)) (.cmp .eql (.conv .u8 (.op .add .i64 (.lit 1) (.var 3))) (.lit 2)) (.cmp .eql (.conv .u8 (.op .add .i64 (.lit 1) (.var 3))) (.lit 7)))
      (.call 17 [(.loc 1000000 0), (.int .i64 (.var 1))] [1000000] [[(.val 2)]] [[.sl]] [(false, [.int .i64])] 
      (.call 17 [(.loc 1000000 0), (.int .i64 (.var 1))] [1000000] [[(.val 4)]] [[.sl]] [(false, [.int .i64])] 
      (.done (.agg [(.int .u8 (.lit 2)), (.int .u8 (.lit 0)), (.int .i64 (.var 5)), (.int .i64 (.var 7)), (.int .i64 (.lit 0)), (.int .i64 (.lit 0)), (.cst (.slice none 0 0))]) [[(.val 6)]])))
      (.call 17 [(.loc 1000000 0), (.int .i64 (.lit 7))] [1000000] [[(.val 2)]] [[.sl]] [(false, [.int .i64])] 
      (.call 17 [(.loc 1000000 0), (.int .i64 (.var 1))] [1000000] [[(.val 4)]] [[.sl]] [(false, [.int .i64])] 
      (.call 17 [(.loc 1000000 0), (.int .i64 (.var 1))] [1000000] [[(.val 6)]] [[.sl]] [(false, [.int .i64])] 
      (.call 17 [(.loc 1000000 0), (.int .i64 (.var 1))] [1000000] [[(.val 8)]] [[.sl]] [(false, [.int .i64])] 
      (.done (.agg [(.int .u8 (.lit 3)), (.int .u8 (.conv .u8 (.op .add .i64 (.lit 1) (.var 5)))), (.int .i64 (.var 7)), (.int .i64 (.var 9)), (.int .i64 (.var 11)), (.int .i64 (.lit 0)), (.cst (.slice none 0 0))]) [[(.val 10)]])))))))))))
def l18k : List (Nat × List Nat × List (Nat × Nat) × List Nat) := [(12, [53], [(6, 6), (1000000, 0)], [54, 55, 56, 57, 58, 59, 60, 61, 62, 63])]
theorem e18k : ev Try.prog ⟨allF, [], l18k⟩ (bodyOf Try.f18) 0 (initSt [(.loc 1000000 0), (.int .i64 (.var 1))] [[(.val 0)]] Try.f18.ntmps [.sl, .int .i64]) (finK Try.prog Try.f18.results [1]) = t18k := by kernel_rfl
theorem c18k {G : List Value} {h : H} {R : Value → List (List Value) → H → Prop} (hG : FitsL [.sl, .int .i64] G) (H : holds Try.prog R t18k G [] h) : CallsA Try.prog 18 (fun e => SV.denL G (fun k => e (k - 1000000)) [(.loc 1000000 0), (.int .i64 (.var 1))]) ([[(.val 0)]].map (SV.denL G dE)) h R :=
  CallsA.of_ev (cf := ⟨allF, [], l18k⟩) (fn := Try.f18) (c := bodyOf Try.f18) (pcs := [[(.val 0)]]) Try.func18 (by rfl) callOK (by rfl) hG (by rfl) (by rw [show ([[(.val 0)]] : List (List SV)).map List.length = [1] from rfl, e18k]; exact H)
/-- What is left of (*outworker/bag.Queue[int]).Put. -/
def t19k : Out :=
 (.look (.int .i64) .bool (.bool false) (.val 1) (.int .i64 (.var 2)) 
 (.ite (.var 3)
  (.done (.bool (.tt false)) [[(.val 0), (.val 1)]])
  (.ite (.nilp 1)
   (.mkMap 
   (.app 3 1 8 (.val 0) (.cells [(.int .i64 (.var 2))] 1) 
   (.ment (.int .i64) .bool (.bool false) (.val 5) (.int .i64 (.var 2)) 
   (.ents (.val 5) (.int .i64 (.var 8)) (.bool (.tt true)) 
   (.done (.bool (.tt true)) [[(.val 6), (.val 5)]])))))
   (.app 3 1 8 (.val 0) (.cells [(.int .i64 (.var 2))] 1) 
   (.ment (.int .i64) .bool (.bool false) (.val 1) (.int .i64 (.var 2)) 
   (.ents (.val 1) (.int .i64 (.var 7)) (.bool (.tt true)) 
   (.done (.bool (.tt true)) [[(.val 5), (.val 1)]])))))))
def l19k : List (Nat × List Nat × List (Nat × Nat) × List Nat) := []
theorem e19k : ev Try.prog ⟨allF, [], l19k⟩ (bodyOf Try.f19) 0 (initSt [(.loc 1000000 0), (.int .i64 (.var 2))] [[(.val 0), (.val 1)]] Try.f19.ntmps [.sl, .map, .int .i64]) (finK Try.prog Try.f19.results [2]) = t19k := by kernel_rfl
theorem c19k {G : List Value} {h : H} {R : Value → List (List Value) → H → Prop} (hG : FitsL [.sl, .map, .int .i64] G) (H : holds Try.prog R t19k G [] h) : CallsA Try.prog 19 (fun e => SV.denL G (fun k => e (k - 1000000)) [(.loc 1000000 0), (.int .i64 (.var 2))]) ([[(.val 0), (.val 1)]].map (SV.denL G dE)) h R :=
  CallsA.of_ev (cf := ⟨allF, [], l19k⟩) (fn := Try.f19) (c := bodyOf Try.f19) (pcs := [[(.val 0), (.val 1)]]) Try.func19 (by rfl) callOK (by rfl) hG (by rfl) (by rw [show ([[(.val 0), (.val 1)]] : List (List SV)).map List.length = [2] from rfl, e19k]; exact H)
/-- What is left of (*outworker/bag.Queue[int]).Len. -/
def t20k : Out :=
 (.done (.int .i64 (.len 0)) [[(.val 0), (.val 1)]])
def l20k : List (Nat × List Nat × List (Nat × Nat) × List Nat) := []
theorem e20k : ev Try.prog ⟨allF, [], l20k⟩ (bodyOf Try.f20) 0 (initSt [(.loc 1000000 0)] [[(.val 0), (.val 1)]] Try.f20.ntmps [.sl, .map]) (finK Try.prog Try.f20.results [2]) = t20k := by kernel_rfl
theorem c20k {G : List Value} {h : H} {R : Value → List (List Value) → H → Prop} (hG : FitsL [.sl, .map] G) (H : holds Try.prog R t20k G [] h) : CallsA Try.prog 20 (fun e => SV.denL G (fun k => e (k - 1000000)) [(.loc 1000000 0)]) ([[(.val 0), (.val 1)]].map (SV.denL G dE)) h R :=
  CallsA.of_ev (cf := ⟨allF, [], l20k⟩) (fn := Try.f20) (c := bodyOf Try.f20) (pcs := [[(.val 0), (.val 1)]]) Try.func20 (by rfl) callOK (by rfl) hG (by rfl) (by rw [show ([[(.val 0), (.val 1)]] : List (List SV)).map List.length = [2] from rfl, e20k]; exact H)
/-- What is left of (*outworker/bag.Queue[int]).Take. -/
def t21k : Out :=
 (.ite (.cmp .eql (.len 0) (.lit 0))
  (.done (.tup [(.int .i64 (.lit 0)), (.bool (.tt false))]) [[(.val 0), (.val 1)]])
  (.need (.tt true) [(.tt true), (.cmp .lss (.lit 0) (.len 0))] 
  (.load (.tt true) (.idx (.var 0) (.lit 0) 1) [.int .i64] 
  (.need (.tt true) [(.tt true), (.cmp .leq (.lit 1) (.len 0))] 
  (.bnd (.slice (.val 0) (some (.lit 1)) none 1) 
  (.mdel (.int .i64) (.val 1) (.int .i64 (.var 2)) 
  (.done (.tup [(.int .i64 (.var 2)), (.bool (.tt true))]) [[(.val 3), (.val 1)]])))))))
def l21k : List (Nat × List Nat × List (Nat × Nat) × List Nat) := []
theorem e21k : ev Try.prog ⟨allF, [], l21k⟩ (bodyOf Try.f21) 0 (initSt [(.loc 1000000 0)] [[(.val 0), (.val 1)]] Try.f21.ntmps [.sl, .map]) (finK Try.prog Try.f21.results [2]) = t21k := by kernel_rfl
theorem c21k {G : List Value} {h : H} {R : Value → List (List Value) → H → Prop} (hG : FitsL [.sl, .map] G) (H : holds Try.prog R t21k G [] h) : CallsA Try.prog 21 (fun e => SV.denL G (fun k => e (k - 1000000)) [(.loc 1000000 0)]) ([[(.val 0), (.val 1)]].map (SV.denL G dE)) h R :=
  CallsA.of_ev (cf := ⟨allF, [], l21k⟩) (fn := Try.f21) (c := bodyOf Try.f21) (pcs := [[(.val 0), (.val 1)]]) Try.func21 (by rfl) callOK (by rfl) hG (by rfl) (by rw [show ([[(.val 0), (.val 1)]] : List (List SV)).map List.length = [2] from rfl, e21k]; exact H)
end Go.Proofs.Ytbbicdfipheaeaa
