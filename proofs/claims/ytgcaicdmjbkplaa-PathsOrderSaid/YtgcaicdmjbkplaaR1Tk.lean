/-
  What the evaluator leaves of the functions of this seat (trees, printed by a program of ours), and their contracts from it. Conditions: none.
-/
import Derived.Test.YtgcaicdmjbkplaaR1Tr
set_option linter.unusedVariables false
set_option linter.unusedSimpArgs false
namespace Go.Proofs.Ytgcaicdmjbkplaa
open Go

/-- What is left of (*outworker/outworkerlaw04.maker).next. -/
def t19k : Out :=
 (.ite (.cmp .eql (.len 0) (.lit 0))
  (.done (.int .i64 (.lit 0)) [[(.val 0)]])
  (.need (.tt true) [(.tt true), (.cmp .lss (.lit 0) (.len 0))] 
  (.load (.tt true) (.idx (.var 0) (.lit 0) 1) [.int .u8] 
  (.need (.tt true) [(.cmp .neq (.var 1) (.lit 0))] 
  (.need (.tt true) [(.tt true), (.cmp .leq (.lit 1) (.len 0))] 
  (.bnd (.slice (.val 0) (some (.lit 1)) none 1) 
  (.done (.int .i64 (.op .rem .i64 (.conv .i64 (.var 2)) (.var 1))) [[(.val 3)]])))))))
def l19k : List (Nat × List Nat × List (Nat × Nat) × List Nat) := []
theorem e19k : ev Try.prog ⟨allF, [], l19k⟩ (bodyOf Try.f19) 0 (initSt [(.loc 1000000 0), (.int .i64 (.var 1))] [[(.val 0)]] Try.f19.ntmps [.sl, .int .i64]) (finK Try.prog Try.f19.results [1]) = t19k := by kernel_rfl
theorem c19k {G : List Value} {h : H} {R : Value → List (List Value) → H → Prop} (hG : FitsL [.sl, .int .i64] G) (H : holds Try.prog R t19k G [] h) : CallsA Try.prog 19 (fun e => SV.denL G (fun k => e (k - 1000000)) [(.loc 1000000 0), (.int .i64 (.var 1))]) ([[(.val 0)]].map (SV.denL G dE)) h R :=
  CallsA.of_ev (cf := ⟨allF, [], l19k⟩) (fn := Try.f19) (c := bodyOf Try.f19) (pcs := [[(.val 0)]]) Try.func19 (by rfl) callOK (by rfl) hG (by rfl) (by rw [show ([[(.val 0)]] : List (List SV)).map List.length = [1] from rfl, e19k]; exact H)
/-- What is left of (*outworker/outworkerlaw04.maker).ins. -/
def t20k : Out :=
 (.call 19 [(.loc 1000000 0), (.int .i64 (.lit 9))] [1000000] [[(.val 0)]] [[.sl]] [(false, [.int .i64])] 
 (.ite (.cmp .eql (.conv .u8 (.op .add .i64 (.lit 1) (.var 3))) (.lit 1))
  (.call 19 [(.loc 1000000 0), (.int .i64 (.var 1))] [1000000] [[(.val 2)]] [[.sl]] [(false, [.int .i64])] 
  (.call 19 [(.loc 1000000 0), (.int .i64 (.lit 256))] [1000000] [[(.val 4)]] [[.sl]] [(false, [.int .i64])] 
  (.done (.agg [(.int .u8 (.conv .u8 (.op .add .i64 (.lit 1) (.var 3)))), (.int .u8 (.lit 0)), (.int .i64 (.var 5)), (.int .i64 (.lit 0)), (.int .i64 (.lit 0)), (.int .i64 (.op .sub .i64 (.var 7) (.lit 3))), (.cst (.slice none 0 0))]) [[(.val 6)]])))
  (.ite (.cmp .eql (.conv .u8 (.op .add .i64 (.lit 1) (.var 3))) (.lit 4))
   (.call 19 [(.loc 1000000 0), (.int .i64 (.var 1))] [1000000] [[(.val 2)]] [[.sl]] [(false, [.int .i64])] 
   (.call 19 [(.loc 1000000 0), (.int .i64 (.var 1))] [1000000] [[(.val 4)]] [[.sl]] [(false, [.int .i64])] 
   (.done (.agg [(.int .u8 (.conv .u8 (.op .add .i64 (.lit 1) (.var 3)))), (.int .u8 (.lit 0)), (.int .i64 (.var 5)), (.int .i64 (.var 7)), (.int .i64 (.lit 0)), (.int .i64 (.lit 0)), (.cst (.slice none 0 0))]) [[(.val 6)]])))
   (.ite (.cmp .eql (.conv .u8 (.op .add .i64 (.lit 1) (.var 3))) (.lit 5))
    (.call 19 [(.loc 1000000 0), (.int .i64 (.var 1))] [1000000] [[(.val 2)]] [[.sl]] [(false, [.int .i64])] 
    (.call 19 [(.loc 1000000 0), (.int .i64 (.var 1))] [1000000] [[(.val 4)]] [[.sl]] [(false, [.int .i64])] 
    (.done (.agg [(.int .u8 (.conv .u8 (.op .add .i64 (.lit 1) (.var 3)))), (.int .u8 (.lit 0)), (.int .i64 (.lit 0)), (.int .i64 (.var 5)), (.int .i64 (.var 7)), (.int .i64 (.lit 0)), (.cst (.slice none 0 0))]) [[(.val 6)]])))
    (.ite (.cmp .eql (.conv .u8 (.op .add .i64 (.lit 1) (.var 3))) (.lit 6))
     (.call 19 [(.loc 1000000 0), (.int .i64 (.var 1))] [1000000] [[(.val 2)]] [[.sl]] [(false, [.int .i64])] 
     (.call 19 [(.loc 1000000 0), (.int .i64 (.lit 5))] [1000000] [[(.val 4)]] [[.sl]] [(false, [.int .i64])] 
     (.call 19 [(.loc 1000000 0), (.int .i64 (.lit 4))] [1000000] [[(.val 6)]] [[.sl]] [(false, [.int .i64])] 
     (.loop 0 [(.int .i64 (.lit 0)), (.cst (.slice none 0 0)), (.val 8)] [.int .i64, .sl, .sl] 
      (.ite (.cmp .lss (.var 10) (.var 9))
       (.call 19 [(.loc 1000000 0), (.int .i64 (.var 1))] [1000000] [[(.val 12)]] [[.sl]] [(false, [.int .i64])] 
       (.app 3 1 8 (.val 11) (.cells [(.int .i64 (.var 14))] 1) 
       (.again 0 [(.int .i64 (.op .add .i64 (.var 10) (.lit 1))), (.val 15), (.val 13)])))
       (.done (.agg [(.int .u8 (.conv .u8 (.op .add .i64 (.lit 1) (.var 3)))), (.int .u8 (.lit 0)), (.int .i64 (.var 5)), (.int .i64 (.lit 0)), (.int .i64 (.lit 0)), (.int .i64 (.var 7)), (.val 11)]) [[(.val 12)]]))))))
     (.ite (.ite (.cmp .eql (.conv .u8 (.op .add .i64 (.lit 1) (.var 3))) (.lit 2)) (.cmp .eql (.conv .u8 (.op .add .i64 (.lit 1) (.var 3))) (.lit 2)) (.cmp .eql (.conv .u8 (.op .add .i64 (.lit 1) (.var 3))) (.lit 7)))
      (.call 19 [(.loc 1000000 0), (.int .i64 (.var 1))] [1000000] [[(.val 2)]] [[.sl]] [(false, [.int .i64])] 
      (.call 19 [(.loc 1000000 0), (.int .i64 (.var 1))] [1000000] [[(.val 4)]] [[.sl]] [(false, [.int .i64])] 
      (.done (.agg [(.int .u8 (.lit 2)), (.int .u8 (.lit 0)), (.int .i64 (.var 5)), (.int .i64 (.var 7)), (.int .i64 (.lit 0)), (.int .i64 (.lit 0)), (.cst (.slice none 0 0))]) [[(.val 6)]])))
      (.call 19 [(.loc 1000000 0), (.int .i64 (.lit 7))] [1000000] [[(.val 2)]] [[.sl]] [(false, [.int .i64])] 
      (.call 19 [(.loc 1000000 0), (.int .i64 (.var 1))] [1000000] [[(.val 4)]] [[.sl]] [(false, [.int .i64])] 
      (.call 19 [(.loc 1000000 0), (.int .i64 (.var 1))] [1000000] [[(.val 6)]] [[.sl]] [(false, [.int .i64])] 
      (.call 19 [(.loc 1000000 0), (.int .i64 (.var 1))] [1000000] [[(.val 8)]] [[.sl]] [(false, [.int .i64])] 
      (.done (.agg [(.int .u8 (.lit 3)), (.int .u8 (.conv .u8 (.op .add .i64 (.lit 1) (.var 5)))), (.int .i64 (.var 7)), (.int .i64 (.var 9)), (.int .i64 (.var 11)), (.int .i64 (.lit 0)), (.cst (.slice none 0 0))]) [[(.val 10)]])))))))))))
def l20k : List (Nat × List Nat × List (Nat × Nat) × List Nat) := [(12, [53], [(6, 6), (1000000, 0)], [54, 55, 56, 57, 58, 59, 60, 61, 62, 63])]
theorem e20k : ev Try.prog ⟨allF, [], l20k⟩ (bodyOf Try.f20) 0 (initSt [(.loc 1000000 0), (.int .i64 (.var 1))] [[(.val 0)]] Try.f20.ntmps [.sl, .int .i64]) (finK Try.prog Try.f20.results [1]) = t20k := by kernel_rfl
theorem c20k {G : List Value} {h : H} {R : Value → List (List Value) → H → Prop} (hG : FitsL [.sl, .int .i64] G) (H : holds Try.prog R t20k G [] h) : CallsA Try.prog 20 (fun e => SV.denL G (fun k => e (k - 1000000)) [(.loc 1000000 0), (.int .i64 (.var 1))]) ([[(.val 0)]].map (SV.denL G dE)) h R :=
  CallsA.of_ev (cf := ⟨allF, [], l20k⟩) (fn := Try.f20) (c := bodyOf Try.f20) (pcs := [[(.val 0)]]) Try.func20 (by rfl) callOK (by rfl) hG (by rfl) (by rw [show ([[(.val 0)]] : List (List SV)).map List.length = [1] from rfl, e20k]; exact H)
/-- What is left of (*outworker/bag.Queue[int]).Put. -/
def t22k : Out :=
 (.look (.int .i64) .bool (.bool false) (.val 1) (.int .i64 (.var 2)) 
 (.ite (.var 3)
  (.done (.bool (.tt false)) [[(.val 0), (.val 1)]])
  (.ite (.nilp 1)
   (.mkMap 
   (.app 3 1 8 (.val 0) (.cells [(.int .i64 (.var 2))] 1) 
   (.ment (.int .i64) .bool (.bool false) (.val 5) (.int .i64 (.var 2)) 
   (.ents (.val 5) (.int .i64 (.var 8)) (.bool (.tt true)) 
   (.done (.bool (.tt true)) [[(.val 6), (.val 5)]])))))
   (.app 3 1 8 (.val 0) (.cells [(.int .i64 (.var 2))] 1) 
   (.ment (.int .i64) .bool (.bool false) (.val 1) (.int .i64 (.var 2)) 
   (.ents (.val 1) (.int .i64 (.var 7)) (.bool (.tt true)) 
   (.done (.bool (.tt true)) [[(.val 5), (.val 1)]])))))))
def l22k : List (Nat × List Nat × List (Nat × Nat) × List Nat) := []
theorem e22k : ev Try.prog ⟨allF, [], l22k⟩ (bodyOf Try.f22) 0 (initSt [(.loc 1000000 0), (.int .i64 (.var 2))] [[(.val 0), (.val 1)]] Try.f22.ntmps [.sl, .map, .int .i64]) (finK Try.prog Try.f22.results [2]) = t22k := by kernel_rfl
theorem c22k {G : List Value} {h : H} {R : Value → List (List Value) → H → Prop} (hG : FitsL [.sl, .map, .int .i64] G) (H : holds Try.prog R t22k G [] h) : CallsA Try.prog 22 (fun e => SV.denL G (fun k => e (k - 1000000)) [(.loc 1000000 0), (.int .i64 (.var 2))]) ([[(.val 0), (.val 1)]].map (SV.denL G dE)) h R :=
  CallsA.of_ev (cf := ⟨allF, [], l22k⟩) (fn := Try.f22) (c := bodyOf Try.f22) (pcs := [[(.val 0), (.val 1)]]) Try.func22 (by rfl) callOK (by rfl) hG (by rfl) (by rw [show ([[(.val 0), (.val 1)]] : List (List SV)).map List.length = [2] from rfl, e22k]; exact H)
/-- What is left of (*outworker/bag.Queue[int]).Len. -/
def t23k : Out :=
 (.done (.int .i64 (.len 0)) [[(.val 0), (.val 1)]])
def l23k : List (Nat × List Nat × List (Nat × Nat) × List Nat) := []
theorem e23k : ev Try.prog ⟨allF, [], l23k⟩ (bodyOf Try.f23) 0 (initSt [(.loc 1000000 0)] [[(.val 0), (.val 1)]] Try.f23.ntmps [.sl, .map]) (finK Try.prog Try.f23.results [2]) = t23k := by kernel_rfl
theorem c23k {G : List Value} {h : H} {R : Value → List (List Value) → H → Prop} (hG : FitsL [.sl, .map] G) (H : holds Try.prog R t23k G [] h) : CallsA Try.prog 23 (fun e => SV.denL G (fun k => e (k - 1000000)) [(.loc 1000000 0)]) ([[(.val 0), (.val 1)]].map (SV.denL G dE)) h R :=
  CallsA.of_ev (cf := ⟨allF, [], l23k⟩) (fn := Try.f23) (c := bodyOf Try.f23) (pcs := [[(.val 0), (.val 1)]]) Try.func23 (by rfl) callOK (by rfl) hG (by rfl) (by rw [show ([[(.val 0), (.val 1)]] : List (List SV)).map List.length = [2] from rfl, e23k]; exact H)
/-- What is left of (*outworker/bag.Queue[int]).Take. -/
def t24k : Out :=
 (.ite (.cmp .eql (.len 0) (.lit 0))
  (.done (.tup [(.int .i64 (.lit 0)), (.bool (.tt false))]) [[(.val 0), (.val 1)]])
  (.need (.tt true) [(.tt true), (.cmp .lss (.lit 0) (.len 0))] 
  (.load (.tt true) (.idx (.var 0) (.lit 0) 1) [.int .i64] 
  (.need (.tt true) [(.tt true), (.cmp .leq (.lit 1) (.len 0))] 
  (.bnd (.slice (.val 0) (some (.lit 1)) none 1) 
  (.mdel (.int .i64) (.val 1) (.int .i64 (.var 2)) 
  (.done (.tup [(.int .i64 (.var 2)), (.bool (.tt true))]) [[(.val 3), (.val 1)]])))))))
def l24k : List (Nat × List Nat × List (Nat × Nat) × List Nat) := []
theorem e24k : ev Try.prog ⟨allF, [], l24k⟩ (bodyOf Try.f24) 0 (initSt [(.loc 1000000 0)] [[(.val 0), (.val 1)]] Try.f24.ntmps [.sl, .map]) (finK Try.prog Try.f24.results [2]) = t24k := by kernel_rfl
theorem c24k {G : List Value} {h : H} {R : Value → List (List Value) → H → Prop} (hG : FitsL [.sl, .map] G) (H : holds Try.prog R t24k G [] h) : CallsA Try.prog 24 (fun e => SV.denL G (fun k => e (k - 1000000)) [(.loc 1000000 0)]) ([[(.val 0), (.val 1)]].map (SV.denL G dE)) h R :=
  CallsA.of_ev (cf := ⟨allF, [], l24k⟩) (fn := Try.f24) (c := bodyOf Try.f24) (pcs := [[(.val 0), (.val 1)]]) Try.func24 (by rfl) callOK (by rfl) hG (by rfl) (by rw [show ([[(.val 0), (.val 1)]] : List (List SV)).map List.length = [2] from rfl, e24k]; exact H)
/-- What is left of (*outworker/bag.Set[int]).Put. -/
def t25k : Out :=
 (.ite (.not (.ite (.cmp .lss (.var 1) (.lit 0)) (.tt true) (.cmp .geq (.var 1) (.lit 4096))))
  (.call 9 [(.agg [(.val 0)]), (.int .i64 (.var 1))] [] [] [] [(false, [.bool])] 
  (.ite (.var 2)
   (.done (.bool (.tt false)) [[(.val 0)]])
   (.loop 0 [(.val 0)] [.sl] 
    (.ite (.cmp .leq (.len 3) (.op .quo .i64 (.var 1) (.lit 64)))
     (.app 68 1 8 (.val 3) (.cells [(.int .u64 (.lit 0))] 1) 
     (.again 0 [(.val 4)]))
     (.need (.tt true) [(.cmp .geq (.op .quo .i64 (.var 1) (.lit 64)) (.lit 0)), (.cmp .lss (.op .quo .i64 (.var 1) (.lit 64)) (.len 3))] 
     (.load (.tt true) (.idx (.var 3) (.op .quo .i64 (.var 1) (.lit 64)) 1) [.int .u64] 
     (.need (.tt true) [(.cmp .geq (.op .rem .i64 (.var 1) (.lit 64)) (.lit 0))] 
     (.need (.tt true) [(.cmp .geq (.op .quo .i64 (.var 1) (.lit 64)) (.lit 0)), (.cmp .lss (.op .quo .i64 (.var 1) (.lit 64)) (.len 3))] 
     (.store (.idx (.var 3) (.op .quo .i64 (.var 1) (.lit 64)) 1) [(.int .u64 (.op .or .u64 (.var 4) (.op .shl .u64 (.lit 1) (.op .rem .i64 (.var 1) (.lit 64)))))] 
     (.done (.bool (.tt true)) [[(.val 3)]]))))))))))
  (.done (.bool (.tt false)) [[(.val 0)]]))
def l25k : List (Nat × List Nat × List (Nat × Nat) × List Nat) := [(3, [], [(1000000, 0)], [18, 19, 20, 21, 22, 23, 24, 25, 26, 27, 28, 29, 30, 31, 32, 33, 34])]
theorem e25k : ev Try.prog ⟨allF, [], l25k⟩ (bodyOf Try.f25) 0 (initSt [(.loc 1000000 0), (.int .i64 (.var 1))] [[(.val 0)]] Try.f25.ntmps [.sl, .int .i64]) (finK Try.prog Try.f25.results [1]) = t25k := by kernel_rfl
theorem c25k {G : List Value} {h : H} {R : Value → List (List Value) → H → Prop} (hG : FitsL [.sl, .int .i64] G) (H : holds Try.prog R t25k G [] h) : CallsA Try.prog 25 (fun e => SV.denL G (fun k => e (k - 1000000)) [(.loc 1000000 0), (.int .i64 (.var 1))]) ([[(.val 0)]].map (SV.denL G dE)) h R :=
  CallsA.of_ev (cf := ⟨allF, [], l25k⟩) (fn := Try.f25) (c := bodyOf Try.f25) (pcs := [[(.val 0)]]) Try.func25 (by rfl) callOK (by rfl) hG (by rfl) (by rw [show ([[(.val 0)]] : List (List SV)).map List.length = [1] from rfl, e25k]; exact H)
/-- What is left of (*outworker/paths.walk).down. -/
def t26k : Out :=
 (.call 25 [(.loc 1000000 1), (.int .i64 (.var 3))] [1000000] [[(.val 0), (.val 1), (.val 2)]] [[.sl, .sl, .sl]] [(false, [.bool])] 
 (.ite (.not (.var 7))
  (.done (.tup []) [[(.val 4), (.val 5), (.val 6)]])
  (.need (.tt true) [(.cmp .geq (.var 3) (.lit 0)), (.cmp .lss (.var 3) (.len 4))] 
  (.load (.tt true) (.fld (.idx (.var 4) (.var 3) 5) 1) [.int .u8, .int .i64, .int .i64, .int .i64] 
  (.call 10 [(.agg [(.int .u8 (.var 8)), (.int .i64 (.var 9)), (.int .i64 (.var 10)), (.int .i64 (.var 11))])] [] [] [] [(false, [.sl])] 
  (.loop 0 [(.int .i64 (.lit 0)), (.val 4), (.val 5), (.val 6)] [.int .i64, .sl, .sl, .sl] 
   (.ite (.cmp .lss (.var 13) (.len 12))
    (.need (.tt true) [(.cmp .geq (.var 13) (.lit 0)), (.cmp .lss (.var 13) (.len 12))] 
    (.load (.tt true) (.idx (.var 12) (.var 13) 1) [.int .i64] 
    (.call 26 [(.loc 1000000 0), (.int .i64 (.var 17))] [1000000] [[(.val 14), (.val 15), (.val 16)]] [[.sl, .sl, .sl]] [] 
    (.again 0 [(.int .i64 (.op .add .i64 (.var 13) (.lit 1))), (.val 18), (.val 19), (.val 20)]))))
    (.app 3 1 8 (.val 16) (.cells [(.int .i64 (.var 3))] 1) 
    (.done (.tup []) [[(.val 14), (.val 15), (.val 17)]])))))))))
def l26k : List (Nat × List Nat × List (Nat × Nat) × List Nat) := [(2, [22], [(1000000, 0), (1000000, 1), (1000000, 2)], [23, 24, 25, 5, 26, 27, 28, 29])]
theorem e26k : ev Try.prog ⟨allF, [], l26k⟩ (bodyOf Try.f26) 0 (initSt [(.loc 1000000 0), (.int .i64 (.var 3))] [[(.val 0), (.val 1), (.val 2)]] Try.f26.ntmps [.sl, .sl, .sl, .int .i64]) (finK Try.prog Try.f26.results [3]) = t26k := by kernel_rfl
theorem c26k {G : List Value} {h : H} {R : Value → List (List Value) → H → Prop} (hG : FitsL [.sl, .sl, .sl, .int .i64] G) (H : holds Try.prog R t26k G [] h) : CallsA Try.prog 26 (fun e => SV.denL G (fun k => e (k - 1000000)) [(.loc 1000000 0), (.int .i64 (.var 3))]) ([[(.val 0), (.val 1), (.val 2)]].map (SV.denL G dE)) h R :=
  CallsA.of_ev (cf := ⟨allF, [], l26k⟩) (fn := Try.f26) (c := bodyOf Try.f26) (pcs := [[(.val 0), (.val 1), (.val 2)]]) Try.func26 (by rfl) callOK (by rfl) hG (by rfl) (by rw [show ([[(.val 0), (.val 1), (.val 2)]] : List (List SV)).map List.length = [3] from rfl, e26k]; exact H)
end Go.Proofs.Ytgcaicdmjbkplaa
