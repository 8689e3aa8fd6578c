/-
  What the evaluator leaves of the functions of this seat (trees, printed by a program of ours), and their contracts from it. Conditions: none.
-/
import Derived.Test.YthnoplfjcdkacaaR1Tr
set_option linter.unusedVariables false
set_option linter.unusedSimpArgs false
namespace Go.Proofs.Ythnoplfjcdkacaa
open Go

/-- What is left of (*outworker/outworkerlaw04.maker).next. -/
def t33k : Out :=
 (.ite (.cmp .eql (.len 0) (.lit 0))
  (.done (.int .i64 (.lit 0)) [[(.val 0)]])
  (.need (.tt true) [(.tt true), (.cmp .lss (.lit 0) (.len 0))] 
  (.load (.tt true) (.idx (.var 0) (.lit 0) 1) [.int .u8] 
  (.need (.tt true) [(.cmp .neq (.var 1) (.lit 0))] 
  (.need (.tt true) [(.tt true), (.cmp .leq (.lit 1) (.len 0))] 
  (.bnd (.slice (.val 0) (some (.lit 1)) none 1) 
  (.done (.int .i64 (.op .rem .i64 (.conv .i64 (.var 2)) (.var 1))) [[(.val 3)]])))))))
def l33k : List (Nat × List Nat × List (Nat × Nat) × List Nat) := []
theorem e33k : ev Try.prog ⟨allF, [], l33k⟩ (bodyOf Try.f33) 0 (initSt [(.loc 1000000 0), (.int .i64 (.var 1))] [[(.val 0)]] Try.f33.ntmps [.sl, .int .i64]) (finK Try.prog Try.f33.results [1]) = t33k := by kernel_rfl
theorem c33k {G : List Value} {h : H} {R : Value → List (List Value) → H → Prop} (hG : FitsL [.sl, .int .i64] G) (H : holds Try.prog R t33k G [] h) : CallsA Try.prog 33 (fun e => SV.denL G (fun k => e (k - 1000000)) [(.loc 1000000 0), (.int .i64 (.var 1))]) ([[(.val 0)]].map (SV.denL G dE)) h R :=
  CallsA.of_ev (cf := ⟨allF, [], l33k⟩) (fn := Try.f33) (c := bodyOf Try.f33) (pcs := [[(.val 0)]]) Try.func33 (by rfl) callOK (by rfl) hG (by rfl) (by rw [show ([[(.val 0)]] : List (List SV)).map List.length = [1] from rfl, e33k]; exact H)
/-- What is left of (*outworker/outworkerlaw04.maker).ins. -/
def t34k : Out :=
 (.call 33 [(.loc 1000000 0), (.int .i64 (.lit 9))] [1000000] [[(.val 0)]] [[.sl]] [(false, [.int .i64])] 
 (.ite (.cmp .eql (.conv .u8 (.op .add .i64 (.lit 1) (.var 3))) (.lit 1))
  (.call 33 [(.loc 1000000 0), (.int .i64 (.var 1))] [1000000] [[(.val 2)]] [[.sl]] [(false, [.int .i64])] 
  (.call 33 [(.loc 1000000 0), (.int .i64 (.lit 256))] [1000000] [[(.val 4)]] [[.sl]] [(false, [.int .i64])] 
  (.done (.agg [(.int .u8 (.conv .u8 (.op .add .i64 (.lit 1) (.var 3)))), (.int .u8 (.lit 0)), (.int .i64 (.var 5)), (.int .i64 (.lit 0)), (.int .i64 (.lit 0)), (.int .i64 (.op .sub .i64 (.var 7) (.lit 3))), (.cst (.slice none 0 0))]) [[(.val 6)]])))
  (.ite (.cmp .eql (.conv .u8 (.op .add .i64 (.lit 1) (.var 3))) (.lit 4))
   (.call 33 [(.loc 1000000 0), (.int .i64 (.var 1))] [1000000] [[(.val 2)]] [[.sl]] [(false, [.int .i64])] 
   (.call 33 [(.loc 1000000 0), (.int .i64 (.var 1))] [1000000] [[(.val 4)]] [[.sl]] [(false, [.int .i64])] 
   (.done (.agg [(.int .u8 (.conv .u8 (.op .add .i64 (.lit 1) (.var 3)))), (.int .u8 (.lit 0)), (.int .i64 (.var 5)), (.int .i64 (.var 7)), (.int .i64 (.lit 0)), (.int .i64 (.lit 0)), (.cst (.slice none 0 0))]) [[(.val 6)]])))
   (.ite (.cmp .eql (.conv .u8 (.op .add .i64 (.lit 1) (.var 3))) (.lit 5))
    (.call 33 [(.loc 1000000 0), (.int .i64 (.var 1))] [1000000] [[(.val 2)]] [[.sl]] [(false, [.int .i64])] 
    (.call 33 [(.loc 1000000 0), (.int .i64 (.var 1))] [1000000] [[(.val 4)]] [[.sl]] [(false, [.int .i64])] 
    (.done (.agg [(.int .u8 (.conv .u8 (.op .add .i64 (.lit 1) (.var 3)))), (.int .u8 (.lit 0)), (.int .i64 (.lit 0)), (.int .i64 (.var 5)), (.int .i64 (.var 7)), (.int .i64 (.lit 0)), (.cst (.slice none 0 0))]) [[(.val 6)]])))
    (.ite (.cmp .eql (.conv .u8 (.op .add .i64 (.lit 1) (.var 3))) (.lit 6))
     (.call 33 [(.loc 1000000 0), (.int .i64 (.var 1))] [1000000] [[(.val 2)]] [[.sl]] [(false, [.int .i64])] 
     (.call 33 [(.loc 1000000 0), (.int .i64 (.lit 5))] [1000000] [[(.val 4)]] [[.sl]] [(false, [.int .i64])] 
     (.call 33 [(.loc 1000000 0), (.int .i64 (.lit 4))] [1000000] [[(.val 6)]] [[.sl]] [(false, [.int .i64])] 
     (.loop 0 [(.int .i64 (.lit 0)), (.cst (.slice none 0 0)), (.val 8)] [.int .i64, .sl, .sl] 
      (.ite (.cmp .lss (.var 10) (.var 9))
       (.call 33 [(.loc 1000000 0), (.int .i64 (.var 1))] [1000000] [[(.val 12)]] [[.sl]] [(false, [.int .i64])] 
       (.app 3 1 8 (.val 11) (.cells [(.int .i64 (.var 14))] 1) 
       (.again 0 [(.int .i64 (.op .add .i64 (.var 10) (.lit 1))), (.val 15), (.val 13)])))
       (.done (.agg [(.int .u8 (.conv .u8 (.op .add .i64 (.lit 1) (.var 3)))), (.int .u8 (.lit 0)), (.int .i64 (.var 5)), (.int .i64 (.lit 0)), (.int .i64 (.lit 0)), (.int .i64 (.var 7)), (.val 11)]) [[(.val 12)]]))))))
     (.ite (.ite (.cmp .eql (.conv .u8 (.op .add .i64 (.lit 1) (.var 3))) (.lit 2)) (.cmp .eql (.conv .u8 (.op .add .i64 (.lit 1) (.var 3))) (.lit 2)) (.cmp .eql (.conv .u8 (.op .add .i64 (.lit 1) (.var 3))) (.lit 7)))
      (.call 33 [(.loc 1000000 0), (.int .i64 (.var 1))] [1000000] [[(.val 2)]] [[.sl]] [(false, [.int .i64])] 
      (.call 33 [(.loc 1000000 0), (.int .i64 (.var 1))] [1000000] [[(.val 4)]] [[.sl]] [(false, [.int .i64])] 
      (.done (.agg [(.int .u8 (.lit 2)), (.int .u8 (.lit 0)), (.int .i64 (.var 5)), (.int .i64 (.var 7)), (.int .i64 (.lit 0)), (.int .i64 (.lit 0)), (.cst (.slice none 0 0))]) [[(.val 6)]])))
      (.call 33 [(.loc 1000000 0), (.int .i64 (.lit 7))] [1000000] [[(.val 2)]] [[.sl]] [(false, [.int .i64])] 
      (.call 33 [(.loc 1000000 0), (.int .i64 (.var 1))] [1000000] [[(.val 4)]] [[.sl]] [(false, [.int .i64])] 
      (.call 33 [(.loc 1000000 0), (.int .i64 (.var 1))] [1000000] [[(.val 6)]] [[.sl]] [(false, [.int .i64])] 
      (.call 33 [(.loc 1000000 0), (.int .i64 (.var 1))] [1000000] [[(.val 8)]] [[.sl]] [(false, [.int .i64])] 
      (.done (.agg [(.int .u8 (.lit 3)), (.int .u8 (.conv .u8 (.op .add .i64 (.lit 1) (.var 5)))), (.int .i64 (.var 7)), (.int .i64 (.var 9)), (.int .i64 (.var 11)), (.int .i64 (.lit 0)), (.cst (.slice none 0 0))]) [[(.val 10)]])))))))))))
def l34k : List (Nat × List Nat × List (Nat × Nat) × List Nat) := [(12, [53], [(6, 6), (1000000, 0)], [54, 55, 56, 57, 58, 59, 60, 61, 62, 63])]
theorem e34k : ev Try.prog ⟨allF, [], l34k⟩ (bodyOf Try.f34) 0 (initSt [(.loc 1000000 0), (.int .i64 (.var 1))] [[(.val 0)]] Try.f34.ntmps [.sl, .int .i64]) (finK Try.prog Try.f34.results [1]) = t34k := by kernel_rfl
theorem c34k {G : List Value} {h : H} {R : Value → List (List Value) → H → Prop} (hG : FitsL [.sl, .int .i64] G) (H : holds Try.prog R t34k G [] h) : CallsA Try.prog 34 (fun e => SV.denL G (fun k => e (k - 1000000)) [(.loc 1000000 0), (.int .i64 (.var 1))]) ([[(.val 0)]].map (SV.denL G dE)) h R :=
  CallsA.of_ev (cf := ⟨allF, [], l34k⟩) (fn := Try.f34) (c := bodyOf Try.f34) (pcs := [[(.val 0)]]) Try.func34 (by rfl) callOK (by rfl) hG (by rfl) (by rw [show ([[(.val 0)]] : List (List SV)).map List.length = [1] from rfl, e34k]; exact H)
/-- What is left of (*outworker/wire.writer).nums. -/
def t36k : Out :=
 (.loop 0 [(.int .i64 (.lit 0)), (.val 0)] [.int .i64, .sl] 
  (.ite (.cmp .lss (.var 2) (.len 1))
   (.need (.tt true) [(.cmp .geq (.var 2) (.lit 0)), (.cmp .lss (.var 2) (.len 1))] 
   (.load (.tt true) (.idx (.var 1) (.var 2) 1) [.int .i64] 
   (.call 55 [(.val 3), (.int .u64 (.conv .u64 (.var 4)))] [] [] [] [(false, [.sl])] 
   (.again 0 [(.int .i64 (.op .add .i64 (.var 2) (.lit 1))), (.val 5)]))))
   (.done (.tup []) [[(.val 3)]])))
def l36k : List (Nat × List Nat × List (Nat × Nat) × List Nat) := [(1, [8], [(1000000, 0)], [9, 10, 11, 5, 12, 13, 14, 15, 16, 17, 18, 19, 20, 21, 22])]
theorem e36k : ev Try.prog ⟨allF, [], l36k⟩ (bodyOf Try.f36) 0 (initSt [(.loc 1000000 0), (.val 1)] [[(.val 0)]] Try.f36.ntmps [.sl, .sl]) (finK Try.prog Try.f36.results [1]) = t36k := by kernel_rfl
theorem c36k {G : List Value} {h : H} {R : Value → List (List Value) → H → Prop} (hG : FitsL [.sl, .sl] G) (H : holds Try.prog R t36k G [] h) : CallsA Try.prog 36 (fun e => SV.denL G (fun k => e (k - 1000000)) [(.loc 1000000 0), (.val 1)]) ([[(.val 0)]].map (SV.denL G dE)) h R :=
  CallsA.of_ev (cf := ⟨allF, [], l36k⟩) (fn := Try.f36) (c := bodyOf Try.f36) (pcs := [[(.val 0)]]) Try.func36 (by rfl) callOK (by rfl) hG (by rfl) (by rw [show ([[(.val 0)]] : List (List SV)).map List.length = [1] from rfl, e36k]; exact H)
/-- What is left of (*outworker/wire.writer).blocks. -/
def t37k : Out :=
 (.alloc 3 [(.int .i64 (.len 1))] (.lsl 1) 
 (.call 36 [(.loc 1000000 0), (.val 2)] [1000000] [[(.val 0)]] [[.sl]] [] 
 (.loop 0 [(.int .i64 (.lit 0)), (.val 3)] [.int .i64, .sl] 
  (.ite (.cmp .lss (.var 4) (.len 1))
   (.need (.tt true) [(.cmp .geq (.var 4) (.lit 0)), (.cmp .lss (.var 4) (.len 1))] 
   (.load (.tt true) (.idx (.var 1) (.var 4) 5) [.sl, .int .u8, .int .i64, .int .i64, .int .i64] 
   (.alloc 3 [(.int .i64 (.len 6))] (.lsl 1) 
   (.call 36 [(.loc 1000000 0), (.val 11)] [1000000] [[(.val 5)]] [[.sl]] [] 
   (.loop 1 [(.int .i64 (.lit 0)), (.val 12)] [.int .i64, .sl] 
    (.ite (.cmp .lss (.var 13) (.len 6))
     (.need (.tt true) [(.cmp .geq (.var 13) (.lit 0)), (.cmp .lss (.var 13) (.len 6))] 
     (.load (.tt true) (.idx (.var 6) (.var 13) 7) [.int .u8, .int .u8, .int .i64, .int .i64, .int .i64, .int .i64, .sl] 
     (.call 56 [(.loc 1000000 0), (.agg [(.int .u8 (.var 15)), (.int .u8 (.var 16)), (.int .i64 (.var 17)), (.int .i64 (.var 18)), (.int .i64 (.var 19)), (.int .i64 (.var 20)), (.val 21)])] [1000000] [[(.val 14)]] [[.sl]] [] 
     (.again 1 [(.int .i64 (.op .add .i64 (.var 13) (.lit 1))), (.val 22)]))))
     (.alloc 3 [(.int .i64 (.conv .i64 (.var 7)))] (.lsl 1) 
     (.call 36 [(.loc 1000000 0), (.val 15)] [1000000] [[(.val 14)]] [[.sl]] [] 
     (.ite (.cmp .eql (.var 7) (.lit 1))
      (.alloc 3 [(.int .i64 (.var 9))] (.lsl 1) 
      (.call 36 [(.loc 1000000 0), (.val 17)] [1000000] [[(.val 16)]] [[.sl]] [] 
      (.again 0 [(.int .i64 (.op .add .i64 (.var 4) (.lit 1))), (.val 18)])))
      (.ite (.cmp .eql (.var 7) (.lit 2))
       (.alloc 3 [(.int .i64 (.var 8)), (.int .i64 (.var 9)), (.int .i64 (.var 10))] (.lsl 3) 
       (.call 36 [(.loc 1000000 0), (.val 17)] [1000000] [[(.val 16)]] [[.sl]] [] 
       (.again 0 [(.int .i64 (.op .add .i64 (.var 4) (.lit 1))), (.val 18)])))
       (.alloc 3 [(.int .i64 (.var 8))] (.lsl 1) 
       (.call 36 [(.loc 1000000 0), (.val 17)] [1000000] [[(.val 16)]] [[.sl]] [] 
       (.again 0 [(.int .i64 (.op .add .i64 (.var 4) (.lit 1))), (.val 18)])))))))))))))
   (.done (.tup []) [[(.val 5)]])))))
def l37k : List (Nat × List Nat × List (Nat × Nat) × List Nat) := [(2, [15], [(1000000, 0)], [16, 17, 18, 5, 19, 20, 21, 22, 23, 24, 25, 26, 27, 28, 29, 30, 31, 7, 32, 33, 34, 35, 36, 37, 38, 39, 40, 41, 42, 43, 44, 45, 53, 52, 54, 55, 56, 57, 58, 59, 61, 60, 62, 63, 64, 65, 66, 67, 68, 69, 70, 71, 72, 73, 46, 47, 48, 49, 50, 51, 74]), (6, [28], [(1000000, 0)], [29, 30, 31, 7, 32, 33, 34, 35])]
theorem e37k : ev Try.prog ⟨allF, [11, 23, 41, 58, 72, 50], l37k⟩ (bodyOf Try.f37) 0 (initSt [(.loc 1000000 0), (.val 1)] [[(.val 0)]] Try.f37.ntmps [.sl, .sl]) (finK Try.prog Try.f37.results [1]) = t37k := by kernel_rfl
theorem c37k {G : List Value} {h : H} {R : Value → List (List Value) → H → Prop} (hG : FitsL [.sl, .sl] G) (H : holds Try.prog R t37k G [] h) : CallsA Try.prog 37 (fun e => SV.denL G (fun k => e (k - 1000000)) [(.loc 1000000 0), (.val 1)]) ([[(.val 0)]].map (SV.denL G dE)) h R :=
  CallsA.of_ev (cf := ⟨allF, [11, 23, 41, 58, 72, 50], l37k⟩) (fn := Try.f37) (c := bodyOf Try.f37) (pcs := [[(.val 0)]]) Try.func37 (by rfl) callOK (by rfl) hG (by rfl) (by rw [show ([[(.val 0)]] : List (List SV)).map List.length = [1] from rfl, e37k]; exact H)
/-- What is left of (*outworker/wire.writer).ins. -/
def t56k : Out :=
 (.alloc 3 [(.int .i64 (.conv .i64 (.var 1)))] (.lsl 1) 
 (.call 36 [(.loc 1000000 0), (.val 8)] [1000000] [[(.val 0)]] [[.sl]] [] 
 (.ite (.cmp .eql (.var 1) (.lit 1))
  (.alloc 3 [(.int .i64 (.var 3))] (.lsl 1) 
  (.call 36 [(.loc 1000000 0), (.val 10)] [1000000] [[(.val 9)]] [[.sl]] [] 
  (.call 76 [(.val 11), (.int .i64 (.var 6))] [] [] [] [(false, [.sl])] 
  (.done (.tup []) [[(.val 12)]]))))
  (.ite (.ite (.cmp .eql (.var 1) (.lit 2)) (.cmp .eql (.var 1) (.lit 2)) (.ite (.cmp .eql (.var 1) (.lit 4)) (.cmp .eql (.var 1) (.lit 4)) (.ite (.cmp .eql (.var 1) (.lit 7)) (.cmp .eql (.var 1) (.lit 7)) (.cmp .eql (.var 1) (.lit 8)))))
   (.alloc 3 [(.int .i64 (.var 3)), (.int .i64 (.var 4))] (.lsl 2) 
   (.call 36 [(.loc 1000000 0), (.val 10)] [1000000] [[(.val 9)]] [[.sl]] [] 
   (.done (.tup []) [[(.val 11)]])))
   (.ite (.cmp .eql (.var 1) (.lit 3))
    (.alloc 3 [(.int .i64 (.conv .i64 (.var 2))), (.int .i64 (.var 3)), (.int .i64 (.var 4)), (.int .i64 (.var 5))] (.lsl 4) 
    (.call 36 [(.loc 1000000 0), (.val 10)] [1000000] [[(.val 9)]] [[.sl]] [] 
    (.done (.tup []) [[(.val 11)]])))
    (.ite (.cmp .eql (.var 1) (.lit 5))
     (.alloc 3 [(.int .i64 (.var 4)), (.int .i64 (.var 5))] (.lsl 2) 
     (.call 36 [(.loc 1000000 0), (.val 10)] [1000000] [[(.val 9)]] [[.sl]] [] 
     (.done (.tup []) [[(.val 11)]])))
     (.ite (.cmp .eql (.var 1) (.lit 6))
      (.alloc 3 [(.int .i64 (.var 3))] (.lsl 1) 
      (.call 36 [(.loc 1000000 0), (.val 10)] [1000000] [[(.val 9)]] [[.sl]] [] 
      (.call 76 [(.val 11), (.int .i64 (.var 6))] [] [] [] [(false, [.sl])] 
      (.alloc 3 [(.int .i64 (.len 7))] (.lsl 1) 
      (.call 36 [(.loc 1000000 0), (.val 13)] [1000000] [[(.val 12)]] [[.sl]] [] 
      (.call 36 [(.loc 1000000 0), (.val 7)] [1000000] [[(.val 14)]] [[.sl]] [] 
      (.done (.tup []) [[(.val 15)]])))))))
      (.done (.tup []) [[(.val 9)]]))))))))
def l56k : List (Nat × List Nat × List (Nat × Nat) × List Nat) := []
theorem e56k : ev Try.prog ⟨allF, [8, 17, 39, 53, 62, 69, 85], l56k⟩ (bodyOf Try.f56) 0 (initSt [(.loc 1000000 0), (.agg [(.int .u8 (.var 1)), (.int .u8 (.var 2)), (.int .i64 (.var 3)), (.int .i64 (.var 4)), (.int .i64 (.var 5)), (.int .i64 (.var 6)), (.val 7)])] [[(.val 0)]] Try.f56.ntmps [.sl, .int .u8, .int .u8, .int .i64, .int .i64, .int .i64, .int .i64, .sl]) (finK Try.prog Try.f56.results [1]) = t56k := by kernel_rfl
theorem c56k {G : List Value} {h : H} {R : Value → List (List Value) → H → Prop} (hG : FitsL [.sl, .int .u8, .int .u8, .int .i64, .int .i64, .int .i64, .int .i64, .sl] G) (H : holds Try.prog R t56k G [] h) : CallsA Try.prog 56 (fun e => SV.denL G (fun k => e (k - 1000000)) [(.loc 1000000 0), (.agg [(.int .u8 (.var 1)), (.int .u8 (.var 2)), (.int .i64 (.var 3)), (.int .i64 (.var 4)), (.int .i64 (.var 5)), (.int .i64 (.var 6)), (.val 7)])]) ([[(.val 0)]].map (SV.denL G dE)) h R :=
  CallsA.of_ev (cf := ⟨allF, [8, 17, 39, 53, 62, 69, 85], l56k⟩) (fn := Try.f56) (c := bodyOf Try.f56) (pcs := [[(.val 0)]]) Try.func56 (by rfl) callOK (by rfl) hG (by rfl) (by rw [show ([[(.val 0)]] : List (List SV)).map List.length = [1] from rfl, e56k]; exact H)
end Go.Proofs.Ythnoplfjcdkacaa

/-
  What the evaluator leaves of the functions of this seat (trees, printed by a program of ours), and their contracts from it. Conditions: none.
-/
set_option linter.unusedVariables false
set_option linter.unusedSimpArgs false
namespace Go.Proofs.Ythnoplfjcdkacaa
open Go

/-- What is left of outworker/outworkerref04.Ins. -/
def t57 : Out :=
 (.ite (.not (.ite (.cmp .lss (.var 0) (.lit 1)) (.tt true) (.cmp .gtr (.var 0) (.ite (.cmp .geq (.var 8) (.lit 0)) (.lit 8) (.lit 6)))))
  (.call 59 [(.int .u8 (.var 0))] [] [] [] [(false, [.str])] 
  (.call 77 [(.agg [(.int .u8 (.var 0)), (.int .u8 (.var 1)), (.int .i64 (.var 2)), (.int .i64 (.var 3)), (.int .i64 (.var 4)), (.int .i64 (.var 5)), (.val 6)]), (.str (.var 9))] [] [] [] [(false, [.bool])] 
  (.ite (.ite (.not (.var 10)) (.tt true) (.ite (.cmp .eql (.var 0) (.lit 3)) (.ite (.cmp .lss (.var 1) (.lit 1)) (.tt true) (.cmp .gtr (.var 1) (.lit 7))) (.tt false)))
   (.done (.int .i64 (.lit 20)) [])
   (.ite (.cmp .gtr (.len 6) (.lit 3))
    (.done (.int .i64 (.lit 25)) [])
    (.alloc 3 [] (.lsl 0) 
    (.call 78 [(.agg [(.int .u8 (.var 0)), (.int .u8 (.var 1)), (.int .i64 (.var 2)), (.int .i64 (.var 3)), (.int .i64 (.var 4)), (.int .i64 (.var 5)), (.val 6)])] [] [] [] [(false, [.sl])] 
    (.app 3 1 8 (.val 11) (.sl (.val 12)) 
    (.call 79 [(.int .u8 (.var 0))] [] [] [] [(false, [.bool])] 
    (.ite (.var 14)
     (.app 3 1 8 (.val 13) (.cells [(.int .i64 (.var 2))] 1) 
     (.loop 0 [(.int .i64 (.lit 0))] [.int .i64] 
      (.ite (.cmp .lss (.var 16) (.len 15))
       (.need (.tt true) [(.cmp .geq (.var 16) (.lit 0)), (.cmp .lss (.var 16) (.len 15))] 
       (.load (.tt true) (.idx (.var 15) (.var 16) 1) [.int .i64] 
       (.need (.not (.cmp .lss (.var 17) (.lit 0))) [(.cmp .geq (.var 16) (.lit 0)), (.cmp .lss (.var 16) (.len 15))] 
       (.load (.not (.cmp .lss (.var 17) (.lit 0))) (.idx (.var 15) (.var 16) 1) [.int .i64] 
       (.ite (.ite (.cmp .lss (.var 17) (.lit 0)) (.tt true) (.cmp .geq (.var 18) (.var 7)))
        (.ite (.cmp .geq (.var 8) (.lit 0))
         (.done (.int .i64 (.lit 23)) [])
         (.done (.int .i64 (.lit 21)) []))
        (.again 0 [(.int .i64 (.op .add .i64 (.var 16) (.lit 1)))]))))))
       (.ite (.ite (.ite (.cmp .eql (.var 0) (.lit 7)) (.ite (.cmp .lss (.var 2) (.lit 0)) (.tt true) (.cmp .geq (.var 2) (.var 8))) (.tt false)) (.tt true) (.ite (.cmp .eql (.var 0) (.lit 8)) (.ite (.cmp .lss (.var 3) (.lit 0)) (.tt true) (.cmp .geq (.var 3) (.var 8))) (.tt false)))
        (.done (.int .i64 (.lit 24)) [])
        (.done (.int .i64 (.lit 0)) [])))))
     (.loop 0 [(.int .i64 (.lit 0))] [.int .i64] 
      (.ite (.cmp .lss (.var 15) (.len 13))
       (.need (.tt true) [(.cmp .geq (.var 15) (.lit 0)), (.cmp .lss (.var 15) (.len 13))] 
       (.load (.tt true) (.idx (.var 13) (.var 15) 1) [.int .i64] 
       (.need (.not (.cmp .lss (.var 16) (.lit 0))) [(.cmp .geq (.var 15) (.lit 0)), (.cmp .lss (.var 15) (.len 13))] 
       (.load (.not (.cmp .lss (.var 16) (.lit 0))) (.idx (.var 13) (.var 15) 1) [.int .i64] 
       (.ite (.ite (.cmp .lss (.var 16) (.lit 0)) (.tt true) (.cmp .geq (.var 17) (.var 7)))
        (.ite (.cmp .geq (.var 8) (.lit 0))
         (.done (.int .i64 (.lit 23)) [])
         (.done (.int .i64 (.lit 21)) []))
        (.again 0 [(.int .i64 (.op .add .i64 (.var 15) (.lit 1)))]))))))
       (.ite (.ite (.ite (.cmp .eql (.var 0) (.lit 7)) (.ite (.cmp .lss (.var 2) (.lit 0)) (.tt true) (.cmp .geq (.var 2) (.var 8))) (.tt false)) (.tt true) (.ite (.cmp .eql (.var 0) (.lit 8)) (.ite (.cmp .lss (.var 3) (.lit 0)) (.tt true) (.cmp .geq (.var 3) (.var 8))) (.tt false)))
        (.done (.int .i64 (.lit 24)) [])
        (.done (.int .i64 (.lit 0)) [])))))))))))))
  (.done (.int .i64 (.lit 20)) []))
def l57 : List (Nat × List Nat × List (Nat × Nat) × List Nat) := [(12, [9], [], [60, 61, 62, 63, 66, 67, 68, 69, 70, 71, 72, 73, 74, 75, 76, 77, 78, 79, 80, 6, 64, 65])]
theorem e57 : ev Try.prog ⟨allF, [48], l57⟩ (bodyOf Try.f57) 0 (initSt [(.agg [(.int .u8 (.var 0)), (.int .u8 (.var 1)), (.int .i64 (.var 2)), (.int .i64 (.var 3)), (.int .i64 (.var 4)), (.int .i64 (.var 5)), (.val 6)]), (.int .i64 (.var 7)), (.int .i64 (.var 8))] [] Try.f57.ntmps [.int .u8, .int .u8, .int .i64, .int .i64, .int .i64, .int .i64, .sl, .int .i64, .int .i64]) (finK Try.prog Try.f57.results []) = t57 := by kernel_rfl
theorem c57 {G : List Value} {h : H} {R : Value → List (List Value) → H → Prop} (hG : FitsL [.int .u8, .int .u8, .int .i64, .int .i64, .int .i64, .int .i64, .sl, .int .i64, .int .i64] G) (H : holds Try.prog R t57 G [] h) : CallsA Try.prog 57 (fun e => SV.denL G (fun k => e (k - 1000000)) [(.agg [(.int .u8 (.var 0)), (.int .u8 (.var 1)), (.int .i64 (.var 2)), (.int .i64 (.var 3)), (.int .i64 (.var 4)), (.int .i64 (.var 5)), (.val 6)]), (.int .i64 (.var 7)), (.int .i64 (.var 8))]) ([].map (SV.denL G dE)) h R :=
  CallsA.of_ev (cf := ⟨allF, [48], l57⟩) (fn := Try.f57) (c := bodyOf Try.f57) (pcs := []) Try.func57 (by rfl) callOK (by rfl) hG (by rfl) (by rw [show ([] : List (List SV)).map List.length = [] from rfl, e57]; exact H)
end Go.Proofs.Ythnoplfjcdkacaa

/-
  What the evaluator leaves of the functions of this seat (trees, printed by a program of ours), and their contracts from it. Conditions: none.
-/
set_option linter.unusedVariables false
set_option linter.unusedSimpArgs false
namespace Go.Proofs.Ythnoplfjcdkacaa
open Go

/-- What is left of outworker/outworkerlaw05.Made$1. -/
def t42k : Out :=
 (.need (.tt true) [(.cmp .neq (.var 2) (.lit 0))] 
 (.done (.int .i64 (.op .rem .i64 (.var 0) (.var 2))) [[(.int .i64 (.var 1)), (.int .i64 (.var 2)), (.int .i64 (.var 3)), (.val 4)]]))
def l42k : List (Nat × List Nat × List (Nat × Nat) × List Nat) := []
theorem e42k : ev Try.prog ⟨allF, [], l42k⟩ (bodyOf Try.f42) 0 (initSt [(.int .i64 (.var 0)), (.loc 1000000 0)] [[(.int .i64 (.var 1)), (.int .i64 (.var 2)), (.int .i64 (.var 3)), (.val 4)]] Try.f42.ntmps [.int .i64, .int .i64, .int .i64, .int .i64, .sl]) (finK Try.prog Try.f42.results [4]) = t42k := by kernel_rfl
theorem c42k {G : List Value} {h : H} {R : Value → List (List Value) → H → Prop} (hG : FitsL [.int .i64, .int .i64, .int .i64, .int .i64, .sl] G) (H : holds Try.prog R t42k G [] h) : CallsA Try.prog 42 (fun e => SV.denL G (fun k => e (k - 1000000)) [(.int .i64 (.var 0)), (.loc 1000000 0)]) ([[(.int .i64 (.var 1)), (.int .i64 (.var 2)), (.int .i64 (.var 3)), (.val 4)]].map (SV.denL G dE)) h R :=
  CallsA.of_ev (cf := ⟨allF, [], l42k⟩) (fn := Try.f42) (c := bodyOf Try.f42) (pcs := [[(.int .i64 (.var 1)), (.int .i64 (.var 2)), (.int .i64 (.var 3)), (.val 4)]]) Try.func42 (by rfl) callOK (by rfl) hG (by rfl) (by rw [show ([[(.int .i64 (.var 1)), (.int .i64 (.var 2)), (.int .i64 (.var 3)), (.val 4)]] : List (List SV)).map List.length = [4] from rfl, e42k]; exact H)
end Go.Proofs.Ythnoplfjcdkacaa
