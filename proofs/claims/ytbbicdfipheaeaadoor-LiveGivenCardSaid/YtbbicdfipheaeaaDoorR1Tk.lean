/-
  What the evaluator leaves of the functions of this seat (trees, printed by a program of ours), and their contracts from it. Conditions: none.
-/
import Derived.Test.YtbbicdfipheaeaaDoorR1Tr
set_option linter.unusedVariables false
set_option linter.unusedSimpArgs false
namespace Go.Proofs.YtbbicdfipheaeaaDoor
open Go

/-- What is left of (*outworker/outworkerlaw04.maker).next. -/
def t44k : Out :=
 (.ite (.cmp .eql (.len 0) (.lit 0))
  (.done (.int .i64 (.lit 0)) [[(.val 0)]])
  (.need (.tt true) [(.tt true), (.cmp .lss (.lit 0) (.len 0))] 
  (.load (.tt true) (.idx (.var 0) (.lit 0) 1) [.int .u8] 
  (.need (.tt true) [(.cmp .neq (.var 1) (.lit 0))] 
  (.need (.tt true) [(.tt true), (.cmp .leq (.lit 1) (.len 0))] 
  (.bnd (.slice (.val 0) (some (.lit 1)) none 1) 
  (.done (.int .i64 (.op .rem .i64 (.conv .i64 (.var 2)) (.var 1))) [[(.val 3)]])))))))
def l44k : List (Nat × List Nat × List (Nat × Nat) × List Nat) := []
theorem e44k : ev Tryd.prog ⟨allF, [], l44k⟩ (bodyOf Tryd.f44) 0 (initSt [(.loc 1000000 0), (.int .i64 (.var 1))] [[(.val 0)]] Tryd.f44.ntmps [.sl, .int .i64]) (finK Tryd.prog Tryd.f44.results [1]) = t44k := by kernel_rfl
theorem c44k {G : List Value} {h : H} {R : Value → List (List Value) → H → Prop} (hG : FitsL [.sl, .int .i64] G) (H : holds Tryd.prog R t44k G [] h) : CallsA Tryd.prog 44 (fun e => SV.denL G (fun k => e (k - 1000000)) [(.loc 1000000 0), (.int .i64 (.var 1))]) ([[(.val 0)]].map (SV.denL G dE)) h R :=
  CallsA.of_ev (cf := ⟨allF, [], l44k⟩) (fn := Tryd.f44) (c := bodyOf Tryd.f44) (pcs := [[(.val 0)]]) Tryd.func44 (by rfl) callOK (by rfl) hG (by rfl) (by rw [show ([[(.val 0)]] : List (List SV)).map List.length = [1] from rfl, e44k]; exact H)
/-- What is left of (*outworker/outworkerlaw04.maker).ins. -/
def t45k : Out :=
 (.call 44 [(.loc 1000000 0), (.int .i64 (.lit 9))] [1000000] [[(.val 0)]] [[.sl]] [(false, [.int .i64])] 
 (.ite (.cmp .eql (.conv .u8 (.op .add .i64 (.lit 1) (.var 3))) (.lit 1))
  (.call 44 [(.loc 1000000 0), (.int .i64 (.var 1))] [1000000] [[(.val 2)]] [[.sl]] [(false, [.int .i64])] 
  (.call 44 [(.loc 1000000 0), (.int .i64 (.lit 256))] [1000000] [[(.val 4)]] [[.sl]] [(false, [.int .i64])] 
  (.done (.agg [(.int .u8 (.conv .u8 (.op .add .i64 (.lit 1) (.var 3)))), (.int .u8 (.lit 0)), (.int .i64 (.var 5)), (.int .i64 (.lit 0)), (.int .i64 (.lit 0)), (.int .i64 (.op .sub .i64 (.var 7) (.lit 3))), (.cst (.slice none 0 0))]) [[(.val 6)]])))
  (.ite (.cmp .eql (.conv .u8 (.op .add .i64 (.lit 1) (.var 3))) (.lit 4))
   (.call 44 [(.loc 1000000 0), (.int .i64 (.var 1))] [1000000] [[(.val 2)]] [[.sl]] [(false, [.int .i64])] 
   (.call 44 [(.loc 1000000 0), (.int .i64 (.var 1))] [1000000] [[(.val 4)]] [[.sl]] [(false, [.int .i64])] 
   (.done (.agg [(.int .u8 (.conv .u8 (.op .add .i64 (.lit 1) (.var 3)))), (.int .u8 (.lit 0)), (.int .i64 (.var 5)), (.int .i64 (.var 7)), (.int .i64 (.lit 0)), (.int .i64 (.lit 0)), (.cst (.slice none 0 0))]) [[(.val 6)]])))
   (.ite (.cmp .eql (.conv .u8 (.op .add .i64 (.lit 1) (.var 3))) (.lit 5))
    (.call 44 [(.loc 1000000 0), (.int .i64 (.var 1))] [1000000] [[(.val 2)]] [[.sl]] [(false, [.int .i64])] 
    (.call 44 [(.loc 1000000 0), (.int .i64 (.var 1))] [1000000] [[(.val 4)]] [[.sl]] [(false, [.int .i64])] 
    (.done (.agg [(.int .u8 (.conv .u8 (.op .add .i64 (.lit 1) (.var 3)))), (.int .u8 (.lit 0)), (.int .i64 (.lit 0)), (.int .i64 (.var 5)), (.int .i64 (.var 7)), (.int .i64 (.lit 0)), (.cst (.slice none 0 0))]) [[(.val 6)]])))
    (.ite (.cmp .eql (.conv .u8 (.op .add .i64 (.lit 1) (.var 3))) (.lit 6))
     (.call 44 [(.loc 1000000 0), (.int .i64 (.var 1))] [1000000] [[(.val 2)]] [[.sl]] [(false, [.int .i64])] 
     (.call 44 [(.loc 1000000 0), (.int .i64 (.lit 5))] [1000000] [[(.val 4)]] [[.sl]] [(false, [.int .i64])] 
     (.call 44 [(.loc 1000000 0), (.int .i64 (.lit 4))] [1000000] [[(.val 6)]] [[.sl]] [(false, [.int .i64])] 
     (.loop 0 [(.int .i64 (.lit 0)), (.cst (.slice none 0 0)), (.val 8)] [.int .i64, .sl, .sl] 
      (.ite (.cmp .lss (.var 10) (.var 9))
       (.call 44 [(.loc 1000000 0), (.int .i64 (.var 1))] [1000000] [[(.val 12)]] [[.sl]] [(false, [.int .i64])] 
       (.app 3 1 8 (.val 11) (.cells [(.int .i64 (.var 14))] 1) 
       (.again 0 [(.int .i64 (.op .add .i64 (.var 10) (.lit 1))), (.val 15), (.val 13)])))
       (.done (.agg [(.int .u8 (.conv .u8 (.op .add .i64 (.lit 1) (.var 3)))), (.int .u8 (.lit 0)), (.int .i64 (.var 5)), (.int .i64 (.lit 0)), (.int .i64 (.lit 0)), (.int .i64 (.var 7)), (.val 11)]) [[(.val 12)]]))))))
     (.ite (.ite (.cmp .eql (.conv .u8 (.op .add .i64 (.lit 1) (.var 3))) (.lit 2)) (.cmp .eql (.conv .u8 (.op .add .i64 (.lit 1) (.var 3))) (.lit 2)) (.cmp .eql (.conv .u8 (.op .add .i64 (.lit 1) (.var 3))) (.lit 7)))
      (.call 44 [(.loc 1000000 0), (.int .i64 (.var 1))] [1000000] [[(.val 2)]] [[.sl]] [(false, [.int .i64])] 
      (.call 44 [(.loc 1000000 0), (.int .i64 (.var 1))] [1000000] [[(.val 4)]] [[.sl]] [(false, [.int .i64])] 
      (.done (.agg [(.int .u8 (.lit 2)), (.int .u8 (.lit 0)), (.int .i64 (.var 5)), (.int .i64 (.var 7)), (.int .i64 (.lit 0)), (.int .i64 (.lit 0)), (.cst (.slice none 0 0))]) [[(.val 6)]])))
      (.call 44 [(.loc 1000000 0), (.int .i64 (.lit 7))] [1000000] [[(.val 2)]] [[.sl]] [(false, [.int .i64])] 
      (.call 44 [(.loc 1000000 0), (.int .i64 (.var 1))] [1000000] [[(.val 4)]] [[.sl]] [(false, [.int .i64])] 
      (.call 44 [(.loc 1000000 0), (.int .i64 (.var 1))] [1000000] [[(.val 6)]] [[.sl]] [(false, [.int .i64])] 
      (.call 44 [(.loc 1000000 0), (.int .i64 (.var 1))] [1000000] [[(.val 8)]] [[.sl]] [(false, [.int .i64])] 
      (.done (.agg [(.int .u8 (.lit 3)), (.int .u8 (.conv .u8 (.op .add .i64 (.lit 1) (.var 5)))), (.int .i64 (.var 7)), (.int .i64 (.var 9)), (.int .i64 (.var 11)), (.int .i64 (.lit 0)), (.cst (.slice none 0 0))]) [[(.val 10)]])))))))))))
def l45k : List (Nat × List Nat × List (Nat × Nat) × List Nat) := [(12, [53], [(6, 6), (1000000, 0)], [54, 55, 56, 57, 58, 59, 60, 61, 62, 63])]
theorem e45k : ev Tryd.prog ⟨allF, [], l45k⟩ (bodyOf Tryd.f45) 0 (initSt [(.loc 1000000 0), (.int .i64 (.var 1))] [[(.val 0)]] Tryd.f45.ntmps [.sl, .int .i64]) (finK Tryd.prog Tryd.f45.results [1]) = t45k := by kernel_rfl
theorem c45k {G : List Value} {h : H} {R : Value → List (List Value) → H → Prop} (hG : FitsL [.sl, .int .i64] G) (H : holds Tryd.prog R t45k G [] h) : CallsA Tryd.prog 45 (fun e => SV.denL G (fun k => e (k - 1000000)) [(.loc 1000000 0), (.int .i64 (.var 1))]) ([[(.val 0)]].map (SV.denL G dE)) h R :=
  CallsA.of_ev (cf := ⟨allF, [], l45k⟩) (fn := Tryd.f45) (c := bodyOf Tryd.f45) (pcs := [[(.val 0)]]) Tryd.func45 (by rfl) callOK (by rfl) hG (by rfl) (by rw [show ([[(.val 0)]] : List (List SV)).map List.length = [1] from rfl, e45k]; exact H)
/-- What is left of (*outworker/bag.Queue[int]).Put. -/
def t50k : Out :=
 (.look (.int .i64) .bool (.bool false) (.val 1) (.int .i64 (.var 2)) 
 (.ite (.var 3)
  (.done (.bool (.tt false)) [[(.val 0), (.val 1)]])
  (.ite (.nilp 1)
   (.mkMap 
   (.app 3 1 8 (.val 0) (.cells [(.int .i64 (.var 2))] 1) 
   (.ment (.int .i64) .bool (.bool false) (.val 5) (.int .i64 (.var 2)) 
   (.ents (.val 5) (.int .i64 (.var 8)) (.bool (.tt true)) 
   (.done (.bool (.tt true)) [[(.val 6), (.val 5)]])))))
   (.app 3 1 8 (.val 0) (.cells [(.int .i64 (.var 2))] 1) 
   (.ment (.int .i64) .bool (.bool false) (.val 1) (.int .i64 (.var 2)) 
   (.ents (.val 1) (.int .i64 (.var 7)) (.bool (.tt true)) 
   (.done (.bool (.tt true)) [[(.val 5), (.val 1)]])))))))
def l50k : List (Nat × List Nat × List (Nat × Nat) × List Nat) := []
theorem e50k : ev Tryd.prog ⟨allF, [], l50k⟩ (bodyOf Tryd.f50) 0 (initSt [(.loc 1000000 0), (.int .i64 (.var 2))] [[(.val 0), (.val 1)]] Tryd.f50.ntmps [.sl, .map, .int .i64]) (finK Tryd.prog Tryd.f50.results [2]) = t50k := by kernel_rfl
theorem c50k {G : List Value} {h : H} {R : Value → List (List Value) → H → Prop} (hG : FitsL [.sl, .map, .int .i64] G) (H : holds Tryd.prog R t50k G [] h) : CallsA Tryd.prog 50 (fun e => SV.denL G (fun k => e (k - 1000000)) [(.loc 1000000 0), (.int .i64 (.var 2))]) ([[(.val 0), (.val 1)]].map (SV.denL G dE)) h R :=
  CallsA.of_ev (cf := ⟨allF, [], l50k⟩) (fn := Tryd.f50) (c := bodyOf Tryd.f50) (pcs := [[(.val 0), (.val 1)]]) Tryd.func50 (by rfl) callOK (by rfl) hG (by rfl) (by rw [show ([[(.val 0), (.val 1)]] : List (List SV)).map List.length = [2] from rfl, e50k]; exact H)
/-- What is left of (*outworker/bag.Queue[int]).Len. -/
def t51k : Out :=
 (.done (.int .i64 (.len 0)) [[(.val 0), (.val 1)]])
def l51k : List (Nat × List Nat × List (Nat × Nat) × List Nat) := []
theorem e51k : ev Tryd.prog ⟨allF, [], l51k⟩ (bodyOf Tryd.f51) 0 (initSt [(.loc 1000000 0)] [[(.val 0), (.val 1)]] Tryd.f51.ntmps [.sl, .map]) (finK Tryd.prog Tryd.f51.results [2]) = t51k := by kernel_rfl
theorem c51k {G : List Value} {h : H} {R : Value → List (List Value) → H → Prop} (hG : FitsL [.sl, .map] G) (H : holds Tryd.prog R t51k G [] h) : CallsA Tryd.prog 51 (fun e => SV.denL G (fun k => e (k - 1000000)) [(.loc 1000000 0)]) ([[(.val 0), (.val 1)]].map (SV.denL G dE)) h R :=
  CallsA.of_ev (cf := ⟨allF, [], l51k⟩) (fn := Tryd.f51) (c := bodyOf Tryd.f51) (pcs := [[(.val 0), (.val 1)]]) Tryd.func51 (by rfl) callOK (by rfl) hG (by rfl) (by rw [show ([[(.val 0), (.val 1)]] : List (List SV)).map List.length = [2] from rfl, e51k]; exact H)
/-- What is left of (*outworker/bag.Queue[int]).Take. -/
def t52k : Out :=
 (.ite (.cmp .eql (.len 0) (.lit 0))
  (.done (.tup [(.int .i64 (.lit 0)), (.bool (.tt false))]) [[(.val 0), (.val 1)]])
  (.need (.tt true) [(.tt true), (.cmp .lss (.lit 0) (.len 0))] 
  (.load (.tt true) (.idx (.var 0) (.lit 0) 1) [.int .i64] 
  (.need (.tt true) [(.tt true), (.cmp .leq (.lit 1) (.len 0))] 
  (.bnd (.slice (.val 0) (some (.lit 1)) none 1) 
  (.mdel (.int .i64) (.val 1) (.int .i64 (.var 2)) 
  (.done (.tup [(.int .i64 (.var 2)), (.bool (.tt true))]) [[(.val 3), (.val 1)]])))))))
def l52k : List (Nat × List Nat × List (Nat × Nat) × List Nat) := []
theorem e52k : ev Tryd.prog ⟨allF, [], l52k⟩ (bodyOf Tryd.f52) 0 (initSt [(.loc 1000000 0)] [[(.val 0), (.val 1)]] Tryd.f52.ntmps [.sl, .map]) (finK Tryd.prog Tryd.f52.results [2]) = t52k := by kernel_rfl
theorem c52k {G : List Value} {h : H} {R : Value → List (List Value) → H → Prop} (hG : FitsL [.sl, .map] G) (H : holds Tryd.prog R t52k G [] h) : CallsA Tryd.prog 52 (fun e => SV.denL G (fun k => e (k - 1000000)) [(.loc 1000000 0)]) ([[(.val 0), (.val 1)]].map (SV.denL G dE)) h R :=
  CallsA.of_ev (cf := ⟨allF, [], l52k⟩) (fn := Tryd.f52) (c := bodyOf Tryd.f52) (pcs := [[(.val 0), (.val 1)]]) Tryd.func52 (by rfl) callOK (by rfl) hG (by rfl) (by rw [show ([[(.val 0), (.val 1)]] : List (List SV)).map List.length = [2] from rfl, e52k]; exact H)
/-- What is left of (*outworker/bag.Set[int]).Put. -/
def t55k : Out :=
 (.ite (.not (.ite (.cmp .lss (.var 1) (.lit 0)) (.tt true) (.cmp .geq (.var 1) (.lit 4096))))
  (.call 23 [(.agg [(.val 0)]), (.int .i64 (.var 1))] [] [] [] [(false, [.bool])] 
  (.ite (.var 2)
   (.done (.bool (.tt false)) [[(.val 0)]])
   (.loop 0 [(.val 0)] [.sl] 
    (.ite (.cmp .leq (.len 3) (.op .quo .i64 (.var 1) (.lit 64)))
     (.app 111 1 8 (.val 3) (.cells [(.int .u64 (.lit 0))] 1) 
     (.again 0 [(.val 4)]))
     (.need (.tt true) [(.cmp .geq (.op .quo .i64 (.var 1) (.lit 64)) (.lit 0)), (.cmp .lss (.op .quo .i64 (.var 1) (.lit 64)) (.len 3))] 
     (.load (.tt true) (.idx (.var 3) (.op .quo .i64 (.var 1) (.lit 64)) 1) [.int .u64] 
     (.need (.tt true) [(.cmp .geq (.op .rem .i64 (.var 1) (.lit 64)) (.lit 0))] 
     (.need (.tt true) [(.cmp .geq (.op .quo .i64 (.var 1) (.lit 64)) (.lit 0)), (.cmp .lss (.op .quo .i64 (.var 1) (.lit 64)) (.len 3))] 
     (.store (.idx (.var 3) (.op .quo .i64 (.var 1) (.lit 64)) 1) [(.int .u64 (.op .or .u64 (.var 4) (.op .shl .u64 (.lit 1) (.op .rem .i64 (.var 1) (.lit 64)))))] 
     (.done (.bool (.tt true)) [[(.val 3)]]))))))))))
  (.done (.bool (.tt false)) [[(.val 0)]]))
def l55k : List (Nat × List Nat × List (Nat × Nat) × List Nat) := [(3, [], [(1000000, 0)], [18, 19, 20, 21, 22, 23, 24, 25, 26, 27, 28, 29, 30, 31, 32, 33, 34])]
theorem e55k : ev Tryd.prog ⟨allF, [], l55k⟩ (bodyOf Tryd.f55) 0 (initSt [(.loc 1000000 0), (.int .i64 (.var 1))] [[(.val 0)]] Tryd.f55.ntmps [.sl, .int .i64]) (finK Tryd.prog Tryd.f55.results [1]) = t55k := by kernel_rfl
theorem c55k {G : List Value} {h : H} {R : Value → List (List Value) → H → Prop} (hG : FitsL [.sl, .int .i64] G) (H : holds Tryd.prog R t55k G [] h) : CallsA Tryd.prog 55 (fun e => SV.denL G (fun k => e (k - 1000000)) [(.loc 1000000 0), (.int .i64 (.var 1))]) ([[(.val 0)]].map (SV.denL G dE)) h R :=
  CallsA.of_ev (cf := ⟨allF, [], l55k⟩) (fn := Tryd.f55) (c := bodyOf Tryd.f55) (pcs := [[(.val 0)]]) Tryd.func55 (by rfl) callOK (by rfl) hG (by rfl) (by rw [show ([[(.val 0)]] : List (List SV)).map List.length = [1] from rfl, e55k]; exact H)
/-- What is left of (*outworker/bag.Set[int]).Join. -/
def t17k : Out :=
 (.call 53 [(.agg [(.val 0)])] [] [] [] [(false, [.int .i64])] 
 (.call 54 [(.agg [(.val 1)])] [] [] [] [(false, [.sl])] 
 (.loop 0 [(.int .i64 (.lit 0)), (.val 0)] [.int .i64, .sl] 
  (.ite (.cmp .lss (.var 4) (.len 3))
   (.need (.tt true) [(.cmp .geq (.var 4) (.lit 0)), (.cmp .lss (.var 4) (.len 3))] 
   (.load (.tt true) (.idx (.var 3) (.var 4) 1) [.int .i64] 
   (.call 55 [(.loc 1000000 0), (.int .i64 (.var 6))] [1000000] [[(.val 5)]] [[.sl]] [(false, [.bool])] 
   (.again 0 [(.int .i64 (.op .add .i64 (.var 4) (.lit 1))), (.val 7)]))))
   (.call 53 [(.agg [(.val 5)])] [] [] [] [(false, [.int .i64])] 
   (.done (.bool (.cmp .gtr (.var 6) (.var 2))) [[(.val 5)]]))))))
def l17k : List (Nat × List Nat × List (Nat × Nat) × List Nat) := [(3, [15], [(1000000, 0)], [16, 17, 18, 7, 19, 20, 21, 22])]
theorem e17k : ev Tryd.prog ⟨allF, [], l17k⟩ (bodyOf Tryd.f17) 0 (initSt [(.loc 1000000 0), (.agg [(.val 1)])] [[(.val 0)]] Tryd.f17.ntmps [.sl, .sl]) (finK Tryd.prog Tryd.f17.results [1]) = t17k := by kernel_rfl
theorem c17k {G : List Value} {h : H} {R : Value → List (List Value) → H → Prop} (hG : FitsL [.sl, .sl] G) (H : holds Tryd.prog R t17k G [] h) : CallsA Tryd.prog 17 (fun e => SV.denL G (fun k => e (k - 1000000)) [(.loc 1000000 0), (.agg [(.val 1)])]) ([[(.val 0)]].map (SV.denL G dE)) h R :=
  CallsA.of_ev (cf := ⟨allF, [], l17k⟩) (fn := Tryd.f17) (c := bodyOf Tryd.f17) (pcs := [[(.val 0)]]) Tryd.func17 (by rfl) callOK (by rfl) hG (by rfl) (by rw [show ([[(.val 0)]] : List (List SV)).map List.length = [1] from rfl, e17k]; exact H)
/-- What is left of (*outworker/bag.Set[int]).Less. -/
def t20k : Out :=
 (.loop 0 [(.int .i64 (.lit 0))] [.int .i64] 
  (.ite (.cmp .lss (.var 2) (.ite (.cmp .lss (.len 1) (.len 0)) (.len 1) (.len 0)))
   (.need (.tt true) [(.cmp .geq (.var 2) (.lit 0)), (.cmp .lss (.var 2) (.len 0))] 
   (.load (.tt true) (.idx (.var 0) (.var 2) 1) [.int .u64] 
   (.need (.tt true) [(.cmp .geq (.var 2) (.lit 0)), (.cmp .lss (.var 2) (.len 1))] 
   (.load (.tt true) (.idx (.var 1) (.var 2) 1) [.int .u64] 
   (.need (.tt true) [(.cmp .geq (.var 2) (.lit 0)), (.cmp .lss (.var 2) (.len 0))] 
   (.store (.idx (.var 0) (.var 2) 1) [(.int .u64 (.op .andNot .u64 (.var 3) (.var 4)))] 
   (.again 0 [(.int .i64 (.op .add .i64 (.var 2) (.lit 1)))])))))))
   (.done (.tup []) [[(.val 0)]])))
def l20k : List (Nat × List Nat × List (Nat × Nat) × List Nat) := [(2, [14], [], [15, 16, 4, 17, 18, 19, 20, 21, 22, 23, 24, 25, 26, 27, 28, 29, 30, 31])]
theorem e20k : ev Tryd.prog ⟨allF, [], l20k⟩ (bodyOf Tryd.f20) 0 (initSt [(.loc 1000000 0), (.agg [(.val 1)])] [[(.val 0)]] Tryd.f20.ntmps [.sl, .sl]) (finK Tryd.prog Tryd.f20.results [1]) = t20k := by kernel_rfl
theorem c20k {G : List Value} {h : H} {R : Value → List (List Value) → H → Prop} (hG : FitsL [.sl, .sl] G) (H : holds Tryd.prog R t20k G [] h) : CallsA Tryd.prog 20 (fun e => SV.denL G (fun k => e (k - 1000000)) [(.loc 1000000 0), (.agg [(.val 1)])]) ([[(.val 0)]].map (SV.denL G dE)) h R :=
  CallsA.of_ev (cf := ⟨allF, [], l20k⟩) (fn := Tryd.f20) (c := bodyOf Tryd.f20) (pcs := [[(.val 0)]]) Tryd.func20 (by rfl) callOK (by rfl) hG (by rfl) (by rw [show ([[(.val 0)]] : List (List SV)).map List.length = [1] from rfl, e20k]; exact H)
end Go.Proofs.YtbbicdfipheaeaaDoor
