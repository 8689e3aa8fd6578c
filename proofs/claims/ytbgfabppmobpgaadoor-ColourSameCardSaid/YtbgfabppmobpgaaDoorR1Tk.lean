/-
  What the evaluator leaves of the functions of this seat (trees, printed by a program of ours), and their contracts from it. Conditions: none.
-/
import Derived.Test.YtbgfabppmobpgaaDoorR1Tr
set_option linter.unusedVariables false
set_option linter.unusedSimpArgs false
namespace Go.Proofs.YtbgfabppmobpgaaDoor
open Go

/-- What is left of (*outworker/search.hunt).from. -/
def t27k : Out :=
 (.ite (.cmp .geq (.var 8) (.var 5))
  (.done (.tup []) [[(.val 0), (.val 1), (.int .i64 (.var 2)), (.val 3), (.val 4), (.int .i64 (.var 5))]])
  (.ite (.cmp .eql (.var 6) (.len 3))
   (.call 42 [(.val 3)] [] [] [] [(false, [.sl])] 
   (.done (.tup []) [[(.val 0), (.val 1), (.int .i64 (.var 2)), (.val 3), (.val 9), (.int .i64 (.var 8))]]))
   (.loop 0 [(.int .i64 (.lit 0)), (.val 0), (.val 1), (.int .i64 (.var 2)), (.val 3), (.val 4), (.int .i64 (.var 5))] [.int .i64, .sl, .sl, .int .i64, .sl, .sl, .int .i64] 
    (.ite (.cmp .lss (.var 9) (.ite (.cmp .lss (.var 2) (.op .add .i64 (.var 7) (.lit 1))) (.var 2) (.op .add .i64 (.var 7) (.lit 1))))
     (.call 43 [(.loc 1000000 0), (.int .i64 (.var 6)), (.int .i64 (.var 9))] [1000000] [[(.val 10), (.val 11), (.int .i64 (.var 12)), (.val 13), (.val 14), (.int .i64 (.var 15))]] [[.sl, .sl, .int .i64, .sl, .sl, .int .i64]] [(false, [.bool])] 
     (.ite (.var 22)
      (.need (.tt true) [(.cmp .geq (.var 6) (.lit 0)), (.cmp .lss (.var 6) (.len 19))] 
      (.store (.idx (.var 19) (.var 6) 1) [(.int .i64 (.var 9))] 
      (.call 27 [(.loc 1000000 0), (.int .i64 (.op .add .i64 (.var 6) (.lit 1))), (.int .i64 (.ite (.cmp .gtr (.op .add .i64 (.var 9) (.lit 1)) (.var 7)) (.op .add .i64 (.var 9) (.lit 1)) (.var 7))), (.int .i64 (.var 8))] [1000000] [[(.val 16), (.val 17), (.int .i64 (.var 18)), (.val 19), (.val 20), (.int .i64 (.var 21))]] [[.sl, .sl, .int .i64, .sl, .sl, .int .i64]] [] 
      (.again 0 [(.int .i64 (.op .add .i64 (.var 9) (.lit 1))), (.val 23), (.val 24), (.int .i64 (.var 25)), (.val 26), (.val 27), (.int .i64 (.var 28))]))))
      (.again 0 [(.int .i64 (.op .add .i64 (.var 9) (.lit 1))), (.val 16), (.val 17), (.int .i64 (.var 18)), (.val 19), (.val 20), (.int .i64 (.var 21))])))
     (.need (.tt true) [(.cmp .geq (.var 6) (.lit 0)), (.cmp .lss (.var 6) (.len 13))] 
     (.store (.idx (.var 13) (.var 6) 1) [(.int .i64 (.lit (-1)))] 
     (.need (.tt true) [(.cmp .geq (.var 6) (.lit 0)), (.cmp .lss (.var 6) (.len 11))] 
     (.load (.tt true) (.idx (.var 11) (.var 6) 1) [.int .i64] 
     (.call 27 [(.loc 1000000 0), (.int .i64 (.op .add .i64 (.var 6) (.lit 1))), (.int .i64 (.var 7)), (.int .i64 (.op .add .i64 (.var 8) (.var 16)))] [1000000] [[(.val 10), (.val 11), (.int .i64 (.var 12)), (.val 13), (.val 14), (.int .i64 (.var 15))]] [[.sl, .sl, .int .i64, .sl, .sl, .int .i64]] [] 
     (.done (.tup []) [[(.val 17), (.val 18), (.int .i64 (.var 19)), (.val 20), (.val 21), (.int .i64 (.var 22))]]))))))))))
def l27k : List (Nat × List Nat × List (Nat × Nat) × List Nat) := [(4, [41], [(1000000, 0), (1000000, 1), (1000000, 2), (1000000, 3), (1000000, 4), (1000000, 5)], [42, 43, 8, 44, 45, 46, 47, 48, 49, 50, 51, 52, 53, 54, 55, 56, 57, 58, 59, 60, 61, 62, 63, 64])]
theorem e27k : ev Tryd.prog ⟨allF, [], l27k⟩ (bodyOf Tryd.f27) 0 (initSt [(.loc 1000000 0), (.int .i64 (.var 6)), (.int .i64 (.var 7)), (.int .i64 (.var 8))] [[(.val 0), (.val 1), (.int .i64 (.var 2)), (.val 3), (.val 4), (.int .i64 (.var 5))]] Tryd.f27.ntmps [.sl, .sl, .int .i64, .sl, .sl, .int .i64, .int .i64, .int .i64, .int .i64]) (finK Tryd.prog Tryd.f27.results [6]) = t27k := by kernel_rfl
theorem c27k {G : List Value} {h : H} {R : Value → List (List Value) → H → Prop} (hG : FitsL [.sl, .sl, .int .i64, .sl, .sl, .int .i64, .int .i64, .int .i64, .int .i64] G) (H : holds Tryd.prog R t27k G [] h) : CallsA Tryd.prog 27 (fun e => SV.denL G (fun k => e (k - 1000000)) [(.loc 1000000 0), (.int .i64 (.var 6)), (.int .i64 (.var 7)), (.int .i64 (.var 8))]) ([[(.val 0), (.val 1), (.int .i64 (.var 2)), (.val 3), (.val 4), (.int .i64 (.var 5))]].map (SV.denL G dE)) h R :=
  CallsA.of_ev (cf := ⟨allF, [], l27k⟩) (fn := Tryd.f27) (c := bodyOf Tryd.f27) (pcs := [[(.val 0), (.val 1), (.int .i64 (.var 2)), (.val 3), (.val 4), (.int .i64 (.var 5))]]) Tryd.func27 (by rfl) callOK (by rfl) hG (by rfl) (by rw [show ([[(.val 0), (.val 1), (.int .i64 (.var 2)), (.val 3), (.val 4), (.int .i64 (.var 5))]] : List (List SV)).map List.length = [6] from rfl, e27k]; exact H)
/-- What is left of (*outworker/search.hunt).free. -/
def t43k : Out :=
 (.need (.tt true) [(.cmp .geq (.var 6) (.lit 0)), (.cmp .lss (.var 6) (.len 0))] 
 (.load (.tt true) (.idx (.var 0) (.var 6) 1) [.sl] 
 (.call 45 [(.agg [(.val 8)])] [] [] [] [(false, [.sl])] 
 (.loop 0 [(.int .i64 (.lit 0))] [.int .i64] 
  (.ite (.cmp .lss (.var 10) (.len 9))
   (.need (.tt true) [(.cmp .geq (.var 10) (.lit 0)), (.cmp .lss (.var 10) (.len 9))] 
   (.load (.tt true) (.idx (.var 9) (.var 10) 1) [.int .i64] 
   (.need (.cmp .lss (.var 11) (.var 6)) [(.cmp .geq (.var 11) (.lit 0)), (.cmp .lss (.var 11) (.len 3))] 
   (.load (.cmp .lss (.var 11) (.var 6)) (.idx (.var 3) (.var 11) 1) [.int .i64] 
   (.ite (.ite (.cmp .lss (.var 11) (.var 6)) (.cmp .eql (.var 12) (.var 7)) (.tt false))
    (.done (.bool (.tt false)) [[(.val 0), (.val 1), (.int .i64 (.var 2)), (.val 3), (.val 4), (.int .i64 (.var 5))]])
    (.again 0 [(.int .i64 (.op .add .i64 (.var 10) (.lit 1)))]))))))
   (.done (.bool (.tt true)) [[(.val 0), (.val 1), (.int .i64 (.var 2)), (.val 3), (.val 4), (.int .i64 (.var 5))]]))))))
def l43k : List (Nat × List Nat × List (Nat × Nat) × List Nat) := [(2, [18], [], [19, 20, 21, 8, 22, 23, 24, 25, 26, 27, 28, 29, 30, 31, 32, 33, 34, 35, 6, 36])]
theorem e43k : ev Tryd.prog ⟨allF, [], l43k⟩ (bodyOf Tryd.f43) 0 (initSt [(.loc 1000000 0), (.int .i64 (.var 6)), (.int .i64 (.var 7))] [[(.val 0), (.val 1), (.int .i64 (.var 2)), (.val 3), (.val 4), (.int .i64 (.var 5))]] Tryd.f43.ntmps [.sl, .sl, .int .i64, .sl, .sl, .int .i64, .int .i64, .int .i64]) (finK Tryd.prog Tryd.f43.results [6]) = t43k := by kernel_rfl
theorem c43k {G : List Value} {h : H} {R : Value → List (List Value) → H → Prop} (hG : FitsL [.sl, .sl, .int .i64, .sl, .sl, .int .i64, .int .i64, .int .i64] G) (H : holds Tryd.prog R t43k G [] h) : CallsA Tryd.prog 43 (fun e => SV.denL G (fun k => e (k - 1000000)) [(.loc 1000000 0), (.int .i64 (.var 6)), (.int .i64 (.var 7))]) ([[(.val 0), (.val 1), (.int .i64 (.var 2)), (.val 3), (.val 4), (.int .i64 (.var 5))]].map (SV.denL G dE)) h R :=
  CallsA.of_ev (cf := ⟨allF, [], l43k⟩) (fn := Tryd.f43) (c := bodyOf Tryd.f43) (pcs := [[(.val 0), (.val 1), (.int .i64 (.var 2)), (.val 3), (.val 4), (.int .i64 (.var 5))]]) Tryd.func43 (by rfl) callOK (by rfl) hG (by rfl) (by rw [show ([[(.val 0), (.val 1), (.int .i64 (.var 2)), (.val 3), (.val 4), (.int .i64 (.var 5))]] : List (List SV)).map List.length = [6] from rfl, e43k]; exact H)
/-- What is left of (*outworker/bag.Set[int]).Put. -/
def t32k : Out :=
 (.ite (.not (.ite (.cmp .lss (.var 1) (.lit 0)) (.tt true) (.cmp .geq (.var 1) (.lit 4096))))
  (.call 44 [(.agg [(.val 0)]), (.int .i64 (.var 1))] [] [] [] [(false, [.bool])] 
  (.ite (.var 2)
   (.done (.bool (.tt false)) [[(.val 0)]])
   (.loop 0 [(.val 0)] [.sl] 
    (.ite (.cmp .leq (.len 3) (.op .quo .i64 (.var 1) (.lit 64)))
     (.app 79 1 8 (.val 3) (.cells [(.int .u64 (.lit 0))] 1) 
     (.again 0 [(.val 4)]))
     (.need (.tt true) [(.cmp .geq (.op .quo .i64 (.var 1) (.lit 64)) (.lit 0)), (.cmp .lss (.op .quo .i64 (.var 1) (.lit 64)) (.len 3))] 
     (.load (.tt true) (.idx (.var 3) (.op .quo .i64 (.var 1) (.lit 64)) 1) [.int .u64] 
     (.need (.tt true) [(.cmp .geq (.op .rem .i64 (.var 1) (.lit 64)) (.lit 0))] 
     (.need (.tt true) [(.cmp .geq (.op .quo .i64 (.var 1) (.lit 64)) (.lit 0)), (.cmp .lss (.op .quo .i64 (.var 1) (.lit 64)) (.len 3))] 
     (.store (.idx (.var 3) (.op .quo .i64 (.var 1) (.lit 64)) 1) [(.int .u64 (.op .or .u64 (.var 4) (.op .shl .u64 (.lit 1) (.op .rem .i64 (.var 1) (.lit 64)))))] 
     (.done (.bool (.tt true)) [[(.val 3)]]))))))))))
  (.done (.bool (.tt false)) [[(.val 0)]]))
def l32k : List (Nat × List Nat × List (Nat × Nat) × List Nat) := [(3, [], [(1000000, 0)], [18, 19, 20, 21, 22, 23, 24, 25, 26, 27, 28, 29, 30, 31, 32, 33, 34])]
theorem e32k : ev Tryd.prog ⟨allF, [], l32k⟩ (bodyOf Tryd.f32) 0 (initSt [(.loc 1000000 0), (.int .i64 (.var 1))] [[(.val 0)]] Tryd.f32.ntmps [.sl, .int .i64]) (finK Tryd.prog Tryd.f32.results [1]) = t32k := by kernel_rfl
theorem c32k {G : List Value} {h : H} {R : Value → List (List Value) → H → Prop} (hG : FitsL [.sl, .int .i64] G) (H : holds Tryd.prog R t32k G [] h) : CallsA Tryd.prog 32 (fun e => SV.denL G (fun k => e (k - 1000000)) [(.loc 1000000 0), (.int .i64 (.var 1))]) ([[(.val 0)]].map (SV.denL G dE)) h R :=
  CallsA.of_ev (cf := ⟨allF, [], l32k⟩) (fn := Tryd.f32) (c := bodyOf Tryd.f32) (pcs := [[(.val 0)]]) Tryd.func32 (by rfl) callOK (by rfl) hG (by rfl) (by rw [show ([[(.val 0)]] : List (List SV)).map List.length = [1] from rfl, e32k]; exact H)
/-- What is left of (*outworker/bag.Set[int]).Join. -/
def t52k : Out :=
 (.call 61 [(.agg [(.val 0)])] [] [] [] [(false, [.int .i64])] 
 (.call 45 [(.agg [(.val 1)])] [] [] [] [(false, [.sl])] 
 (.loop 0 [(.int .i64 (.lit 0)), (.val 0)] [.int .i64, .sl] 
  (.ite (.cmp .lss (.var 4) (.len 3))
   (.need (.tt true) [(.cmp .geq (.var 4) (.lit 0)), (.cmp .lss (.var 4) (.len 3))] 
   (.load (.tt true) (.idx (.var 3) (.var 4) 1) [.int .i64] 
   (.call 32 [(.loc 1000000 0), (.int .i64 (.var 6))] [1000000] [[(.val 5)]] [[.sl]] [(false, [.bool])] 
   (.again 0 [(.int .i64 (.op .add .i64 (.var 4) (.lit 1))), (.val 7)]))))
   (.call 61 [(.agg [(.val 5)])] [] [] [] [(false, [.int .i64])] 
   (.done (.bool (.cmp .gtr (.var 6) (.var 2))) [[(.val 5)]]))))))
def l52k : List (Nat × List Nat × List (Nat × Nat) × List Nat) := [(3, [15], [(1000000, 0)], [16, 17, 18, 7, 19, 20, 21, 22])]
theorem e52k : ev Tryd.prog ⟨allF, [], l52k⟩ (bodyOf Tryd.f52) 0 (initSt [(.loc 1000000 0), (.agg [(.val 1)])] [[(.val 0)]] Tryd.f52.ntmps [.sl, .sl]) (finK Tryd.prog Tryd.f52.results [1]) = t52k := by kernel_rfl
theorem c52k {G : List Value} {h : H} {R : Value → List (List Value) → H → Prop} (hG : FitsL [.sl, .sl] G) (H : holds Tryd.prog R t52k G [] h) : CallsA Tryd.prog 52 (fun e => SV.denL G (fun k => e (k - 1000000)) [(.loc 1000000 0), (.agg [(.val 1)])]) ([[(.val 0)]].map (SV.denL G dE)) h R :=
  CallsA.of_ev (cf := ⟨allF, [], l52k⟩) (fn := Tryd.f52) (c := bodyOf Tryd.f52) (pcs := [[(.val 0)]]) Tryd.func52 (by rfl) callOK (by rfl) hG (by rfl) (by rw [show ([[(.val 0)]] : List (List SV)).map List.length = [1] from rfl, e52k]; exact H)
/-- What is left of (*outworker/bag.Set[int]).Meet. -/
def t53k : Out :=
 (.loop 0 [(.int .i64 (.lit 0))] [.int .i64] 
  (.ite (.cmp .lss (.var 2) (.len 0))
   (.ite (.cmp .lss (.var 2) (.len 1))
    (.need (.tt true) [(.cmp .geq (.var 2) (.lit 0)), (.cmp .lss (.var 2) (.len 0))] 
    (.load (.tt true) (.idx (.var 0) (.var 2) 1) [.int .u64] 
    (.need (.tt true) [(.cmp .geq (.var 2) (.lit 0)), (.cmp .lss (.var 2) (.len 1))] 
    (.load (.tt true) (.idx (.var 1) (.var 2) 1) [.int .u64] 
    (.need (.tt true) [(.cmp .geq (.var 2) (.lit 0)), (.cmp .lss (.var 2) (.len 0))] 
    (.store (.idx (.var 0) (.var 2) 1) [(.int .u64 (.op .and .u64 (.var 3) (.var 4)))] 
    (.again 0 [(.int .i64 (.op .add .i64 (.var 2) (.lit 1)))])))))))
    (.need (.tt true) [(.cmp .geq (.var 2) (.lit 0)), (.cmp .lss (.var 2) (.len 0))] 
    (.store (.idx (.var 0) (.var 2) 1) [(.int .u64 (.lit 0))] 
    (.again 0 [(.int .i64 (.op .add .i64 (.var 2) (.lit 1)))]))))
   (.done (.tup []) [[(.val 0)]])))
def l53k : List (Nat × List Nat × List (Nat × Nat) × List Nat) := [(2, [10], [], [11, 12, 4, 13, 14, 15, 16, 17, 18, 19, 20, 21, 22, 23, 24, 25, 26, 27, 28, 29, 30, 31, 32, 33, 34, 35, 36, 37, 38])]
theorem e53k : ev Tryd.prog ⟨allF, [], l53k⟩ (bodyOf Tryd.f53) 0 (initSt [(.loc 1000000 0), (.agg [(.val 1)])] [[(.val 0)]] Tryd.f53.ntmps [.sl, .sl]) (finK Tryd.prog Tryd.f53.results [1]) = t53k := by kernel_rfl
theorem c53k {G : List Value} {h : H} {R : Value → List (List Value) → H → Prop} (hG : FitsL [.sl, .sl] G) (H : holds Tryd.prog R t53k G [] h) : CallsA Tryd.prog 53 (fun e => SV.denL G (fun k => e (k - 1000000)) [(.loc 1000000 0), (.agg [(.val 1)])]) ([[(.val 0)]].map (SV.denL G dE)) h R :=
  CallsA.of_ev (cf := ⟨allF, [], l53k⟩) (fn := Tryd.f53) (c := bodyOf Tryd.f53) (pcs := [[(.val 0)]]) Tryd.func53 (by rfl) callOK (by rfl) hG (by rfl) (by rw [show ([[(.val 0)]] : List (List SV)).map List.length = [1] from rfl, e53k]; exact H)
/-- What is left of (*outworker/bag.Set[int]).Cut. -/
def t54k : Out :=
 (.call 44 [(.agg [(.val 0)]), (.int .i64 (.var 1))] [] [] [] [(false, [.bool])] 
 (.ite (.var 2)
  (.need (.tt true) [(.cmp .geq (.op .quo .i64 (.var 1) (.lit 64)) (.lit 0)), (.cmp .lss (.op .quo .i64 (.var 1) (.lit 64)) (.len 0))] 
  (.load (.tt true) (.idx (.var 0) (.op .quo .i64 (.var 1) (.lit 64)) 1) [.int .u64] 
  (.need (.tt true) [(.cmp .geq (.op .rem .i64 (.var 1) (.lit 64)) (.lit 0))] 
  (.need (.tt true) [(.cmp .geq (.op .quo .i64 (.var 1) (.lit 64)) (.lit 0)), (.cmp .lss (.op .quo .i64 (.var 1) (.lit 64)) (.len 0))] 
  (.store (.idx (.var 0) (.op .quo .i64 (.var 1) (.lit 64)) 1) [(.int .u64 (.op .andNot .u64 (.var 3) (.op .shl .u64 (.lit 1) (.op .rem .i64 (.var 1) (.lit 64)))))] 
  (.done (.bool (.var 2)) [[(.val 0)]]))))))
  (.done (.bool (.var 2)) [[(.val 0)]])))
def l54k : List (Nat × List Nat × List (Nat × Nat) × List Nat) := []
theorem e54k : ev Tryd.prog ⟨allF, [], l54k⟩ (bodyOf Tryd.f54) 0 (initSt [(.loc 1000000 0), (.int .i64 (.var 1))] [[(.val 0)]] Tryd.f54.ntmps [.sl, .int .i64]) (finK Tryd.prog Tryd.f54.results [1]) = t54k := by kernel_rfl
theorem c54k {G : List Value} {h : H} {R : Value → List (List Value) → H → Prop} (hG : FitsL [.sl, .int .i64] G) (H : holds Tryd.prog R t54k G [] h) : CallsA Tryd.prog 54 (fun e => SV.denL G (fun k => e (k - 1000000)) [(.loc 1000000 0), (.int .i64 (.var 1))]) ([[(.val 0)]].map (SV.denL G dE)) h R :=
  CallsA.of_ev (cf := ⟨allF, [], l54k⟩) (fn := Tryd.f54) (c := bodyOf Tryd.f54) (pcs := [[(.val 0)]]) Tryd.func54 (by rfl) callOK (by rfl) hG (by rfl) (by rw [show ([[(.val 0)]] : List (List SV)).map List.length = [1] from rfl, e54k]; exact H)
end Go.Proofs.YtbgfabppmobpgaaDoor
