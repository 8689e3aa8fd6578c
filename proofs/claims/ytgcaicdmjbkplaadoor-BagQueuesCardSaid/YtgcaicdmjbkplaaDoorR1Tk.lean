/-
  What the evaluator leaves of the functions of this seat (trees, printed by a program of ours), and their contracts from it. Conditions: none.
-/
import Derived.Test.YtgcaicdmjbkplaaDoorR1Tr
set_option linter.unusedVariables false
set_option linter.unusedSimpArgs false
namespace Go.Proofs.YtgcaicdmjbkplaaDoor
open Go

/-- What is left of (*outworker/bag.Set[int]).Join. -/
def t14k : Out :=
 (.call 33 [(.agg [(.val 0)])] [] [] [] [(false, [.int .i64])] 
 (.call 23 [(.agg [(.val 1)])] [] [] [] [(false, [.sl])] 
 (.loop 0 [(.int .i64 (.lit 0)), (.val 0)] [.int .i64, .sl] 
  (.ite (.cmp .lss (.var 4) (.len 3))
   (.need (.tt true) [(.cmp .geq (.var 4) (.lit 0)), (.cmp .lss (.var 4) (.len 3))] 
   (.load (.tt true) (.idx (.var 3) (.var 4) 1) [.int .i64] 
   (.call 19 [(.loc 1000000 0), (.int .i64 (.var 6))] [1000000] [[(.val 5)]] [[.sl]] [(false, [.bool])] 
   (.again 0 [(.int .i64 (.op .add .i64 (.var 4) (.lit 1))), (.val 7)]))))
   (.call 33 [(.agg [(.val 5)])] [] [] [] [(false, [.int .i64])] 
   (.done (.bool (.cmp .gtr (.var 6) (.var 2))) [[(.val 5)]]))))))
def l14k : List (Nat × List Nat × List (Nat × Nat) × List Nat) := [(3, [15], [(1000000, 0)], [16, 17, 18, 7, 19, 20, 21, 22])]
theorem e14k : ev Tryd.prog ⟨allF, [], l14k⟩ (bodyOf Tryd.f14) 0 (initSt [(.loc 1000000 0), (.agg [(.val 1)])] [[(.val 0)]] Tryd.f14.ntmps [.sl, .sl]) (finK Tryd.prog Tryd.f14.results [1]) = t14k := by kernel_rfl
theorem c14k {G : List Value} {h : H} {R : Value → List (List Value) → H → Prop} (hG : FitsL [.sl, .sl] G) (H : holds Tryd.prog R t14k G [] h) : CallsA Tryd.prog 14 (fun e => SV.denL G (fun k => e (k - 1000000)) [(.loc 1000000 0), (.agg [(.val 1)])]) ([[(.val 0)]].map (SV.denL G dE)) h R :=
  CallsA.of_ev (cf := ⟨allF, [], l14k⟩) (fn := Tryd.f14) (c := bodyOf Tryd.f14) (pcs := [[(.val 0)]]) Tryd.func14 (by rfl) callOK (by rfl) hG (by rfl) (by rw [show ([[(.val 0)]] : List (List SV)).map List.length = [1] from rfl, e14k]; exact H)
/-- What is left of (*outworker/bag.Set[int]).Put. -/
def t19k : Out :=
 (.ite (.not (.ite (.cmp .lss (.var 1) (.lit 0)) (.tt true) (.cmp .geq (.var 1) (.lit 4096))))
  (.call 16 [(.agg [(.val 0)]), (.int .i64 (.var 1))] [] [] [] [(false, [.bool])] 
  (.ite (.var 2)
   (.done (.bool (.tt false)) [[(.val 0)]])
   (.loop 0 [(.val 0)] [.sl] 
    (.ite (.cmp .leq (.len 3) (.op .quo .i64 (.var 1) (.lit 64)))
     (.app 117 1 8 (.val 3) (.cells [(.int .u64 (.lit 0))] 1) 
     (.again 0 [(.val 4)]))
     (.need (.tt true) [(.cmp .geq (.op .quo .i64 (.var 1) (.lit 64)) (.lit 0)), (.cmp .lss (.op .quo .i64 (.var 1) (.lit 64)) (.len 3))] 
     (.load (.tt true) (.idx (.var 3) (.op .quo .i64 (.var 1) (.lit 64)) 1) [.int .u64] 
     (.need (.tt true) [(.cmp .geq (.op .rem .i64 (.var 1) (.lit 64)) (.lit 0))] 
     (.need (.tt true) [(.cmp .geq (.op .quo .i64 (.var 1) (.lit 64)) (.lit 0)), (.cmp .lss (.op .quo .i64 (.var 1) (.lit 64)) (.len 3))] 
     (.store (.idx (.var 3) (.op .quo .i64 (.var 1) (.lit 64)) 1) [(.int .u64 (.op .or .u64 (.var 4) (.op .shl .u64 (.lit 1) (.op .rem .i64 (.var 1) (.lit 64)))))] 
     (.done (.bool (.tt true)) [[(.val 3)]]))))))))))
  (.done (.bool (.tt false)) [[(.val 0)]]))
def l19k : List (Nat × List Nat × List (Nat × Nat) × List Nat) := [(3, [], [(1000000, 0)], [18, 19, 20, 21, 22, 23, 24, 25, 26, 27, 28, 29, 30, 31, 32, 33, 34])]
theorem e19k : ev Tryd.prog ⟨allF, [], l19k⟩ (bodyOf Tryd.f19) 0 (initSt [(.loc 1000000 0), (.int .i64 (.var 1))] [[(.val 0)]] Tryd.f19.ntmps [.sl, .int .i64]) (finK Tryd.prog Tryd.f19.results [1]) = t19k := by kernel_rfl
theorem c19k {G : List Value} {h : H} {R : Value → List (List Value) → H → Prop} (hG : FitsL [.sl, .int .i64] G) (H : holds Tryd.prog R t19k G [] h) : CallsA Tryd.prog 19 (fun e => SV.denL G (fun k => e (k - 1000000)) [(.loc 1000000 0), (.int .i64 (.var 1))]) ([[(.val 0)]].map (SV.denL G dE)) h R :=
  CallsA.of_ev (cf := ⟨allF, [], l19k⟩) (fn := Tryd.f19) (c := bodyOf Tryd.f19) (pcs := [[(.val 0)]]) Tryd.func19 (by rfl) callOK (by rfl) hG (by rfl) (by rw [show ([[(.val 0)]] : List (List SV)).map List.length = [1] from rfl, e19k]; exact H)
/-- What is left of (*outworker/outworkerlaw04.maker).next. -/
def t43k : Out :=
 (.ite (.cmp .eql (.len 0) (.lit 0))
  (.done (.int .i64 (.lit 0)) [[(.val 0)]])
  (.need (.tt true) [(.tt true), (.cmp .lss (.lit 0) (.len 0))] 
  (.load (.tt true) (.idx (.var 0) (.lit 0) 1) [.int .u8] 
  (.need (.tt true) [(.cmp .neq (.var 1) (.lit 0))] 
  (.need (.tt true) [(.tt true), (.cmp .leq (.lit 1) (.len 0))] 
  (.bnd (.slice (.val 0) (some (.lit 1)) none 1) 
  (.done (.int .i64 (.op .rem .i64 (.conv .i64 (.var 2)) (.var 1))) [[(.val 3)]])))))))
def l43k : List (Nat × List Nat × List (Nat × Nat) × List Nat) := []
theorem e43k : ev Tryd.prog ⟨allF, [], l43k⟩ (bodyOf Tryd.f43) 0 (initSt [(.loc 1000000 0), (.int .i64 (.var 1))] [[(.val 0)]] Tryd.f43.ntmps [.sl, .int .i64]) (finK Tryd.prog Tryd.f43.results [1]) = t43k := by kernel_rfl
theorem c43k {G : List Value} {h : H} {R : Value → List (List Value) → H → Prop} (hG : FitsL [.sl, .int .i64] G) (H : holds Tryd.prog R t43k G [] h) : CallsA Tryd.prog 43 (fun e => SV.denL G (fun k => e (k - 1000000)) [(.loc 1000000 0), (.int .i64 (.var 1))]) ([[(.val 0)]].map (SV.denL G dE)) h R :=
  CallsA.of_ev (cf := ⟨allF, [], l43k⟩) (fn := Tryd.f43) (c := bodyOf Tryd.f43) (pcs := [[(.val 0)]]) Tryd.func43 (by rfl) callOK (by rfl) hG (by rfl) (by rw [show ([[(.val 0)]] : List (List SV)).map List.length = [1] from rfl, e43k]; exact H)
/-- What is left of (*outworker/outworkerlaw04.maker).ins. -/
def t44k : Out :=
 (.call 43 [(.loc 1000000 0), (.int .i64 (.lit 9))] [1000000] [[(.val 0)]] [[.sl]] [(false, [.int .i64])] 
 (.ite (.cmp .eql (.conv .u8 (.op .add .i64 (.lit 1) (.var 3))) (.lit 1))
  (.call 43 [(.loc 1000000 0), (.int .i64 (.var 1))] [1000000] [[(.val 2)]] [[.sl]] [(false, [.int .i64])] 
  (.call 43 [(.loc 1000000 0), (.int .i64 (.lit 256))] [1000000] [[(.val 4)]] [[.sl]] [(false, [.int .i64])] 
  (.done (.agg [(.int .u8 (.conv .u8 (.op .add .i64 (.lit 1) (.var 3)))), (.int .u8 (.lit 0)), (.int .i64 (.var 5)), (.int .i64 (.lit 0)), (.int .i64 (.lit 0)), (.int .i64 (.op .sub .i64 (.var 7) (.lit 3))), (.cst (.slice none 0 0))]) [[(.val 6)]])))
  (.ite (.cmp .eql (.conv .u8 (.op .add .i64 (.lit 1) (.var 3))) (.lit 4))
   (.call 43 [(.loc 1000000 0), (.int .i64 (.var 1))] [1000000] [[(.val 2)]] [[.sl]] [(false, [.int .i64])] 
   (.call 43 [(.loc 1000000 0), (.int .i64 (.var 1))] [1000000] [[(.val 4)]] [[.sl]] [(false, [.int .i64])] 
   (.done (.agg [(.int .u8 (.conv .u8 (.op .add .i64 (.lit 1) (.var 3)))), (.int .u8 (.lit 0)), (.int .i64 (.var 5)), (.int .i64 (.var 7)), (.int .i64 (.lit 0)), (.int .i64 (.lit 0)), (.cst (.slice none 0 0))]) [[(.val 6)]])))
   (.ite (.cmp .eql (.conv .u8 (.op .add .i64 (.lit 1) (.var 3))) (.lit 5))
    (.call 43 [(.loc 1000000 0), (.int .i64 (.var 1))] [1000000] [[(.val 2)]] [[.sl]] [(false, [.int .i64])] 
    (.call 43 [(.loc 1000000 0), (.int .i64 (.var 1))] [1000000] [[(.val 4)]] [[.sl]] [(false, [.int .i64])] 
    (.done (.agg [(.int .u8 (.conv .u8 (.op .add .i64 (.lit 1) (.var 3)))), (.int .u8 (.lit 0)), (.int .i64 (.lit 0)), (.int .i64 (.var 5)), (.int .i64 (.var 7)), (.int .i64 (.lit 0)), (.cst (.slice none 0 0))]) [[(.val 6)]])))
    (.ite (.cmp .eql (.conv .u8 (.op .add .i64 (.lit 1) (.var 3))) (.lit 6))
     (.call 43 [(.loc 1000000 0), (.int .i64 (.var 1))] [1000000] [[(.val 2)]] [[.sl]] [(false, [.int .i64])] 
     (.call 43 [(.loc 1000000 0), (.int .i64 (.lit 5))] [1000000] [[(.val 4)]] [[.sl]] [(false, [.int .i64])] 
     (.call 43 [(.loc 1000000 0), (.int .i64 (.lit 4))] [1000000] [[(.val 6)]] [[.sl]] [(false, [.int .i64])] 
     (.loop 0 [(.int .i64 (.lit 0)), (.cst (.slice none 0 0)), (.val 8)] [.int .i64, .sl, .sl] 
      (.ite (.cmp .lss (.var 10) (.var 9))
       (.call 43 [(.loc 1000000 0), (.int .i64 (.var 1))] [1000000] [[(.val 12)]] [[.sl]] [(false, [.int .i64])] 
       (.app 3 1 8 (.val 11) (.cells [(.int .i64 (.var 14))] 1) 
       (.again 0 [(.int .i64 (.op .add .i64 (.var 10) (.lit 1))), (.val 15), (.val 13)])))
       (.done (.agg [(.int .u8 (.conv .u8 (.op .add .i64 (.lit 1) (.var 3)))), (.int .u8 (.lit 0)), (.int .i64 (.var 5)), (.int .i64 (.lit 0)), (.int .i64 (.lit 0)), (.int .i64 (.var 7)), (.val 11)]) [[(.val 12)]]))))))
     (.ite (.ite (.cmp .eql (.conv .u8 (.op .add .i64 (.lit 1) (.var 3))) (.lit 2)) (.cmp .eql (.conv .u8 (.op .add .i64 (.lit 1) (.var 3))) (.lit 2)) (.cmp .eql (.conv .u8 (.op .add .i64 (.lit 1) (.var 3))) (.lit 7)))
      (.call 43 [(.loc 1000000 0), (.int .i64 (.var 1))] [1000000] [[(.val 2)]] [[.sl]] [(false, [.int .i64])] 
      (.call 43 [(.loc 1000000 0), (.int .i64 (.var 1))] [1000000] [[(.val 4)]] [[.sl]] [(false, [.int .i64])] 
      (.done (.agg [(.int .u8 (.lit 2)), (.int .u8 (.lit 0)), (.int .i64 (.var 5)), (.int .i64 (.var 7)), (.int .i64 (.lit 0)), (.int .i64 (.lit 0)), (.cst (.slice none 0 0))]) [[(.val 6)]])))
      (.call 43 [(.loc 1000000 0), (.int .i64 (.lit 7))] [1000000] [[(.val 2)]] [[.sl]] [(false, [.int .i64])] 
      (.call 43 [(.loc 1000000 0), (.int .i64 (.var 1))] [1000000] [[(.val 4)]] [[.sl]] [(false, [.int .i64])] 
      (.call 43 [(.loc 1000000 0), (.int .i64 (.var 1))] [1000000] [[(.val 6)]] [[.sl]] [(false, [.int .i64])] 
      (.call 43 [(.loc 1000000 0), (.int .i64 (.var 1))] [1000000] [[(.val 8)]] [[.sl]] [(false, [.int .i64])] 
      (.done (.agg [(.int .u8 (.lit 3)), (.int .u8 (.conv .u8 (.op .add .i64 (.lit 1) (.var 5)))), (.int .i64 (.var 7)), (.int .i64 (.var 9)), (.int .i64 (.var 11)), (.int .i64 (.lit 0)), (.cst (.slice none 0 0))]) [[(.val 10)]])))))))))))
def l44k : List (Nat × List Nat × List (Nat × Nat) × List Nat) := [(12, [53], [(6, 6), (1000000, 0)], [54, 55, 56, 57, 58, 59, 60, 61, 62, 63])]
theorem e44k : ev Tryd.prog ⟨allF, [], l44k⟩ (bodyOf Tryd.f44) 0 (initSt [(.loc 1000000 0), (.int .i64 (.var 1))] [[(.val 0)]] Tryd.f44.ntmps [.sl, .int .i64]) (finK Tryd.prog Tryd.f44.results [1]) = t44k := by kernel_rfl
theorem c44k {G : List Value} {h : H} {R : Value → List (List Value) → H → Prop} (hG : FitsL [.sl, .int .i64] G) (H : holds Tryd.prog R t44k G [] h) : CallsA Tryd.prog 44 (fun e => SV.denL G (fun k => e (k - 1000000)) [(.loc 1000000 0), (.int .i64 (.var 1))]) ([[(.val 0)]].map (SV.denL G dE)) h R :=
  CallsA.of_ev (cf := ⟨allF, [], l44k⟩) (fn := Tryd.f44) (c := bodyOf Tryd.f44) (pcs := [[(.val 0)]]) Tryd.func44 (by rfl) callOK (by rfl) hG (by rfl) (by rw [show ([[(.val 0)]] : List (List SV)).map List.length = [1] from rfl, e44k]; exact H)
/-- What is left of (*outworker/bag.Queue[int]).Put. -/
def t46k : Out :=
 (.look (.int .i64) .bool (.bool false) (.val 1) (.int .i64 (.var 2)) 
 (.ite (.var 3)
  (.done (.bool (.tt false)) [[(.val 0), (.val 1)]])
  (.ite (.nilp 1)
   (.mkMap 
   (.app 3 1 8 (.val 0) (.cells [(.int .i64 (.var 2))] 1) 
   (.ment (.int .i64) .bool (.bool false) (.val 5) (.int .i64 (.var 2)) 
   (.ents (.val 5) (.int .i64 (.var 8)) (.bool (.tt true)) 
   (.done (.bool (.tt true)) [[(.val 6), (.val 5)]])))))
   (.app 3 1 8 (.val 0) (.cells [(.int .i64 (.var 2))] 1) 
   (.ment (.int .i64) .bool (.bool false) (.val 1) (.int .i64 (.var 2)) 
   (.ents (.val 1) (.int .i64 (.var 7)) (.bool (.tt true)) 
   (.done (.bool (.tt true)) [[(.val 5), (.val 1)]])))))))
def l46k : List (Nat × List Nat × List (Nat × Nat) × List Nat) := []
theorem e46k : ev Tryd.prog ⟨allF, [], l46k⟩ (bodyOf Tryd.f46) 0 (initSt [(.loc 1000000 0), (.int .i64 (.var 2))] [[(.val 0), (.val 1)]] Tryd.f46.ntmps [.sl, .map, .int .i64]) (finK Tryd.prog Tryd.f46.results [2]) = t46k := by kernel_rfl
theorem c46k {G : List Value} {h : H} {R : Value → List (List Value) → H → Prop} (hG : FitsL [.sl, .map, .int .i64] G) (H : holds Tryd.prog R t46k G [] h) : CallsA Tryd.prog 46 (fun e => SV.denL G (fun k => e (k - 1000000)) [(.loc 1000000 0), (.int .i64 (.var 2))]) ([[(.val 0), (.val 1)]].map (SV.denL G dE)) h R :=
  CallsA.of_ev (cf := ⟨allF, [], l46k⟩) (fn := Tryd.f46) (c := bodyOf Tryd.f46) (pcs := [[(.val 0), (.val 1)]]) Tryd.func46 (by rfl) callOK (by rfl) hG (by rfl) (by rw [show ([[(.val 0), (.val 1)]] : List (List SV)).map List.length = [2] from rfl, e46k]; exact H)
/-- What is left of (*outworker/bag.Queue[int]).Len. -/
def t47k : Out :=
 (.done (.int .i64 (.len 0)) [[(.val 0), (.val 1)]])
def l47k : List (Nat × List Nat × List (Nat × Nat) × List Nat) := []
theorem e47k : ev Tryd.prog ⟨allF, [], l47k⟩ (bodyOf Tryd.f47) 0 (initSt [(.loc 1000000 0)] [[(.val 0), (.val 1)]] Tryd.f47.ntmps [.sl, .map]) (finK Tryd.prog Tryd.f47.results [2]) = t47k := by kernel_rfl
theorem c47k {G : List Value} {h : H} {R : Value → List (List Value) → H → Prop} (hG : FitsL [.sl, .map] G) (H : holds Tryd.prog R t47k G [] h) : CallsA Tryd.prog 47 (fun e => SV.denL G (fun k => e (k - 1000000)) [(.loc 1000000 0)]) ([[(.val 0), (.val 1)]].map (SV.denL G dE)) h R :=
  CallsA.of_ev (cf := ⟨allF, [], l47k⟩) (fn := Tryd.f47) (c := bodyOf Tryd.f47) (pcs := [[(.val 0), (.val 1)]]) Tryd.func47 (by rfl) callOK (by rfl) hG (by rfl) (by rw [show ([[(.val 0), (.val 1)]] : List (List SV)).map List.length = [2] from rfl, e47k]; exact H)
/-- What is left of (*outworker/bag.Queue[int]).Take. -/
def t48k : Out :=
 (.ite (.cmp .eql (.len 0) (.lit 0))
  (.done (.tup [(.int .i64 (.lit 0)), (.bool (.tt false))]) [[(.val 0), (.val 1)]])
  (.need (.tt true) [(.tt true), (.cmp .lss (.lit 0) (.len 0))] 
  (.load (.tt true) (.idx (.var 0) (.lit 0) 1) [.int .i64] 
  (.need (.tt true) [(.tt true), (.cmp .leq (.lit 1) (.len 0))] 
  (.bnd (.slice (.val 0) (some (.lit 1)) none 1) 
  (.mdel (.int .i64) (.val 1) (.int .i64 (.var 2)) 
  (.done (.tup [(.int .i64 (.var 2)), (.bool (.tt true))]) [[(.val 3), (.val 1)]])))))))
def l48k : List (Nat × List Nat × List (Nat × Nat) × List Nat) := []
theorem e48k : ev Tryd.prog ⟨allF, [], l48k⟩ (bodyOf Tryd.f48) 0 (initSt [(.loc 1000000 0)] [[(.val 0), (.val 1)]] Tryd.f48.ntmps [.sl, .map]) (finK Tryd.prog Tryd.f48.results [2]) = t48k := by kernel_rfl
theorem c48k {G : List Value} {h : H} {R : Value → List (List Value) → H → Prop} (hG : FitsL [.sl, .map] G) (H : holds Tryd.prog R t48k G [] h) : CallsA Tryd.prog 48 (fun e => SV.denL G (fun k => e (k - 1000000)) [(.loc 1000000 0)]) ([[(.val 0), (.val 1)]].map (SV.denL G dE)) h R :=
  CallsA.of_ev (cf := ⟨allF, [], l48k⟩) (fn := Tryd.f48) (c := bodyOf Tryd.f48) (pcs := [[(.val 0), (.val 1)]]) Tryd.func48 (by rfl) callOK (by rfl) hG (by rfl) (by rw [show ([[(.val 0), (.val 1)]] : List (List SV)).map List.length = [2] from rfl, e48k]; exact H)
/-- What is left of (*outworker/paths.walk).down. -/
def t62k : Out :=
 (.call 19 [(.loc 1000000 1), (.int .i64 (.var 3))] [1000000] [[(.val 0), (.val 1), (.val 2)]] [[.sl, .sl, .sl]] [(false, [.bool])] 
 (.ite (.not (.var 7))
  (.done (.tup []) [[(.val 4), (.val 5), (.val 6)]])
  (.need (.tt true) [(.cmp .geq (.var 3) (.lit 0)), (.cmp .lss (.var 3) (.len 4))] 
  (.load (.tt true) (.fld (.idx (.var 4) (.var 3) 5) 1) [.int .u8, .int .i64, .int .i64, .int .i64] 
  (.call 49 [(.agg [(.int .u8 (.var 8)), (.int .i64 (.var 9)), (.int .i64 (.var 10)), (.int .i64 (.var 11))])] [] [] [] [(false, [.sl])] 
  (.loop 0 [(.int .i64 (.lit 0)), (.val 4), (.val 5), (.val 6)] [.int .i64, .sl, .sl, .sl] 
   (.ite (.cmp .lss (.var 13) (.len 12))
    (.need (.tt true) [(.cmp .geq (.var 13) (.lit 0)), (.cmp .lss (.var 13) (.len 12))] 
    (.load (.tt true) (.idx (.var 12) (.var 13) 1) [.int .i64] 
    (.call 62 [(.loc 1000000 0), (.int .i64 (.var 17))] [1000000] [[(.val 14), (.val 15), (.val 16)]] [[.sl, .sl, .sl]] [] 
    (.again 0 [(.int .i64 (.op .add .i64 (.var 13) (.lit 1))), (.val 18), (.val 19), (.val 20)]))))
    (.app 3 1 8 (.val 16) (.cells [(.int .i64 (.var 3))] 1) 
    (.done (.tup []) [[(.val 14), (.val 15), (.val 17)]])))))))))
def l62k : List (Nat × List Nat × List (Nat × Nat) × List Nat) := [(2, [22], [(1000000, 0), (1000000, 1), (1000000, 2)], [23, 24, 25, 5, 26, 27, 28, 29])]
theorem e62k : ev Tryd.prog ⟨allF, [], l62k⟩ (bodyOf Tryd.f62) 0 (initSt [(.loc 1000000 0), (.int .i64 (.var 3))] [[(.val 0), (.val 1), (.val 2)]] Tryd.f62.ntmps [.sl, .sl, .sl, .int .i64]) (finK Tryd.prog Tryd.f62.results [3]) = t62k := by kernel_rfl
theorem c62k {G : List Value} {h : H} {R : Value → List (List Value) → H → Prop} (hG : FitsL [.sl, .sl, .sl, .int .i64] G) (H : holds Tryd.prog R t62k G [] h) : CallsA Tryd.prog 62 (fun e => SV.denL G (fun k => e (k - 1000000)) [(.loc 1000000 0), (.int .i64 (.var 3))]) ([[(.val 0), (.val 1), (.val 2)]].map (SV.denL G dE)) h R :=
  CallsA.of_ev (cf := ⟨allF, [], l62k⟩) (fn := Tryd.f62) (c := bodyOf Tryd.f62) (pcs := [[(.val 0), (.val 1), (.val 2)]]) Tryd.func62 (by rfl) callOK (by rfl) hG (by rfl) (by rw [show ([[(.val 0), (.val 1), (.val 2)]] : List (List SV)).map List.length = [3] from rfl, e62k]; exact H)
/-- What is left of (*outworker/bag.Set[int]).Cut. -/
def t34k : Out :=
 (.call 16 [(.agg [(.val 0)]), (.int .i64 (.var 1))] [] [] [] [(false, [.bool])] 
 (.ite (.var 2)
  (.need (.tt true) [(.cmp .geq (.op .quo .i64 (.var 1) (.lit 64)) (.lit 0)), (.cmp .lss (.op .quo .i64 (.var 1) (.lit 64)) (.len 0))] 
  (.load (.tt true) (.idx (.var 0) (.op .quo .i64 (.var 1) (.lit 64)) 1) [.int .u64] 
  (.need (.tt true) [(.cmp .geq (.op .rem .i64 (.var 1) (.lit 64)) (.lit 0))] 
  (.need (.tt true) [(.cmp .geq (.op .quo .i64 (.var 1) (.lit 64)) (.lit 0)), (.cmp .lss (.op .quo .i64 (.var 1) (.lit 64)) (.len 0))] 
  (.store (.idx (.var 0) (.op .quo .i64 (.var 1) (.lit 64)) 1) [(.int .u64 (.op .andNot .u64 (.var 3) (.op .shl .u64 (.lit 1) (.op .rem .i64 (.var 1) (.lit 64)))))] 
  (.done (.bool (.var 2)) [[(.val 0)]]))))))
  (.done (.bool (.var 2)) [[(.val 0)]])))
def l34k : List (Nat × List Nat × List (Nat × Nat) × List Nat) := []
theorem e34k : ev Tryd.prog ⟨allF, [], l34k⟩ (bodyOf Tryd.f34) 0 (initSt [(.loc 1000000 0), (.int .i64 (.var 1))] [[(.val 0)]] Tryd.f34.ntmps [.sl, .int .i64]) (finK Tryd.prog Tryd.f34.results [1]) = t34k := by kernel_rfl
theorem c34k {G : List Value} {h : H} {R : Value → List (List Value) → H → Prop} (hG : FitsL [.sl, .int .i64] G) (H : holds Tryd.prog R t34k G [] h) : CallsA Tryd.prog 34 (fun e => SV.denL G (fun k => e (k - 1000000)) [(.loc 1000000 0), (.int .i64 (.var 1))]) ([[(.val 0)]].map (SV.denL G dE)) h R :=
  CallsA.of_ev (cf := ⟨allF, [], l34k⟩) (fn := Tryd.f34) (c := bodyOf Tryd.f34) (pcs := [[(.val 0)]]) Tryd.func34 (by rfl) callOK (by rfl) hG (by rfl) (by rw [show ([[(.val 0)]] : List (List SV)).map List.length = [1] from rfl, e34k]; exact H)
/-- What is left of (*outworker/bag.Set[int]).Meet. -/
def t36k : Out :=
 (.loop 0 [(.int .i64 (.lit 0))] [.int .i64] 
  (.ite (.cmp .lss (.var 2) (.len 0))
   (.ite (.cmp .lss (.var 2) (.len 1))
    (.need (.tt true) [(.cmp .geq (.var 2) (.lit 0)), (.cmp .lss (.var 2) (.len 0))] 
    (.load (.tt true) (.idx (.var 0) (.var 2) 1) [.int .u64] 
    (.need (.tt true) [(.cmp .geq (.var 2) (.lit 0)), (.cmp .lss (.var 2) (.len 1))] 
    (.load (.tt true) (.idx (.var 1) (.var 2) 1) [.int .u64] 
    (.need (.tt true) [(.cmp .geq (.var 2) (.lit 0)), (.cmp .lss (.var 2) (.len 0))] 
    (.store (.idx (.var 0) (.var 2) 1) [(.int .u64 (.op .and .u64 (.var 3) (.var 4)))] 
    (.again 0 [(.int .i64 (.op .add .i64 (.var 2) (.lit 1)))])))))))
    (.need (.tt true) [(.cmp .geq (.var 2) (.lit 0)), (.cmp .lss (.var 2) (.len 0))] 
    (.store (.idx (.var 0) (.var 2) 1) [(.int .u64 (.lit 0))] 
    (.again 0 [(.int .i64 (.op .add .i64 (.var 2) (.lit 1)))]))))
   (.done (.tup []) [[(.val 0)]])))
def l36k : List (Nat × List Nat × List (Nat × Nat) × List Nat) := [(2, [10], [], [11, 12, 4, 13, 14, 15, 16, 17, 18, 19, 20, 21, 22, 23, 24, 25, 26, 27, 28, 29, 30, 31, 32, 33, 34, 35, 36, 37, 38])]
theorem e36k : ev Tryd.prog ⟨allF, [], l36k⟩ (bodyOf Tryd.f36) 0 (initSt [(.loc 1000000 0), (.agg [(.val 1)])] [[(.val 0)]] Tryd.f36.ntmps [.sl, .sl]) (finK Tryd.prog Tryd.f36.results [1]) = t36k := by kernel_rfl
theorem c36k {G : List Value} {h : H} {R : Value → List (List Value) → H → Prop} (hG : FitsL [.sl, .sl] G) (H : holds Tryd.prog R t36k G [] h) : CallsA Tryd.prog 36 (fun e => SV.denL G (fun k => e (k - 1000000)) [(.loc 1000000 0), (.agg [(.val 1)])]) ([[(.val 0)]].map (SV.denL G dE)) h R :=
  CallsA.of_ev (cf := ⟨allF, [], l36k⟩) (fn := Tryd.f36) (c := bodyOf Tryd.f36) (pcs := [[(.val 0)]]) Tryd.func36 (by rfl) callOK (by rfl) hG (by rfl) (by rw [show ([[(.val 0)]] : List (List SV)).map List.length = [1] from rfl, e36k]; exact H)
/-- What is left of (*outworker/bag.Set[int]).Less. -/
def t37k : Out :=
 (.loop 0 [(.int .i64 (.lit 0))] [.int .i64] 
  (.ite (.cmp .lss (.var 2) (.ite (.cmp .lss (.len 1) (.len 0)) (.len 1) (.len 0)))
   (.need (.tt true) [(.cmp .geq (.var 2) (.lit 0)), (.cmp .lss (.var 2) (.len 0))] 
   (.load (.tt true) (.idx (.var 0) (.var 2) 1) [.int .u64] 
   (.need (.tt true) [(.cmp .geq (.var 2) (.lit 0)), (.cmp .lss (.var 2) (.len 1))] 
   (.load (.tt true) (.idx (.var 1) (.var 2) 1) [.int .u64] 
   (.need (.tt true) [(.cmp .geq (.var 2) (.lit 0)), (.cmp .lss (.var 2) (.len 0))] 
   (.store (.idx (.var 0) (.var 2) 1) [(.int .u64 (.op .andNot .u64 (.var 3) (.var 4)))] 
   (.again 0 [(.int .i64 (.op .add .i64 (.var 2) (.lit 1)))])))))))
   (.done (.tup []) [[(.val 0)]])))
def l37k : List (Nat × List Nat × List (Nat × Nat) × List Nat) := [(2, [14], [], [15, 16, 4, 17, 18, 19, 20, 21, 22, 23, 24, 25, 26, 27, 28, 29, 30, 31])]
theorem e37k : ev Tryd.prog ⟨allF, [], l37k⟩ (bodyOf Tryd.f37) 0 (initSt [(.loc 1000000 0), (.agg [(.val 1)])] [[(.val 0)]] Tryd.f37.ntmps [.sl, .sl]) (finK Tryd.prog Tryd.f37.results [1]) = t37k := by kernel_rfl
theorem c37k {G : List Value} {h : H} {R : Value → List (List Value) → H → Prop} (hG : FitsL [.sl, .sl] G) (H : holds Tryd.prog R t37k G [] h) : CallsA Tryd.prog 37 (fun e => SV.denL G (fun k => e (k - 1000000)) [(.loc 1000000 0), (.agg [(.val 1)])]) ([[(.val 0)]].map (SV.denL G dE)) h R :=
  CallsA.of_ev (cf := ⟨allF, [], l37k⟩) (fn := Tryd.f37) (c := bodyOf Tryd.f37) (pcs := [[(.val 0)]]) Tryd.func37 (by rfl) callOK (by rfl) hG (by rfl) (by rw [show ([[(.val 0)]] : List (List SV)).map List.length = [1] from rfl, e37k]; exact H)
/-- What is left of (*outworker/bag.Set[int]).Put. -/
def t19 : Out :=
 (.load (.not (.ite (.cmp .lss (.var 1) (.lit 0)) (.tt true) (.cmp .geq (.var 1) (.lit 4096)))) (.var 0) [.sl] 
 (.ite (.not (.ite (.cmp .lss (.var 1) (.lit 0)) (.tt true) (.cmp .geq (.var 1) (.lit 4096))))
  (.call 16 [(.agg [(.val 2)]), (.int .i64 (.var 1))] [] [] [] [(false, [.bool])] 
  (.ite (.var 3)
   (.done (.bool (.tt false)) [])
   (.loop 0 [] [] 
    (.load (.tt true) (.fld (.var 0) 0) [.sl] 
    (.ite (.cmp .leq (.len 4) (.op .quo .i64 (.var 1) (.lit 64)))
     (.load (.tt true) (.fld (.var 0) 0) [.sl] 
     (.app 117 1 8 (.val 5) (.cells [(.int .u64 (.lit 0))] 1) 
     (.store (.fld (.var 0) 0) [(.val 6)] 
     (.again 0 []))))
     (.load (.tt true) (.fld (.var 0) 0) [.sl] 
     (.need (.tt true) [(.cmp .geq (.op .quo .i64 (.var 1) (.lit 64)) (.lit 0)), (.cmp .lss (.op .quo .i64 (.var 1) (.lit 64)) (.len 5))] 
     (.load (.tt true) (.idx (.var 5) (.op .quo .i64 (.var 1) (.lit 64)) 1) [.int .u64] 
     (.need (.tt true) [(.cmp .geq (.op .rem .i64 (.var 1) (.lit 64)) (.lit 0))] 
     (.need (.tt true) [(.cmp .geq (.op .quo .i64 (.var 1) (.lit 64)) (.lit 0)), (.cmp .lss (.op .quo .i64 (.var 1) (.lit 64)) (.len 5))] 
     (.store (.idx (.var 5) (.op .quo .i64 (.var 1) (.lit 64)) 1) [(.int .u64 (.op .or .u64 (.var 6) (.op .shl .u64 (.lit 1) (.op .rem .i64 (.var 1) (.lit 64)))))] 
     (.done (.bool (.tt true)) []))))))))))))
  (.done (.bool (.tt false)) [])))
def l19 : List (Nat × List Nat × List (Nat × Nat) × List Nat) := [(3, [], [], [18, 19, 20, 21, 22, 23, 24, 25, 26, 27, 28, 29, 30, 31, 32, 33, 34])]
theorem e19 : ev Tryd.prog ⟨allF, [], l19⟩ (bodyOf Tryd.f19) 0 (initSt [(.ptr (.var 0)), (.int .i64 (.var 1))] [] Tryd.f19.ntmps [.ptr, .int .i64]) (finK Tryd.prog Tryd.f19.results []) = t19 := by kernel_rfl
theorem c19 {G : List Value} {h : H} {R : Value → List (List Value) → H → Prop} (hG : FitsL [.ptr, .int .i64] G) (H : holds Tryd.prog R t19 G [] h) : CallsA Tryd.prog 19 (fun e => SV.denL G (fun k => e (k - 1000000)) [(.ptr (.var 0)), (.int .i64 (.var 1))]) ([].map (SV.denL G dE)) h R :=
  CallsA.of_ev (cf := ⟨allF, [], l19⟩) (fn := Tryd.f19) (c := bodyOf Tryd.f19) (pcs := []) Tryd.func19 (by rfl) callOK (by rfl) hG (by rfl) (by rw [show ([] : List (List SV)).map List.length = [] from rfl, e19]; exact H)
/-- What is left of (*outworker/bag.Set[int]).Join. -/
def t14 : Out :=
 (.load (.tt true) (.var 0) [.sl] 
 (.call 33 [(.agg [(.val 2)])] [] [] [] [(false, [.int .i64])] 
 (.call 23 [(.agg [(.val 1)])] [] [] [] [(false, [.sl])] 
 (.loop 0 [(.int .i64 (.lit 0))] [.int .i64] 
  (.ite (.cmp .lss (.var 5) (.len 4))
   (.need (.tt true) [(.cmp .geq (.var 5) (.lit 0)), (.cmp .lss (.var 5) (.len 4))] 
   (.load (.tt true) (.idx (.var 4) (.var 5) 1) [.int .i64] 
   (.call 19 [(.ptr (.var 0)), (.int .i64 (.var 6))] [] [] [] [(false, [.bool])] 
   (.again 0 [(.int .i64 (.op .add .i64 (.var 5) (.lit 1)))]))))
   (.load (.tt true) (.var 0) [.sl] 
   (.call 33 [(.agg [(.val 6)])] [] [] [] [(false, [.int .i64])] 
   (.done (.bool (.cmp .gtr (.var 7) (.var 3))) []))))))))
def l14 : List (Nat × List Nat × List (Nat × Nat) × List Nat) := [(3, [15], [], [16, 17, 18, 7, 19, 20, 21, 22])]
theorem e14 : ev Tryd.prog ⟨allF, [], l14⟩ (bodyOf Tryd.f14) 0 (initSt [(.ptr (.var 0)), (.agg [(.val 1)])] [] Tryd.f14.ntmps [.ptr, .sl]) (finK Tryd.prog Tryd.f14.results []) = t14 := by kernel_rfl
theorem c14 {G : List Value} {h : H} {R : Value → List (List Value) → H → Prop} (hG : FitsL [.ptr, .sl] G) (H : holds Tryd.prog R t14 G [] h) : CallsA Tryd.prog 14 (fun e => SV.denL G (fun k => e (k - 1000000)) [(.ptr (.var 0)), (.agg [(.val 1)])]) ([].map (SV.denL G dE)) h R :=
  CallsA.of_ev (cf := ⟨allF, [], l14⟩) (fn := Tryd.f14) (c := bodyOf Tryd.f14) (pcs := []) Tryd.func14 (by rfl) callOK (by rfl) hG (by rfl) (by rw [show ([] : List (List SV)).map List.length = [] from rfl, e14]; exact H)
end Go.Proofs.YtgcaicdmjbkplaaDoor
