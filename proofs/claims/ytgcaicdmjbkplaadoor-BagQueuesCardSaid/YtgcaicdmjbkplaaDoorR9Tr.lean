/-
  What the evaluator leaves of the functions of this seat (trees, printed by a program of ours), and their contracts from it. Conditions: none.
-/
import Derived.Test.YtgcaicdmjbkplaaDoorR1Tr
set_option linter.unusedVariables false
set_option linter.unusedSimpArgs false
namespace Go.Proofs.YtgcaicdmjbkplaaDoor
open Go

/-- What is left of outworker/outworkerlaw09.Awake. -/
def t17 : Out :=
 (.alloc 3 [(.int .i64 (.lit 5)), (.int .i64 (.lit 3)), (.int .i64 (.lit 5))] (.lsl 3) 
 (.call 45 [(.val 0)] [] [] [] [(true, [.sl])] 
 (.call 26 [(.loc 2 0), (.str (.str ⟨#[120]⟩))] [2] [[(.cst (.slice none 0 0)), (.cst (.map none))]] [[.sl, .map]] [(false, [.bool])] 
 (.call 26 [(.loc 2 0), (.str (.str ⟨#[120]⟩))] [2] [[(.val 2), (.val 3)]] [[.sl, .map]] [(false, [.bool])] 
 (.call 29 [(.loc 3 0), (.str (.str ⟨#[107]⟩)), (.int .i64 (.lit 1))] [3] [[(.cst (.slice none 0 0)), (.cst (.slice none 0 0))]] [[.sl, .sl]] [(false, [.bool])] 
 (.call 29 [(.loc 3 0), (.str (.str ⟨#[107]⟩)), (.int .i64 (.lit 2))] [3] [[(.val 8), (.val 9)]] [[.sl, .sl]] [(false, [.bool])] 
 (.call 31 [(.loc 3 0), (.str (.str ⟨#[107]⟩))] [3] [[(.val 11), (.val 12)]] [[.sl, .sl]] [(false, [.int .i64]), (false, [.bool])] 
 (.call 23 [(.agg [(.val 1)])] [] [] [] [(false, [.sl])] 
 (.alloc 3 [(.int .i64 (.lit 3)), (.int .i64 (.lit 5))] (.lsl 2) 
 (.call 40 [(.val 18), (.val 19)] [] [] [] [(false, [.bool])] 
 (.done (.bool (.ite (.ite (.ite (.ite (.ite (.ite (.var 20) (.var 4) (.tt false)) (.not (.var 7)) (.tt false)) (.var 10) (.tt false)) (.not (.var 13)) (.tt false)) (.var 17) (.tt false)) (.cmp .eql (.var 16) (.lit 2)) (.tt false))) [])))))))))))
def l17 : List (Nat × List Nat × List (Nat × Nat) × List Nat) := []
theorem e17 : ev Tryd.prog ⟨allF, [10, 22], l17⟩ (bodyOf Tryd.f17) 0 (initSt [] [] Tryd.f17.ntmps []) (finK Tryd.prog Tryd.f17.results []) = t17 := by kernel_rfl
theorem c17 {G : List Value} {h : H} {R : Value → List (List Value) → H → Prop} (hG : FitsL [] G) (H : holds Tryd.prog R t17 G [] h) : CallsA Tryd.prog 17 (fun e => SV.denL G (fun k => e (k - 1000000)) []) ([].map (SV.denL G dE)) h R :=
  CallsA.of_ev (cf := ⟨allF, [10, 22], l17⟩) (fn := Tryd.f17) (c := bodyOf Tryd.f17) (pcs := []) Tryd.func17 (by rfl) callOK (by rfl) hG (by rfl) (by rw [show ([] : List (List SV)).map List.length = [] from rfl, e17]; exact H)
/-- What is left of (*outworker/bag.Queue[string]).Put. -/
def t26k : Out :=
 (.look .string .bool (.bool false) (.val 1) (.str (.var 2)) 
 (.ite (.var 3)
  (.done (.bool (.tt false)) [[(.val 0), (.val 1)]])
  (.ite (.nilp 1)
   (.mkMap 
   (.app 9 1 16 (.val 0) (.cells [(.str (.var 2))] 1) 
   (.ment .string .bool (.bool false) (.val 5) (.str (.var 2)) 
   (.ents (.val 5) (.int .i64 (.var 8)) (.bool (.tt true)) 
   (.done (.bool (.tt true)) [[(.val 6), (.val 5)]])))))
   (.app 9 1 16 (.val 0) (.cells [(.str (.var 2))] 1) 
   (.ment .string .bool (.bool false) (.val 1) (.str (.var 2)) 
   (.ents (.val 1) (.int .i64 (.var 7)) (.bool (.tt true)) 
   (.done (.bool (.tt true)) [[(.val 5), (.val 1)]])))))))
def l26k : List (Nat × List Nat × List (Nat × Nat) × List Nat) := []
theorem e26k : ev Tryd.prog ⟨allF, [], l26k⟩ (bodyOf Tryd.f26) 0 (initSt [(.loc 1000000 0), (.str (.var 2))] [[(.val 0), (.val 1)]] Tryd.f26.ntmps [.sl, .map, .str]) (finK Tryd.prog Tryd.f26.results [2]) = t26k := by kernel_rfl
theorem c26k {G : List Value} {h : H} {R : Value → List (List Value) → H → Prop} (hG : FitsL [.sl, .map, .str] G) (H : holds Tryd.prog R t26k G [] h) : CallsA Tryd.prog 26 (fun e => SV.denL G (fun k => e (k - 1000000)) [(.loc 1000000 0), (.str (.var 2))]) ([[(.val 0), (.val 1)]].map (SV.denL G dE)) h R :=
  CallsA.of_ev (cf := ⟨allF, [], l26k⟩) (fn := Tryd.f26) (c := bodyOf Tryd.f26) (pcs := [[(.val 0), (.val 1)]]) Tryd.func26 (by rfl) callOK (by rfl) hG (by rfl) (by rw [show ([[(.val 0), (.val 1)]] : List (List SV)).map List.length = [2] from rfl, e26k]; exact H)
/-- What is left of (*outworker/bag.Queue[string]).Take. -/
def t27k : Out :=
 (.ite (.cmp .eql (.len 0) (.lit 0))
  (.done (.tup [(.str (.str ⟨#[]⟩)), (.bool (.tt false))]) [[(.val 0), (.val 1)]])
  (.need (.tt true) [(.tt true), (.cmp .lss (.lit 0) (.len 0))] 
  (.load (.tt true) (.idx (.var 0) (.lit 0) 1) [.str] 
  (.need (.tt true) [(.tt true), (.cmp .leq (.lit 1) (.len 0))] 
  (.bnd (.slice (.val 0) (some (.lit 1)) none 1) 
  (.mdel .string (.val 1) (.str (.var 2)) 
  (.done (.tup [(.str (.var 2)), (.bool (.tt true))]) [[(.val 3), (.val 1)]])))))))
def l27k : List (Nat × List Nat × List (Nat × Nat) × List Nat) := []
theorem e27k : ev Tryd.prog ⟨allF, [], l27k⟩ (bodyOf Tryd.f27) 0 (initSt [(.loc 1000000 0)] [[(.val 0), (.val 1)]] Tryd.f27.ntmps [.sl, .map]) (finK Tryd.prog Tryd.f27.results [2]) = t27k := by kernel_rfl
theorem c27k {G : List Value} {h : H} {R : Value → List (List Value) → H → Prop} (hG : FitsL [.sl, .map] G) (H : holds Tryd.prog R t27k G [] h) : CallsA Tryd.prog 27 (fun e => SV.denL G (fun k => e (k - 1000000)) [(.loc 1000000 0)]) ([[(.val 0), (.val 1)]].map (SV.denL G dE)) h R :=
  CallsA.of_ev (cf := ⟨allF, [], l27k⟩) (fn := Tryd.f27) (c := bodyOf Tryd.f27) (pcs := [[(.val 0), (.val 1)]]) Tryd.func27 (by rfl) callOK (by rfl) hG (by rfl) (by rw [show ([[(.val 0), (.val 1)]] : List (List SV)).map List.length = [2] from rfl, e27k]; exact H)
/-- What is left of (*outworker/bag.Queue[string]).Len. -/
def t28k : Out :=
 (.done (.int .i64 (.len 0)) [[(.val 0), (.val 1)]])
def l28k : List (Nat × List Nat × List (Nat × Nat) × List Nat) := []
theorem e28k : ev Tryd.prog ⟨allF, [], l28k⟩ (bodyOf Tryd.f28) 0 (initSt [(.loc 1000000 0)] [[(.val 0), (.val 1)]] Tryd.f28.ntmps [.sl, .map]) (finK Tryd.prog Tryd.f28.results [2]) = t28k := by kernel_rfl
theorem c28k {G : List Value} {h : H} {R : Value → List (List Value) → H → Prop} (hG : FitsL [.sl, .map] G) (H : holds Tryd.prog R t28k G [] h) : CallsA Tryd.prog 28 (fun e => SV.denL G (fun k => e (k - 1000000)) [(.loc 1000000 0)]) ([[(.val 0), (.val 1)]].map (SV.denL G dE)) h R :=
  CallsA.of_ev (cf := ⟨allF, [], l28k⟩) (fn := Tryd.f28) (c := bodyOf Tryd.f28) (pcs := [[(.val 0), (.val 1)]]) Tryd.func28 (by rfl) callOK (by rfl) hG (by rfl) (by rw [show ([[(.val 0), (.val 1)]] : List (List SV)).map List.length = [2] from rfl, e28k]; exact H)
/-- What is left of (*outworker/bag.Table[string, int]).Put. -/
def t29k : Out :=
 (.call 53 [(.val 0), (.str (.var 2))] [] [] [] [(false, [.int .i64]), (false, [.bool])] 
 (.ite (.var 5)
  (.need (.tt true) [(.cmp .geq (.var 4) (.lit 0)), (.cmp .lss (.var 4) (.len 1))] 
  (.store (.idx (.var 1) (.var 4) 1) [(.int .i64 (.var 3))] 
  (.done (.bool (.tt false)) [[(.val 0), (.val 1)]])))
  (.both 
   (.alloc 9 [(.str (.var 2))] (.lsl 1) 
   (.both 
    (.call 54 [(.val 0), (.int .i64 (.var 4)), (.val 6)] [] [] [] [(false, [.sl])] 
    (.alloc 3 [(.int .i64 (.var 3))] (.lsl 1) 
    (.call 58 [(.val 1), (.int .i64 (.var 4)), (.val 8)] [] [] [] [(false, [.sl])] 
    (.done (.bool (.tt true)) [[(.val 7), (.val 9)]])))) 
    (.alloc 3 [(.int .i64 (.var 3))] (.lsl 1) 
    (.call 54 [(.val 0), (.int .i64 (.var 4)), (.val 6)] [] [] [] [(false, [.sl])] 
    (.call 58 [(.val 1), (.int .i64 (.var 4)), (.val 7)] [] [] [] [(false, [.sl])] 
    (.done (.bool (.tt true)) [[(.val 8), (.val 9)]])))))) 
   (.alloc 3 [(.int .i64 (.var 3))] (.lsl 1) 
   (.alloc 9 [(.str (.var 2))] (.lsl 1) 
   (.call 54 [(.val 0), (.int .i64 (.var 4)), (.val 7)] [] [] [] [(false, [.sl])] 
   (.call 58 [(.val 1), (.int .i64 (.var 4)), (.val 6)] [] [] [] [(false, [.sl])] 
   (.done (.bool (.tt true)) [[(.val 8), (.val 9)]]))))))))
def l29k : List (Nat × List Nat × List (Nat × Nat) × List Nat) := []
theorem e29k : ev Tryd.prog ⟨allF, [34, 42], l29k⟩ (bodyOf Tryd.f29) 0 (initSt [(.loc 1000000 0), (.str (.var 2)), (.int .i64 (.var 3))] [[(.val 0), (.val 1)]] Tryd.f29.ntmps [.sl, .sl, .str, .int .i64]) (finK Tryd.prog Tryd.f29.results [2]) = t29k := by kernel_rfl
theorem c29k {G : List Value} {h : H} {R : Value → List (List Value) → H → Prop} (hG : FitsL [.sl, .sl, .str, .int .i64] G) (H : holds Tryd.prog R t29k G [] h) : CallsA Tryd.prog 29 (fun e => SV.denL G (fun k => e (k - 1000000)) [(.loc 1000000 0), (.str (.var 2)), (.int .i64 (.var 3))]) ([[(.val 0), (.val 1)]].map (SV.denL G dE)) h R :=
  CallsA.of_ev (cf := ⟨allF, [34, 42], l29k⟩) (fn := Tryd.f29) (c := bodyOf Tryd.f29) (pcs := [[(.val 0), (.val 1)]]) Tryd.func29 (by rfl) callOK (by rfl) hG (by rfl) (by rw [show ([[(.val 0), (.val 1)]] : List (List SV)).map List.length = [2] from rfl, e29k]; exact H)
/-- What is left of (*outworker/bag.Table[string, int]).Get. -/
def t31k : Out :=
 (.call 53 [(.val 0), (.str (.var 2))] [] [] [] [(false, [.int .i64]), (false, [.bool])] 
 (.ite (.not (.var 4))
  (.done (.tup [(.int .i64 (.lit 0)), (.bool (.tt false))]) [[(.val 0), (.val 1)]])
  (.need (.tt true) [(.cmp .geq (.var 3) (.lit 0)), (.cmp .lss (.var 3) (.len 1))] 
  (.load (.tt true) (.idx (.var 1) (.var 3) 1) [.int .i64] 
  (.done (.tup [(.int .i64 (.var 5)), (.bool (.tt true))]) [[(.val 0), (.val 1)]])))))
def l31k : List (Nat × List Nat × List (Nat × Nat) × List Nat) := []
theorem e31k : ev Tryd.prog ⟨allF, [], l31k⟩ (bodyOf Tryd.f31) 0 (initSt [(.loc 1000000 0), (.str (.var 2))] [[(.val 0), (.val 1)]] Tryd.f31.ntmps [.sl, .sl, .str]) (finK Tryd.prog Tryd.f31.results [2]) = t31k := by kernel_rfl
theorem c31k {G : List Value} {h : H} {R : Value → List (List Value) → H → Prop} (hG : FitsL [.sl, .sl, .str] G) (H : holds Tryd.prog R t31k G [] h) : CallsA Tryd.prog 31 (fun e => SV.denL G (fun k => e (k - 1000000)) [(.loc 1000000 0), (.str (.var 2))]) ([[(.val 0), (.val 1)]].map (SV.denL G dE)) h R :=
  CallsA.of_ev (cf := ⟨allF, [], l31k⟩) (fn := Tryd.f31) (c := bodyOf Tryd.f31) (pcs := [[(.val 0), (.val 1)]]) Tryd.func31 (by rfl) callOK (by rfl) hG (by rfl) (by rw [show ([[(.val 0), (.val 1)]] : List (List SV)).map List.length = [2] from rfl, e31k]; exact H)
/-- What is left of slices.BinarySearch[[]string,string]. -/
def t53 : Out :=
 (.loop 0 [(.int .i64 (.lit 0)), (.int .i64 (.len 0))] [.int .i64, .int .i64] 
  (.ite (.cmp .lss (.var 2) (.var 3))
   (.need (.tt true) [(.cmp .geq (.conv .i64 (.op .shr .u64 (.conv .u64 (.op .add .i64 (.var 2) (.var 3))) (.lit 1))) (.lit 0)), (.cmp .lss (.conv .i64 (.op .shr .u64 (.conv .u64 (.op .add .i64 (.var 2) (.var 3))) (.lit 1))) (.len 0))] 
   (.load (.tt true) (.idx (.var 0) (.conv .i64 (.op .shr .u64 (.conv .u64 (.op .add .i64 (.var 2) (.var 3))) (.lit 1))) 1) [.str] 
   (.call 63 [(.str (.var 4)), (.str (.var 1))] [] [] [] [(false, [.bool])] 
   (.again 0 [(.int .i64 (.ite (.var 5) (.op .add .i64 (.conv .i64 (.op .shr .u64 (.conv .u64 (.op .add .i64 (.var 2) (.var 3))) (.lit 1))) (.lit 1)) (.var 2))), (.int .i64 (.ite (.var 5) (.var 3) (.conv .i64 (.op .shr .u64 (.conv .u64 (.op .add .i64 (.var 2) (.var 3))) (.lit 1)))))]))))
   (.need (.cmp .lss (.var 2) (.len 0)) [(.cmp .geq (.var 2) (.lit 0)), (.cmp .lss (.var 2) (.len 0))] 
   (.load (.cmp .lss (.var 2) (.len 0)) (.idx (.var 0) (.var 2) 1) [.str] 
   (.need (.and (.cmp .lss (.var 2) (.len 0)) (.not (.seq (.var 4) (.var 1)))) [(.cmp .geq (.var 2) (.lit 0)), (.cmp .lss (.var 2) (.len 0))] 
   (.load (.and (.cmp .lss (.var 2) (.len 0)) (.not (.seq (.var 4) (.var 1)))) (.idx (.var 0) (.var 2) 1) [.str] 
   (.ite (.cmp .lss (.var 2) (.len 0))
    (.ite (.not (.seq (.var 4) (.var 1)))
     (.call 64 [(.str (.var 5))] [] [] [] [(false, [.bool])] 
     (.ite (.var 6)
      (.call 64 [(.str (.var 1))] [] [] [] [(false, [.bool])] 
      (.done (.tup [(.int .i64 (.var 2)), (.bool (.var 7))]) []))
      (.done (.tup [(.int .i64 (.var 2)), (.bool (.tt false))]) [])))
     (.done (.tup [(.int .i64 (.var 2)), (.bool (.tt true))]) []))
    (.done (.tup [(.int .i64 (.var 2)), (.bool (.tt false))]) []))))))))
def l53 : List (Nat × List Nat × List (Nat × Nat) × List Nat) := [(3, [7, 8], [], [13, 14, 15, 16, 17, 18, 19, 20, 21, 9, 22, 23, 24, 25, 26, 27, 28, 29, 30])]
theorem e53 : ev Tryd.prog ⟨allF, [1000003], l53⟩ (bodyOf Tryd.f53) 0 (initSt [(.val 0), (.str (.var 1))] [] Tryd.f53.ntmps [.sl, .str]) (finK Tryd.prog Tryd.f53.results []) = t53 := by kernel_rfl
theorem c53 {G : List Value} {h : H} {R : Value → List (List Value) → H → Prop} (hG : FitsL [.sl, .str] G) (H : holds Tryd.prog R t53 G [] h) : CallsA Tryd.prog 53 (fun e => SV.denL G (fun k => e (k - 1000000)) [(.val 0), (.str (.var 1))]) ([].map (SV.denL G dE)) h R :=
  CallsA.of_ev (cf := ⟨allF, [1000003], l53⟩) (fn := Tryd.f53) (c := bodyOf Tryd.f53) (pcs := []) Tryd.func53 (by rfl) callOK (by rfl) hG (by rfl) (by rw [show ([] : List (List SV)).map List.length = [] from rfl, e53]; exact H)
/-- What is left of slices.Insert[[]string,string]. -/
def t54 : Out :=
 (.need (.tt true) [(.cmp .geq (.var 1) (.lit 0)), (.cmp .leq (.var 1) (.len 0))] 
 (.bnd (.slice (.val 0) (some (.var 1)) none 1) 
 (.ite (.cmp .eql (.len 2) (.lit 0))
  (.done (.val 0) [])
  (.ite (.cmp .eql (.var 1) (.len 0))
   (.app 9 1 16 (.val 0) (.sl (.val 2)) 
   (.done (.val 4) []))
   (.ite (.cmp .gtr (.op .add .i64 (.len 0) (.len 2)) (.cap 0))
    (.need (.tt true) [(.cmp .geq (.var 1) (.lit 0)), (.cmp .leq (.var 1) (.cap 0))] 
    (.bnd (.slice (.val 0) none (some (.var 1)) 1) (.fail)))
    (.need (.tt true) [(.cmp .geq (.op .add .i64 (.len 0) (.len 2)) (.lit 0)), (.cmp .leq (.op .add .i64 (.len 0) (.len 2)) (.cap 0))] 
    (.bnd (.slice (.val 0) none (some (.op .add .i64 (.len 0) (.len 2))) 1) 
    (.need (.tt true) [(.cmp .geq (.op .add .i64 (.var 1) (.len 2)) (.lit 0)), (.cmp .leq (.op .add .i64 (.var 1) (.len 2)) (.len 4))] 
    (.bnd (.slice (.val 4) (some (.op .add .i64 (.var 1) (.len 2))) none 1) (.fail))))))))))
def l54 : List (Nat × List Nat × List (Nat × Nat) × List Nat) := []
theorem e54 : ev Tryd.prog ⟨allF, [], l54⟩ (bodyOf Tryd.f54) 0 (initSt [(.val 0), (.int .i64 (.var 1)), (.val 2)] [] Tryd.f54.ntmps [.sl, .int .i64, .sl]) (finK Tryd.prog Tryd.f54.results []) = t54 := by kernel_rfl
theorem c54 {G : List Value} {h : H} {R : Value → List (List Value) → H → Prop} (hG : FitsL [.sl, .int .i64, .sl] G) (H : holds Tryd.prog R t54 G [] h) : CallsA Tryd.prog 54 (fun e => SV.denL G (fun k => e (k - 1000000)) [(.val 0), (.int .i64 (.var 1)), (.val 2)]) ([].map (SV.denL G dE)) h R :=
  CallsA.of_ev (cf := ⟨allF, [], l54⟩) (fn := Tryd.f54) (c := bodyOf Tryd.f54) (pcs := []) Tryd.func54 (by rfl) callOK (by rfl) hG (by rfl) (by rw [show ([] : List (List SV)).map List.length = [] from rfl, e54]; exact H)
/-- What is left of slices.Insert[[]int,int]. -/
def t58 : Out :=
 (.need (.tt true) [(.cmp .geq (.var 1) (.lit 0)), (.cmp .leq (.var 1) (.len 0))] 
 (.bnd (.slice (.val 0) (some (.var 1)) none 1) 
 (.ite (.cmp .eql (.len 2) (.lit 0))
  (.done (.val 0) [])
  (.ite (.cmp .eql (.var 1) (.len 0))
   (.app 3 1 8 (.val 0) (.sl (.val 2)) 
   (.done (.val 4) []))
   (.ite (.cmp .gtr (.op .add .i64 (.len 0) (.len 2)) (.cap 0))
    (.need (.tt true) [(.cmp .geq (.var 1) (.lit 0)), (.cmp .leq (.var 1) (.cap 0))] 
    (.bnd (.slice (.val 0) none (some (.var 1)) 1) (.fail)))
    (.need (.tt true) [(.cmp .geq (.op .add .i64 (.len 0) (.len 2)) (.lit 0)), (.cmp .leq (.op .add .i64 (.len 0) (.len 2)) (.cap 0))] 
    (.bnd (.slice (.val 0) none (some (.op .add .i64 (.len 0) (.len 2))) 1) 
    (.need (.tt true) [(.cmp .geq (.op .add .i64 (.var 1) (.len 2)) (.lit 0)), (.cmp .leq (.op .add .i64 (.var 1) (.len 2)) (.len 4))] 
    (.bnd (.slice (.val 4) (some (.op .add .i64 (.var 1) (.len 2))) none 1) (.fail))))))))))
def l58 : List (Nat × List Nat × List (Nat × Nat) × List Nat) := []
theorem e58 : ev Tryd.prog ⟨allF, [], l58⟩ (bodyOf Tryd.f58) 0 (initSt [(.val 0), (.int .i64 (.var 1)), (.val 2)] [] Tryd.f58.ntmps [.sl, .int .i64, .sl]) (finK Tryd.prog Tryd.f58.results []) = t58 := by kernel_rfl
theorem c58 {G : List Value} {h : H} {R : Value → List (List Value) → H → Prop} (hG : FitsL [.sl, .int .i64, .sl] G) (H : holds Tryd.prog R t58 G [] h) : CallsA Tryd.prog 58 (fun e => SV.denL G (fun k => e (k - 1000000)) [(.val 0), (.int .i64 (.var 1)), (.val 2)]) ([].map (SV.denL G dE)) h R :=
  CallsA.of_ev (cf := ⟨allF, [], l58⟩) (fn := Tryd.f58) (c := bodyOf Tryd.f58) (pcs := []) Tryd.func58 (by rfl) callOK (by rfl) hG (by rfl) (by rw [show ([] : List (List SV)).map List.length = [] from rfl, e58]; exact H)
/-- What is left of cmp.Less[string]. -/
def t63 : Out :=
 (.call 71 [(.str (.var 0))] [] [] [] [(false, [.bool])] 
 (.ite (.var 2)
  (.call 71 [(.str (.var 1))] [] [] [] [(false, [.bool])] 
  (.ite (.var 3)
   (.bnd (.scmp .lss (.var 0) (.var 1)) 
   (.done (.bool (.var 4)) []))
   (.done (.bool (.tt true)) [])))
  (.bnd (.scmp .lss (.var 0) (.var 1)) 
  (.done (.bool (.var 3)) []))))
def l63 : List (Nat × List Nat × List (Nat × Nat) × List Nat) := []
theorem e63 : ev Tryd.prog ⟨allF, [], l63⟩ (bodyOf Tryd.f63) 0 (initSt [(.str (.var 0)), (.str (.var 1))] [] Tryd.f63.ntmps [.str, .str]) (finK Tryd.prog Tryd.f63.results []) = t63 := by kernel_rfl
theorem c63 {G : List Value} {h : H} {R : Value → List (List Value) → H → Prop} (hG : FitsL [.str, .str] G) (H : holds Tryd.prog R t63 G [] h) : CallsA Tryd.prog 63 (fun e => SV.denL G (fun k => e (k - 1000000)) [(.str (.var 0)), (.str (.var 1))]) ([].map (SV.denL G dE)) h R :=
  CallsA.of_ev (cf := ⟨allF, [], l63⟩) (fn := Tryd.f63) (c := bodyOf Tryd.f63) (pcs := []) Tryd.func63 (by rfl) callOK (by rfl) hG (by rfl) (by rw [show ([] : List (List SV)).map List.length = [] from rfl, e63]; exact H)
/-- What is left of slices.isNaN[string]. -/
def t64 : Out :=
 (.done (.bool (.not (.seq (.var 0) (.var 0)))) [])
def l64 : List (Nat × List Nat × List (Nat × Nat) × List Nat) := []
theorem e64 : ev Tryd.prog ⟨allF, [], l64⟩ (bodyOf Tryd.f64) 0 (initSt [(.str (.var 0))] [] Tryd.f64.ntmps [.str]) (finK Tryd.prog Tryd.f64.results []) = t64 := by kernel_rfl
theorem c64 {G : List Value} {h : H} {R : Value → List (List Value) → H → Prop} (hG : FitsL [.str] G) (H : holds Tryd.prog R t64 G [] h) : CallsA Tryd.prog 64 (fun e => SV.denL G (fun k => e (k - 1000000)) [(.str (.var 0))]) ([].map (SV.denL G dE)) h R :=
  CallsA.of_ev (cf := ⟨allF, [], l64⟩) (fn := Tryd.f64) (c := bodyOf Tryd.f64) (pcs := []) Tryd.func64 (by rfl) callOK (by rfl) hG (by rfl) (by rw [show ([] : List (List SV)).map List.length = [] from rfl, e64]; exact H)
/-- What is left of cmp.isNaN[string]. -/
def t71 : Out :=
 (.done (.bool (.not (.seq (.var 0) (.var 0)))) [])
def l71 : List (Nat × List Nat × List (Nat × Nat) × List Nat) := []
theorem e71 : ev Tryd.prog ⟨allF, [], l71⟩ (bodyOf Tryd.f71) 0 (initSt [(.str (.var 0))] [] Tryd.f71.ntmps [.str]) (finK Tryd.prog Tryd.f71.results []) = t71 := by kernel_rfl
theorem c71 {G : List Value} {h : H} {R : Value → List (List Value) → H → Prop} (hG : FitsL [.str] G) (H : holds Tryd.prog R t71 G [] h) : CallsA Tryd.prog 71 (fun e => SV.denL G (fun k => e (k - 1000000)) [(.str (.var 0))]) ([].map (SV.denL G dE)) h R :=
  CallsA.of_ev (cf := ⟨allF, [], l71⟩) (fn := Tryd.f71) (c := bodyOf Tryd.f71) (pcs := []) Tryd.func71 (by rfl) callOK (by rfl) hG (by rfl) (by rw [show ([] : List (List SV)).map List.length = [] from rfl, e71]; exact H)
/-- What is left of outworker/outworkerlaw09.BagQueues. -/
def t5 : Out :=
 (.call 17 [] [] [] [] [(false, [.bool])] 
 (.ite (.not (.var 1))
  (.done (.bool (.tt false)) [])
  (.loop 0 [(.cst (.slice none 0 0)), (.int .i64 (.lit 0)), (.cst (.slice none 0 0)), (.cst (.map none))] [.sl, .int .i64, .sl, .map] 
   (.ite (.cmp .lss (.var 3) (.len 0))
    (.need (.tt true) [(.cmp .geq (.var 3) (.lit 0)), (.cmp .lss (.var 3) (.len 0))] 
    (.load (.tt true) (.idx (.var 0) (.var 3) 3) [.int .u8, .str, .int .i64] 
    (.ite (.ite (.cmp .gtr (.var 3) (.lit 200)) (.tt true) (.cmp .gtr (.slen (.var 7)) (.lit 100)))
     (.done (.bool (.tt true)) [])
     (.ite (.cmp .lss (.op .rem .u8 (.var 6) (.lit 3)) (.lit 2))
      (.loop 1 [(.bool (.tt false)), (.int .i64 (.lit 0))] [.bool, .int .i64] 
       (.ite (.cmp .lss (.var 10) (.len 2))
        (.need (.tt true) [(.cmp .geq (.var 10) (.lit 0)), (.cmp .lss (.var 10) (.len 2))] 
        (.load (.tt true) (.idx (.var 2) (.var 10) 1) [.str] 
        (.again 1 [(.bool (.ite (.var 9) (.tt true) (.seq (.var 11) (.var 7)))), (.int .i64 (.op .add .i64 (.var 10) (.lit 1)))])))
        (.call 26 [(.loc 3 0), (.str (.var 7))] [3] [[(.val 4), (.val 5)]] [[.sl, .map]] [(false, [.bool])] 
        (.ite (.ite (.var 13) (.var 9) (.not (.var 9)))
         (.done (.bool (.tt false)) [])
         (.ite (.not (.var 9))
          (.app 9 1 16 (.val 2) (.cells [(.str (.var 7))] 1) 
          (.call 28 [(.loc 3 0)] [3] [[(.val 11), (.val 12)]] [[.sl, .map]] [(false, [.int .i64])] 
          (.ite (.cmp .neq (.var 17) (.len 14))
           (.done (.bool (.tt false)) [])
           (.again 0 [(.val 14), (.int .i64 (.op .add .i64 (.var 3) (.lit 1))), (.val 15), (.val 16)]))))
          (.call 28 [(.loc 3 0)] [3] [[(.val 11), (.val 12)]] [[.sl, .map]] [(false, [.int .i64])] 
          (.ite (.cmp .neq (.var 16) (.len 2))
           (.done (.bool (.tt false)) [])
           (.again 0 [(.val 2), (.int .i64 (.op .add .i64 (.var 3) (.lit 1))), (.val 14), (.val 15)]))))))))
      (.call 27 [(.loc 3 0)] [3] [[(.val 4), (.val 5)]] [[.sl, .map]] [(false, [.str]), (false, [.bool])] 
      (.need (.and (.not (.ite (.var 12) (.not (.cmp .gtr (.len 2) (.lit 0))) (.cmp .gtr (.len 2) (.lit 0)))) (.var 12)) [(.tt true), (.cmp .lss (.lit 0) (.len 2))] 
      (.load (.and (.not (.ite (.var 12) (.not (.cmp .gtr (.len 2) (.lit 0))) (.cmp .gtr (.len 2) (.lit 0)))) (.var 12)) (.idx (.var 2) (.lit 0) 1) [.str] 
      (.ite (.ite (.ite (.ite (.var 12) (.not (.cmp .gtr (.len 2) (.lit 0))) (.cmp .gtr (.len 2) (.lit 0))) (.tt true) (.ite (.var 12) (.not (.seq (.var 11) (.var 13))) (.tt false))) (.tt true) (.ite (.not (.var 12)) (.not (.seq (.var 11) (.str ⟨#[]⟩))) (.tt false)))
       (.done (.bool (.tt false)) [])
       (.ite (.var 12)
        (.need (.tt true) [(.tt true), (.cmp .leq (.lit 1) (.len 2))] 
        (.bnd (.slice (.val 2) (some (.lit 1)) none 1) 
        (.call 28 [(.loc 3 0)] [3] [[(.val 9), (.val 10)]] [[.sl, .map]] [(false, [.int .i64])] 
        (.ite (.cmp .neq (.var 17) (.len 14))
         (.done (.bool (.tt false)) [])
         (.again 0 [(.val 14), (.int .i64 (.op .add .i64 (.var 3) (.lit 1))), (.val 15), (.val 16)])))))
        (.call 28 [(.loc 3 0)] [3] [[(.val 9), (.val 10)]] [[.sl, .map]] [(false, [.int .i64])] 
        (.ite (.cmp .neq (.var 16) (.len 2))
         (.done (.bool (.tt false)) [])
         (.again 0 [(.val 2), (.int .i64 (.op .add .i64 (.var 3) (.lit 1))), (.val 14), (.val 15)]))))))))))))
    (.done (.bool (.tt true)) [])))))
def l5 : List (Nat × List Nat × List (Nat × Nat) × List Nat) := [(6, [4, 16], [(3, 0), (3, 1)], [17, 18, 19, 20, 6, 5, 21, 22, 23, 24, 25, 26, 27, 28, 29, 30, 31, 32, 7, 33, 34, 35, 36, 37, 38, 9, 39, 40, 41, 42, 43, 44, 45, 46, 47, 48, 49, 50, 51, 2, 52, 53, 54, 55, 56, 57, 58, 60, 59, 61, 62, 10, 11, 63, 64, 65, 66, 67, 68, 69, 70, 71, 72, 73, 74, 75, 76, 77, 78, 79, 80, 81, 82, 83, 84, 85, 86, 87, 88, 89, 90, 91, 92, 93]), (12, [7, 35], [], [36, 37, 38, 9, 39, 40, 41, 42, 43, 44, 45, 46])]
theorem e5 : ev Tryd.prog ⟨allF, [], l5⟩ (bodyOf Tryd.f5) 0 (initSt [(.val 0)] [] Tryd.f5.ntmps [.sl]) (finK Tryd.prog Tryd.f5.results []) = t5 := by kernel_rfl
theorem c5 {G : List Value} {h : H} {R : Value → List (List Value) → H → Prop} (hG : FitsL [.sl] G) (H : holds Tryd.prog R t5 G [] h) : CallsA Tryd.prog 5 (fun e => SV.denL G (fun k => e (k - 1000000)) [(.val 0)]) ([].map (SV.denL G dE)) h R :=
  CallsA.of_ev (cf := ⟨allF, [], l5⟩) (fn := Tryd.f5) (c := bodyOf Tryd.f5) (pcs := []) Tryd.func5 (by rfl) callOK (by rfl) hG (by rfl) (by rw [show ([] : List (List SV)).map List.length = [] from rfl, e5]; exact H)
end Go.Proofs.YtgcaicdmjbkplaaDoor
