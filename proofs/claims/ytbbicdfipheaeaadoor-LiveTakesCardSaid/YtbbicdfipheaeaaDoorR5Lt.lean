/-
  What the evaluator leaves of the functions of this seat (trees, printed by a program of ours), and their contracts from it. Conditions: none.
-/
import Derived.Test.YtbbicdfipheaeaaDoorR1Tr
set_option linter.unusedVariables false
set_option linter.unusedSimpArgs false
namespace Go.Proofs.YtbbicdfipheaeaaDoor
open Go

/-- What stands at the top, without what is behind it. -/
def Out.hd : Out → Out | .call a b c d e f _ => .call a b c d e f .fail | .ite c _ _ => .ite c .fail .fail | .both _ _ => .both .fail .fail | _ => .fail
def Out.pT : Out → Out | .ite _ a _ => a | o => o
def Out.pK : Out → Out | .call _ _ _ _ _ _ k => k | o => o
def Out.pE : Out → Out | .ite _ _ b => b | o => o
def Out.pF : Out → Out | .both a _ => a | o => o
def Out.pS : Out → Out | .both _ b => b | o => o
def l7 : List (Nat × List Nat × List (Nat × Nat) × List Nat) := [(10, [85], [], [86, 87, 18, 88, 89, 90, 91, 92, 93, 94, 95, 8, 96])]
theorem eta_call {o : Out} {a : FuncId} {b : List SV} {c d e f} (h : Out.hd o = .call a b c d e f .fail) : o = .call a b c d e f (Out.pK o) := by cases o <;> simp_all [Out.hd, Out.pK]
theorem eta_ite {o : Out} {c : X} (h : Out.hd o = .ite c .fail .fail) : o = .ite c (Out.pT o) (Out.pE o) := by cases o <;> simp_all [Out.hd, Out.pT, Out.pE]
theorem eta_both {o : Out} (h : Out.hd o = .both .fail .fail) : o = .both (Out.pF o) (Out.pS o) := by cases o <;> simp_all [Out.hd, Out.pF, Out.pS]
noncomputable def ev7 : Out := ev Tryd.prog ⟨allF, [49, 1000003], l7⟩ (bodyOf Tryd.f7) 0 (initSt [(.agg [(.int .u8 (.var 0)), (.int .u8 (.var 1)), (.int .u8 (.var 2)), (.val 3)]), (.int .u8 (.var 4)), (.int .u8 (.var 5)), (.int .u8 (.var 6))] [] Tryd.f7.ntmps [.int .u8, .int .u8, .int .u8, .sl, .int .u8, .int .u8, .int .u8]) (finK Tryd.prog Tryd.f7.results [])
/-- The rest of every arm. -/
def pick7 : Out :=
 (.need (.tt true) [(.cmp .neq (.len 13) (.lit 0))] 
     (.need (.tt true) [(.cmp .geq (.op .rem .i64 (.conv .i64 (.var 4)) (.len 13)) (.lit 0)), (.cmp .lss (.op .rem .i64 (.conv .i64 (.var 4)) (.len 13)) (.len 13))] 
     (.load (.tt true) (.fld (.idx (.var 13) (.op .rem .i64 (.conv .i64 (.var 4)) (.len 13)) 5) 0) [.sl] 
     (.need (.tt true) [(.cmp .neq (.op .add .i64 (.len 14) (.lit 1)) (.lit 0))] 
     (.need (.tt true) [(.cmp .neq (.var 12) (.lit 0))] 
     (.load (.tt true) (.fld (.idx (.var 13) (.op .rem .i64 (.conv .i64 (.var 4)) (.len 13)) 5) 0) [.sl] 
     (.need (.tt true) [(.cmp .geq (.op .rem .i64 (.conv .i64 (.var 5)) (.op .add .i64 (.len 14) (.lit 1))) (.lit 0)), (.cmp .leq (.op .rem .i64 (.conv .i64 (.var 5)) (.op .add .i64 (.len 14) (.lit 1))) (.cap 15))] 
     (.bnd (.slice (.val 15) none (some (.op .rem .i64 (.conv .i64 (.var 5)) (.op .add .i64 (.len 14) (.lit 1)))) 7) 
     (.load (.tt true) (.fld (.idx (.var 13) (.op .rem .i64 (.conv .i64 (.var 4)) (.len 13)) 5) 0) [.sl] 
     (.need (.tt true) [(.cmp .geq (.op .rem .i64 (.conv .i64 (.var 5)) (.op .add .i64 (.len 14) (.lit 1))) (.lit 0)), (.cmp .leq (.op .rem .i64 (.conv .i64 (.var 5)) (.op .add .i64 (.len 14) (.lit 1))) (.len 17))] 
     (.bnd (.slice (.val 17) (some (.op .rem .i64 (.conv .i64 (.var 5)) (.op .add .i64 (.len 14) (.lit 1)))) none 7) 
     (.both 
      (.alloc 72 [] (.lsl 0) 
      (.still (.tt true) (.fld (.idx (.var 13) (.op .rem .i64 (.conv .i64 (.var 4)) (.len 13)) 5) 0) [(.val 17)] 
      (.still (.tt true) (.fld (.idx (.var 13) (.op .rem .i64 (.conv .i64 (.var 4)) (.len 13)) 5) 0) [(.val 15)] 
      (.both 
       (.app 72 7 64 (.val 19) (.sl (.val 16)) 
       (.still (.tt true) (.fld (.idx (.var 13) (.op .rem .i64 (.conv .i64 (.var 4)) (.len 13)) 5) 0) [(.val 17)] 
       (.still (.tt true) (.fld (.idx (.var 13) (.op .rem .i64 (.conv .i64 (.var 4)) (.len 13)) 5) 0) [(.val 15)] 
       (.still (.tt true) (.fld (.idx (.var 13) (.op .rem .i64 (.conv .i64 (.var 4)) (.len 13)) 5) 0) [(.val 17)] 
       (.still (.tt true) (.fld (.idx (.var 13) (.op .rem .i64 (.conv .i64 (.var 4)) (.len 13)) 5) 0) [(.val 15)] 
       (.app 72 7 64 (.val 20) (.cells [(.int .u8 (.lit 5)), (.int .u8 (.lit 0)), (.int .i64 (.lit 0)), (.int .i64 (.op .rem .i64 (.conv .i64 (.var 6)) (.var 12))), (.int .i64 (.op .rem .i64 (.conv .i64 (.var 6)) (.var 12))), (.int .i64 (.lit 0)), (.cst (.slice none 0 0))] 1) 
       (.still (.tt true) (.fld (.idx (.var 13) (.op .rem .i64 (.conv .i64 (.var 4)) (.len 13)) 5) 0) [(.val 17)] 
       (.still (.tt true) (.fld (.idx (.var 13) (.op .rem .i64 (.conv .i64 (.var 4)) (.len 13)) 5) 0) [(.val 15)] 
       (.app 72 7 64 (.val 21) (.sl (.val 18)) 
       (.still (.tt true) (.fld (.idx (.var 13) (.op .rem .i64 (.conv .i64 (.var 4)) (.len 13)) 5) 0) [(.val 17)] 
       (.still (.tt true) (.fld (.idx (.var 13) (.op .rem .i64 (.conv .i64 (.var 4)) (.len 13)) 5) 0) [(.val 15)] 
       (.store (.fld (.idx (.var 13) (.op .rem .i64 (.conv .i64 (.var 4)) (.len 13)) 5) 0) [(.val 22)] 
       (.call 31 [(.val 10)] [] [] [] [(false, [.sl]), (false, [.sl])] 
       (.call 31 [(.val 13)] [] [] [] [(false, [.sl]), (false, [.sl])] 
       (.loop 0 [(.int .i64 (.lit 0))] [.int .i64] 
        (.ite (.cmp .lss (.var 27) (.len 23))
         (.need (.tt true) [(.cmp .geq (.var 27) (.lit 0)), (.cmp .lss (.var 27) (.len 25))] 
         (.need (.tt true) [(.cmp .geq (.var 27) (.lit 0)), (.cmp .lss (.var 27) (.len 23))] 
         (.load (.tt true) (.idx (.var 23) (.var 27) 1) [.sl] 
         (.call 17 [(.ptr (.idx (.var 25) (.var 27) 1)), (.agg [(.val 28)])] [] [] [] [(false, [.bool])] 
         (.ite (.var 29)
          (.done (.bool (.tt false)) [])
          (.again 0 [(.int .i64 (.op .add .i64 (.var 27) (.lit 1)))]))))))
         (.need (.and (.cmp .eql (.len 23) (.len 25)) (.not (.cmp .gtr (.op .rem .i64 (.conv .i64 (.var 5)) (.op .add .i64 (.len 14) (.lit 1))) (.lit 0)))) [(.cmp .neq (.len 13) (.lit 0))] 
         (.need (.and (.cmp .eql (.len 23) (.len 25)) (.not (.cmp .gtr (.op .rem .i64 (.conv .i64 (.var 5)) (.op .add .i64 (.len 14) (.lit 1))) (.lit 0)))) [(.cmp .geq (.op .rem .i64 (.conv .i64 (.var 4)) (.len 13)) (.lit 0)), (.cmp .lss (.op .rem .i64 (.conv .i64 (.var 4)) (.len 13)) (.len 25))] 
         (.load (.and (.cmp .eql (.len 23) (.len 25)) (.not (.cmp .gtr (.op .rem .i64 (.conv .i64 (.var 5)) (.op .add .i64 (.len 14) (.lit 1))) (.lit 0)))) (.idx (.var 25) (.op .rem .i64 (.conv .i64 (.var 4)) (.len 13)) 1) [.sl] 
         (.ite (.cmp .eql (.len 23) (.len 25))
          (.ite (.not (.cmp .gtr (.op .rem .i64 (.conv .i64 (.var 5)) (.op .add .i64 (.len 14) (.lit 1))) (.lit 0)))
           (.call 23 [(.agg [(.val 28)]), (.int .i64 (.op .rem .i64 (.conv .i64 (.var 6)) (.var 12)))] [] [] [] [(false, [.bool])] 
           (.done (.bool (.var 29)) []))
           (.done (.bool (.tt true)) []))
          (.done (.bool (.tt false)) []))))))))))))))))))))) 
       (.still (.tt true) (.fld (.idx (.var 13) (.op .rem .i64 (.conv .i64 (.var 4)) (.len 13)) 5) 0) [(.val 17)] 
       (.still (.tt true) (.fld (.idx (.var 13) (.op .rem .i64 (.conv .i64 (.var 4)) (.len 13)) 5) 0) [(.val 15)] 
       (.app 72 7 64 (.val 19) (.sl (.val 16)) 
       (.still (.tt true) (.fld (.idx (.var 13) (.op .rem .i64 (.conv .i64 (.var 4)) (.len 13)) 5) 0) [(.val 17)] 
       (.still (.tt true) (.fld (.idx (.var 13) (.op .rem .i64 (.conv .i64 (.var 4)) (.len 13)) 5) 0) [(.val 15)] 
       (.app 72 7 64 (.val 20) (.cells [(.int .u8 (.lit 5)), (.int .u8 (.lit 0)), (.int .i64 (.lit 0)), (.int .i64 (.op .rem .i64 (.conv .i64 (.var 6)) (.var 12))), (.int .i64 (.op .rem .i64 (.conv .i64 (.var 6)) (.var 12))), (.int .i64 (.lit 0)), (.cst (.slice none 0 0))] 1) 
       (.still (.tt true) (.fld (.idx (.var 13) (.op .rem .i64 (.conv .i64 (.var 4)) (.len 13)) 5) 0) [(.val 17)] 
       (.still (.tt true) (.fld (.idx (.var 13) (.op .rem .i64 (.conv .i64 (.var 4)) (.len 13)) 5) 0) [(.val 15)] 
       (.app 72 7 64 (.val 21) (.sl (.val 18)) 
       (.still (.tt true) (.fld (.idx (.var 13) (.op .rem .i64 (.conv .i64 (.var 4)) (.len 13)) 5) 0) [(.val 17)] 
       (.still (.tt true) (.fld (.idx (.var 13) (.op .rem .i64 (.conv .i64 (.var 4)) (.len 13)) 5) 0) [(.val 15)] 
       (.store (.fld (.idx (.var 13) (.op .rem .i64 (.conv .i64 (.var 4)) (.len 13)) 5) 0) [(.val 22)] 
       (.call 31 [(.val 10)] [] [] [] [(false, [.sl]), (false, [.sl])] 
       (.call 31 [(.val 13)] [] [] [] [(false, [.sl]), (false, [.sl])] 
       (.loop 0 [(.int .i64 (.lit 0))] [.int .i64] 
        (.ite (.cmp .lss (.var 27) (.len 23))
         (.need (.tt true) [(.cmp .geq (.var 27) (.lit 0)), (.cmp .lss (.var 27) (.len 25))] 
         (.need (.tt true) [(.cmp .geq (.var 27) (.lit 0)), (.cmp .lss (.var 27) (.len 23))] 
         (.load (.tt true) (.idx (.var 23) (.var 27) 1) [.sl] 
         (.call 17 [(.ptr (.idx (.var 25) (.var 27) 1)), (.agg [(.val 28)])] [] [] [] [(false, [.bool])] 
         (.ite (.var 29)
          (.done (.bool (.tt false)) [])
          (.again 0 [(.int .i64 (.op .add .i64 (.var 27) (.lit 1)))]))))))
         (.need (.and (.cmp .eql (.len 23) (.len 25)) (.not (.cmp .gtr (.op .rem .i64 (.conv .i64 (.var 5)) (.op .add .i64 (.len 14) (.lit 1))) (.lit 0)))) [(.cmp .neq (.len 13) (.lit 0))] 
         (.need (.and (.cmp .eql (.len 23) (.len 25)) (.not (.cmp .gtr (.op .rem .i64 (.conv .i64 (.var 5)) (.op .add .i64 (.len 14) (.lit 1))) (.lit 0)))) [(.cmp .geq (.op .rem .i64 (.conv .i64 (.var 4)) (.len 13)) (.lit 0)), (.cmp .lss (.op .rem .i64 (.conv .i64 (.var 4)) (.len 13)) (.len 25))] 
         (.load (.and (.cmp .eql (.len 23) (.len 25)) (.not (.cmp .gtr (.op .rem .i64 (.conv .i64 (.var 5)) (.op .add .i64 (.len 14) (.lit 1))) (.lit 0)))) (.idx (.var 25) (.op .rem .i64 (.conv .i64 (.var 4)) (.len 13)) 1) [.sl] 
         (.ite (.cmp .eql (.len 23) (.len 25))
          (.ite (.not (.cmp .gtr (.op .rem .i64 (.conv .i64 (.var 5)) (.op .add .i64 (.len 14) (.lit 1))) (.lit 0)))
           (.call 23 [(.agg [(.val 28)]), (.int .i64 (.op .rem .i64 (.conv .i64 (.var 6)) (.var 12)))] [] [] [] [(false, [.bool])] 
           (.done (.bool (.var 29)) []))
           (.done (.bool (.tt true)) []))
          (.done (.bool (.tt false)) []))))))))))))))))))))))))) 
      (.still (.tt true) (.fld (.idx (.var 13) (.op .rem .i64 (.conv .i64 (.var 4)) (.len 13)) 5) 0) [(.val 17)] 
      (.still (.tt true) (.fld (.idx (.var 13) (.op .rem .i64 (.conv .i64 (.var 4)) (.len 13)) 5) 0) [(.val 15)] 
      (.alloc 72 [] (.lsl 0) 
      (.still (.tt true) (.fld (.idx (.var 13) (.op .rem .i64 (.conv .i64 (.var 4)) (.len 13)) 5) 0) [(.val 17)] 
      (.still (.tt true) (.fld (.idx (.var 13) (.op .rem .i64 (.conv .i64 (.var 4)) (.len 13)) 5) 0) [(.val 15)] 
      (.app 72 7 64 (.val 19) (.sl (.val 16)) 
      (.still (.tt true) (.fld (.idx (.var 13) (.op .rem .i64 (.conv .i64 (.var 4)) (.len 13)) 5) 0) [(.val 17)] 
      (.still (.tt true) (.fld (.idx (.var 13) (.op .rem .i64 (.conv .i64 (.var 4)) (.len 13)) 5) 0) [(.val 15)] 
      (.app 72 7 64 (.val 20) (.cells [(.int .u8 (.lit 5)), (.int .u8 (.lit 0)), (.int .i64 (.lit 0)), (.int .i64 (.op .rem .i64 (.conv .i64 (.var 6)) (.var 12))), (.int .i64 (.op .rem .i64 (.conv .i64 (.var 6)) (.var 12))), (.int .i64 (.lit 0)), (.cst (.slice none 0 0))] 1) 
      (.still (.tt true) (.fld (.idx (.var 13) (.op .rem .i64 (.conv .i64 (.var 4)) (.len 13)) 5) 0) [(.val 17)] 
      (.still (.tt true) (.fld (.idx (.var 13) (.op .rem .i64 (.conv .i64 (.var 4)) (.len 13)) 5) 0) [(.val 15)] 
      (.app 72 7 64 (.val 21) (.sl (.val 18)) 
      (.still (.tt true) (.fld (.idx (.var 13) (.op .rem .i64 (.conv .i64 (.var 4)) (.len 13)) 5) 0) [(.val 17)] 
      (.still (.tt true) (.fld (.idx (.var 13) (.op .rem .i64 (.conv .i64 (.var 4)) (.len 13)) 5) 0) [(.val 15)] 
      (.store (.fld (.idx (.var 13) (.op .rem .i64 (.conv .i64 (.var 4)) (.len 13)) 5) 0) [(.val 22)] 
      (.call 31 [(.val 10)] [] [] [] [(false, [.sl]), (false, [.sl])] 
      (.call 31 [(.val 13)] [] [] [] [(false, [.sl]), (false, [.sl])] 
      (.loop 0 [(.int .i64 (.lit 0))] [.int .i64] 
       (.ite (.cmp .lss (.var 27) (.len 23))
        (.need (.tt true) [(.cmp .geq (.var 27) (.lit 0)), (.cmp .lss (.var 27) (.len 25))] 
        (.need (.tt true) [(.cmp .geq (.var 27) (.lit 0)), (.cmp .lss (.var 27) (.len 23))] 
        (.load (.tt true) (.idx (.var 23) (.var 27) 1) [.sl] 
        (.call 17 [(.ptr (.idx (.var 25) (.var 27) 1)), (.agg [(.val 28)])] [] [] [] [(false, [.bool])] 
        (.ite (.var 29)
         (.done (.bool (.tt false)) [])
         (.again 0 [(.int .i64 (.op .add .i64 (.var 27) (.lit 1)))]))))))
        (.need (.and (.cmp .eql (.len 23) (.len 25)) (.not (.cmp .gtr (.op .rem .i64 (.conv .i64 (.var 5)) (.op .add .i64 (.len 14) (.lit 1))) (.lit 0)))) [(.cmp .neq (.len 13) (.lit 0))] 
        (.need (.and (.cmp .eql (.len 23) (.len 25)) (.not (.cmp .gtr (.op .rem .i64 (.conv .i64 (.var 5)) (.op .add .i64 (.len 14) (.lit 1))) (.lit 0)))) [(.cmp .geq (.op .rem .i64 (.conv .i64 (.var 4)) (.len 13)) (.lit 0)), (.cmp .lss (.op .rem .i64 (.conv .i64 (.var 4)) (.len 13)) (.len 25))] 
        (.load (.and (.cmp .eql (.len 23) (.len 25)) (.not (.cmp .gtr (.op .rem .i64 (.conv .i64 (.var 5)) (.op .add .i64 (.len 14) (.lit 1))) (.lit 0)))) (.idx (.var 25) (.op .rem .i64 (.conv .i64 (.var 4)) (.len 13)) 1) [.sl] 
        (.ite (.cmp .eql (.len 23) (.len 25))
         (.ite (.not (.cmp .gtr (.op .rem .i64 (.conv .i64 (.var 5)) (.op .add .i64 (.len 14) (.lit 1))) (.lit 0)))
          (.call 23 [(.agg [(.val 28)]), (.int .i64 (.op .rem .i64 (.conv .i64 (.var 6)) (.var 12)))] [] [] [] [(false, [.bool])] 
          (.done (.bool (.var 29)) []))
          (.done (.bool (.tt true)) []))
         (.done (.bool (.tt false)) []))))))))))))))))))))))))))))))))))))
theorem p7_1 : (Out.pF (Out.pK (Out.pF (Out.pK (Out.pF (Out.pE (Out.pK ev7))))))) = pick7 := by kernel_rfl
theorem p7_2 : (Out.pS (Out.pK (Out.pF (Out.pK (Out.pF (Out.pE (Out.pK ev7))))))) = pick7 := by kernel_rfl
theorem p7_3 : (Out.pK (Out.pF (Out.pF (Out.pS (Out.pK (Out.pF (Out.pE (Out.pK ev7)))))))) = pick7 := by kernel_rfl
theorem p7_4 : (Out.pK (Out.pS (Out.pF (Out.pS (Out.pK (Out.pF (Out.pE (Out.pK ev7)))))))) = pick7 := by kernel_rfl
theorem p7_5 : (Out.pK (Out.pF (Out.pS (Out.pS (Out.pK (Out.pF (Out.pE (Out.pK ev7)))))))) = pick7 := by kernel_rfl
theorem p7_6 : (Out.pK (Out.pS (Out.pS (Out.pS (Out.pK (Out.pF (Out.pE (Out.pK ev7)))))))) = pick7 := by kernel_rfl
theorem p7_7 : (Out.pK (Out.pF (Out.pK (Out.pF (Out.pF (Out.pS (Out.pE (Out.pK ev7)))))))) = pick7 := by kernel_rfl
theorem p7_8 : (Out.pK (Out.pS (Out.pK (Out.pF (Out.pF (Out.pS (Out.pE (Out.pK ev7)))))))) = pick7 := by kernel_rfl
theorem p7_9 : (Out.pK (Out.pK (Out.pS (Out.pF (Out.pS (Out.pE (Out.pK ev7))))))) = pick7 := by kernel_rfl
theorem p7_10 : (Out.pK (Out.pF (Out.pK (Out.pF (Out.pS (Out.pS (Out.pE (Out.pK ev7)))))))) = pick7 := by kernel_rfl
theorem p7_11 : (Out.pK (Out.pS (Out.pK (Out.pF (Out.pS (Out.pS (Out.pE (Out.pK ev7)))))))) = pick7 := by kernel_rfl
theorem p7_12 : (Out.pK (Out.pK (Out.pS (Out.pS (Out.pS (Out.pE (Out.pK ev7))))))) = pick7 := by kernel_rfl
end Go.Proofs.YtbbicdfipheaeaaDoor
