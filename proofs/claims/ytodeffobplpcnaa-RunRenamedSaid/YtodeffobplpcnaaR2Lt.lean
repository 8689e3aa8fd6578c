/-
  What the evaluator leaves of the functions of this seat (trees, printed by a program of ours), and their contracts from it. Conditions: none.
-/
import Derived.Test.YtodeffobplpcnaaR2Lw
set_option linter.unusedVariables false
set_option linter.unusedSimpArgs false
namespace Go.Proofs.Ytodeffobplpcnaa
open Go

/-- What stands at the top, without what is behind it. -/
def Out.hd : Out → Out | .call a b c d e f _ => .call a b c d e f .fail | .ite c _ _ => .ite c .fail .fail | .both _ _ => .both .fail .fail | _ => .fail
def Out.pT : Out → Out | .ite _ a _ => a | o => o
def Out.pK : Out → Out | .call _ _ _ _ _ _ k => k | o => o
def Out.pE : Out → Out | .ite _ _ b => b | o => o
def Out.pF : Out → Out | .both a _ => a | o => o
def Out.pS : Out → Out | .both _ b => b | o => o
def l10 : List (Nat × List Nat × List (Nat × Nat) × List Nat) := [(10, [56], [(13, 0), (12, 0)], [57, 58, 15, 59, 60, 61, 62, 16, 63, 64, 65, 66, 67, 68, 69, 70, 17, 71, 72, 73, 74, 75, 76, 18, 77, 78, 79, 80, 81, 82, 83, 84, 85, 86, 87, 88, 89, 90, 91, 92, 93, 94, 95, 96, 97, 98, 99, 100, 101, 102, 103, 104, 105, 106, 107, 108, 109, 110, 111, 112, 113, 114, 115, 116, 117, 118, 119, 120, 121, 122, 123, 124, 125, 126, 127, 128, 129, 130, 131, 132, 133, 134, 135, 136, 137, 138, 139, 140, 19, 141, 142, 143, 144, 145, 146, 147, 148, 149, 150, 151, 152, 153, 154, 155, 156, 157, 158, 159, 160, 161, 162, 163, 164, 165, 166, 167, 168, 169, 170, 171, 172, 173, 174, 175]), (14, [68], [(13, 0), (12, 0)], [69, 70, 17, 71, 72, 73, 74, 75, 76, 18, 77, 78, 79, 80, 81, 82, 83, 84, 85, 86, 87, 88, 89, 90, 91, 92, 93, 94, 95, 96, 97, 98, 99, 100, 101, 102, 103, 104, 105, 106, 107, 108, 109, 110, 111, 112, 113, 114, 115, 116, 117, 118, 119, 120, 121, 122, 123, 124, 125, 126, 127, 128, 129, 130, 131, 132, 133, 134, 135, 136, 137, 138, 139, 140, 19, 141, 142, 143, 144, 145, 146, 147, 148, 149, 150, 151, 152, 153, 154, 155, 156, 157]), (24, [138], [(13, 0), (12, 0)], [139, 140, 19, 141, 142, 143, 144, 145, 146, 147, 148, 149, 150, 151, 152, 153, 154, 155, 156])]
theorem eta_call {o : Out} {a : FuncId} {b : List SV} {c d e f} (h : Out.hd o = .call a b c d e f .fail) : o = .call a b c d e f (Out.pK o) := by cases o <;> simp_all [Out.hd, Out.pK]
theorem eta_ite {o : Out} {c : X} (h : Out.hd o = .ite c .fail .fail) : o = .ite c (Out.pT o) (Out.pE o) := by cases o <;> simp_all [Out.hd, Out.pT, Out.pE]
theorem eta_both {o : Out} (h : Out.hd o = .both .fail .fail) : o = .both (Out.pF o) (Out.pS o) := by cases o <;> simp_all [Out.hd, Out.pF, Out.pS]
noncomputable def ev10 : Out := ev Try.prog ⟨allF, [], l10⟩ (bodyOf Try.f10) 0 (initSt [(.agg [(.int .u8 (.var 0)), (.int .u8 (.var 1)), (.int .u8 (.var 2)), (.val 3)]), (.agg [(.val 4), (.val 5), (.val 6), (.int .i64 (.var 7))]), (.int .u8 (.var 8)), (.int .u8 (.var 9))] [] Try.f10.ntmps [.int .u8, .int .u8, .int .u8, .sl, .sl, .sl, .sl, .int .i64, .int .u8, .int .u8]) (finK Try.prog Try.f10.results [])
/-- The rest of every arm. -/
def pick10 : Out :=
 (.ite (.cmp .lss (.op .sub .i64 (.var 12) (.var 11)) (.lit 2))
      (.done (.bool (.tt true)) [])
      (.need (.tt true) [(.cmp .neq (.op .sub .i64 (.var 12) (.var 11)) (.lit 0))] 
      (.need (.tt true) [(.cmp .neq (.op .sub .i64 (.var 12) (.var 11)) (.lit 0))] 
      (.both 
       (.loop 0 [(.int .i64 (.lit 0)), (.int .i64 (.op .add .i64 (.var 11) (.op .rem .i64 (.conv .i64 (.var 9)) (.op .sub .i64 (.var 12) (.var 11))))), (.int .i64 (.op .add .i64 (.var 11) (.op .rem .i64 (.conv .i64 (.var 8)) (.op .sub .i64 (.var 12) (.var 11)))))] [.int .i64, .int .i64, .int .i64] 
        (.ite (.cmp .lss (.var 17) (.len 16))
         (.need (.tt true) [(.cmp .geq (.var 17) (.lit 0)), (.cmp .lss (.var 17) (.len 16))] 
         (.load (.tt true) (.fld (.idx (.var 16) (.var 17) 5) 0) [.sl] 
         (.loop 1 [(.int .i64 (.lit 0)), (.int .i64 (.var 18)), (.int .i64 (.var 19))] [.int .i64, .int .i64, .int .i64] 
          (.ite (.cmp .lss (.var 21) (.len 20))
           (.load (.tt true) (.fld (.idx (.var 16) (.var 17) 5) 0) [.sl] 
           (.need (.tt true) [(.cmp .geq (.var 21) (.lit 0)), (.cmp .lss (.var 21) (.len 24))] 
           (.load (.tt true) (.fld (.idx (.var 24) (.var 21) 7) 0) [.int .u8] 
           (.ite (.cmp .neq (.var 25) (.lit 5))
            (.load (.tt true) (.fld (.idx (.var 24) (.var 21) 7) 2) [.int .i64] 
            (.call 28 [(.int .i64 (.var 26)), (.loc 12 0), (.loc 13 0)] [13, 12] [[(.int .i64 (.var 22))], [(.int .i64 (.var 23))]] [[.int .i64], [.int .i64]] [(false, [.int .i64])] 
            (.store (.fld (.idx (.var 24) (.var 21) 7) 2) [(.int .i64 (.var 29))] 
            (.load (.tt true) (.fld (.idx (.var 24) (.var 21) 7) 0) [.int .u8] 
            (.load (.cmp .neq (.var 30) (.lit 1)) (.fld (.idx (.var 24) (.var 21) 7) 0) [.int .u8] 
            (.ite (.ite (.cmp .neq (.var 30) (.lit 1)) (.cmp .neq (.var 31) (.lit 6)) (.tt false))
             (.load (.tt true) (.fld (.idx (.var 24) (.var 21) 7) 3) [.int .i64] 
             (.call 28 [(.int .i64 (.var 32)), (.loc 12 0), (.loc 13 0)] [13, 12] [[(.int .i64 (.var 27))], [(.int .i64 (.var 28))]] [[.int .i64], [.int .i64]] [(false, [.int .i64])] 
             (.store (.fld (.idx (.var 24) (.var 21) 7) 3) [(.int .i64 (.var 35))] 
             (.load (.tt true) (.fld (.idx (.var 24) (.var 21) 7) 0) [.int .u8] 
             (.load (.not (.cmp .eql (.var 36) (.lit 3))) (.fld (.idx (.var 24) (.var 21) 7) 0) [.int .u8] 
             (.ite (.ite (.cmp .eql (.var 36) (.lit 3)) (.tt true) (.cmp .eql (.var 37) (.lit 5)))
              (.load (.tt true) (.fld (.idx (.var 24) (.var 21) 7) 4) [.int .i64] 
              (.call 28 [(.int .i64 (.var 38)), (.loc 12 0), (.loc 13 0)] [13, 12] [[(.int .i64 (.var 33))], [(.int .i64 (.var 34))]] [[.int .i64], [.int .i64]] [(false, [.int .i64])] 
              (.store (.fld (.idx (.var 24) (.var 21) 7) 4) [(.int .i64 (.var 41))] 
              (.load (.tt true) (.fld (.idx (.var 24) (.var 21) 7) 6) [.sl] 
              (.loop 2 [(.int .i64 (.lit 0)), (.int .i64 (.var 39)), (.int .i64 (.var 40))] [.int .i64, .int .i64, .int .i64] 
               (.ite (.cmp .lss (.var 43) (.len 42))
                (.load (.tt true) (.fld (.idx (.var 24) (.var 21) 7) 6) [.sl] 
                (.load (.tt true) (.fld (.idx (.var 24) (.var 21) 7) 6) [.sl] 
                (.need (.tt true) [(.cmp .geq (.var 43) (.lit 0)), (.cmp .lss (.var 43) (.len 47))] 
                (.load (.tt true) (.idx (.var 47) (.var 43) 1) [.int .i64] 
                (.call 28 [(.int .i64 (.var 48)), (.loc 12 0), (.loc 13 0)] [13, 12] [[(.int .i64 (.var 44))], [(.int .i64 (.var 45))]] [[.int .i64], [.int .i64]] [(false, [.int .i64])] 
                (.still (.tt true) (.fld (.idx (.var 24) (.var 21) 7) 6) [(.val 47)] 
                (.still (.tt true) (.fld (.idx (.var 24) (.var 21) 7) 6) [(.val 46)] 
                (.need (.tt true) [(.cmp .geq (.var 43) (.lit 0)), (.cmp .lss (.var 43) (.len 46))] 
                (.store (.idx (.var 46) (.var 43) 1) [(.int .i64 (.var 51))] 
                (.again 2 [(.int .i64 (.op .add .i64 (.var 43) (.lit 1))), (.int .i64 (.var 49)), (.int .i64 (.var 50))]))))))))))
                (.again 1 [(.int .i64 (.op .add .i64 (.var 21) (.lit 1))), (.int .i64 (.var 44)), (.int .i64 (.var 45))])))))))
              (.load (.tt true) (.fld (.idx (.var 24) (.var 21) 7) 6) [.sl] 
              (.loop 2 [(.int .i64 (.lit 0)), (.int .i64 (.var 33)), (.int .i64 (.var 34))] [.int .i64, .int .i64, .int .i64] 
               (.ite (.cmp .lss (.var 39) (.len 38))
                (.load (.tt true) (.fld (.idx (.var 24) (.var 21) 7) 6) [.sl] 
                (.load (.tt true) (.fld (.idx (.var 24) (.var 21) 7) 6) [.sl] 
                (.need (.tt true) [(.cmp .geq (.var 39) (.lit 0)), (.cmp .lss (.var 39) (.len 43))] 
                (.load (.tt true) (.idx (.var 43) (.var 39) 1) [.int .i64] 
                (.call 28 [(.int .i64 (.var 44)), (.loc 12 0), (.loc 13 0)] [13, 12] [[(.int .i64 (.var 40))], [(.int .i64 (.var 41))]] [[.int .i64], [.int .i64]] [(false, [.int .i64])] 
                (.still (.tt true) (.fld (.idx (.var 24) (.var 21) 7) 6) [(.val 43)] 
                (.still (.tt true) (.fld (.idx (.var 24) (.var 21) 7) 6) [(.val 42)] 
                (.need (.tt true) [(.cmp .geq (.var 39) (.lit 0)), (.cmp .lss (.var 39) (.len 42))] 
                (.store (.idx (.var 42) (.var 39) 1) [(.int .i64 (.var 47))] 
                (.again 2 [(.int .i64 (.op .add .i64 (.var 39) (.lit 1))), (.int .i64 (.var 45)), (.int .i64 (.var 46))]))))))))))
                (.again 1 [(.int .i64 (.op .add .i64 (.var 21) (.lit 1))), (.int .i64 (.var 40)), (.int .i64 (.var 41))]))))))))))
             (.load (.tt true) (.fld (.idx (.var 24) (.var 21) 7) 0) [.int .u8] 
             (.load (.not (.cmp .eql (.var 32) (.lit 3))) (.fld (.idx (.var 24) (.var 21) 7) 0) [.int .u8] 
             (.ite (.ite (.cmp .eql (.var 32) (.lit 3)) (.tt true) (.cmp .eql (.var 33) (.lit 5)))
              (.load (.tt true) (.fld (.idx (.var 24) (.var 21) 7) 4) [.int .i64] 
              (.call 28 [(.int .i64 (.var 34)), (.loc 12 0), (.loc 13 0)] [13, 12] [[(.int .i64 (.var 27))], [(.int .i64 (.var 28))]] [[.int .i64], [.int .i64]] [(false, [.int .i64])] 
              (.store (.fld (.idx (.var 24) (.var 21) 7) 4) [(.int .i64 (.var 37))] 
              (.load (.tt true) (.fld (.idx (.var 24) (.var 21) 7) 6) [.sl] 
              (.loop 2 [(.int .i64 (.lit 0)), (.int .i64 (.var 35)), (.int .i64 (.var 36))] [.int .i64, .int .i64, .int .i64] 
               (.ite (.cmp .lss (.var 39) (.len 38))
                (.load (.tt true) (.fld (.idx (.var 24) (.var 21) 7) 6) [.sl] 
                (.load (.tt true) (.fld (.idx (.var 24) (.var 21) 7) 6) [.sl] 
                (.need (.tt true) [(.cmp .geq (.var 39) (.lit 0)), (.cmp .lss (.var 39) (.len 43))] 
                (.load (.tt true) (.idx (.var 43) (.var 39) 1) [.int .i64] 
                (.call 28 [(.int .i64 (.var 44)), (.loc 12 0), (.loc 13 0)] [13, 12] [[(.int .i64 (.var 40))], [(.int .i64 (.var 41))]] [[.int .i64], [.int .i64]] [(false, [.int .i64])] 
                (.still (.tt true) (.fld (.idx (.var 24) (.var 21) 7) 6) [(.val 43)] 
                (.still (.tt true) (.fld (.idx (.var 24) (.var 21) 7) 6) [(.val 42)] 
                (.need (.tt true) [(.cmp .geq (.var 39) (.lit 0)), (.cmp .lss (.var 39) (.len 42))] 
                (.store (.idx (.var 42) (.var 39) 1) [(.int .i64 (.var 47))] 
                (.again 2 [(.int .i64 (.op .add .i64 (.var 39) (.lit 1))), (.int .i64 (.var 45)), (.int .i64 (.var 46))]))))))))))
                (.again 1 [(.int .i64 (.op .add .i64 (.var 21) (.lit 1))), (.int .i64 (.var 40)), (.int .i64 (.var 41))])))))))
              (.load (.tt true) (.fld (.idx (.var 24) (.var 21) 7) 6) [.sl] 
              (.loop 2 [(.int .i64 (.lit 0)), (.int .i64 (.var 27)), (.int .i64 (.var 28))] [.int .i64, .int .i64, .int .i64] 
               (.ite (.cmp .lss (.var 35) (.len 34))
                (.load (.tt true) (.fld (.idx (.var 24) (.var 21) 7) 6) [.sl] 
                (.load (.tt true) (.fld (.idx (.var 24) (.var 21) 7) 6) [.sl] 
                (.need (.tt true) [(.cmp .geq (.var 35) (.lit 0)), (.cmp .lss (.var 35) (.len 39))] 
                (.load (.tt true) (.idx (.var 39) (.var 35) 1) [.int .i64] 
                (.call 28 [(.int .i64 (.var 40)), (.loc 12 0), (.loc 13 0)] [13, 12] [[(.int .i64 (.var 36))], [(.int .i64 (.var 37))]] [[.int .i64], [.int .i64]] [(false, [.int .i64])] 
                (.still (.tt true) (.fld (.idx (.var 24) (.var 21) 7) 6) [(.val 39)] 
                (.still (.tt true) (.fld (.idx (.var 24) (.var 21) 7) 6) [(.val 38)] 
                (.need (.tt true) [(.cmp .geq (.var 35) (.lit 0)), (.cmp .lss (.var 35) (.len 38))] 
                (.store (.idx (.var 38) (.var 35) 1) [(.int .i64 (.var 43))] 
                (.again 2 [(.int .i64 (.op .add .i64 (.var 35) (.lit 1))), (.int .i64 (.var 41)), (.int .i64 (.var 42))]))))))))))
                (.again 1 [(.int .i64 (.op .add .i64 (.var 21) (.lit 1))), (.int .i64 (.var 36)), (.int .i64 (.var 37))])))))))))))))
            (.load (.tt true) (.fld (.idx (.var 24) (.var 21) 7) 0) [.int .u8] 
            (.load (.cmp .neq (.var 26) (.lit 1)) (.fld (.idx (.var 24) (.var 21) 7) 0) [.int .u8] 
            (.ite (.ite (.cmp .neq (.var 26) (.lit 1)) (.cmp .neq (.var 27) (.lit 6)) (.tt false))
             (.load (.tt true) (.fld (.idx (.var 24) (.var 21) 7) 3) [.int .i64] 
             (.call 28 [(.int .i64 (.var 28)), (.loc 12 0), (.loc 13 0)] [13, 12] [[(.int .i64 (.var 22))], [(.int .i64 (.var 23))]] [[.int .i64], [.int .i64]] [(false, [.int .i64])] 
             (.store (.fld (.idx (.var 24) (.var 21) 7) 3) [(.int .i64 (.var 31))] 
             (.load (.tt true) (.fld (.idx (.var 24) (.var 21) 7) 0) [.int .u8] 
             (.load (.not (.cmp .eql (.var 32) (.lit 3))) (.fld (.idx (.var 24) (.var 21) 7) 0) [.int .u8] 
             (.ite (.ite (.cmp .eql (.var 32) (.lit 3)) (.tt true) (.cmp .eql (.var 33) (.lit 5)))
              (.load (.tt true) (.fld (.idx (.var 24) (.var 21) 7) 4) [.int .i64] 
              (.call 28 [(.int .i64 (.var 34)), (.loc 12 0), (.loc 13 0)] [13, 12] [[(.int .i64 (.var 29))], [(.int .i64 (.var 30))]] [[.int .i64], [.int .i64]] [(false, [.int .i64])] 
              (.store (.fld (.idx (.var 24) (.var 21) 7) 4) [(.int .i64 (.var 37))] 
              (.load (.tt true) (.fld (.idx (.var 24) (.var 21) 7) 6) [.sl] 
              (.loop 2 [(.int .i64 (.lit 0)), (.int .i64 (.var 35)), (.int .i64 (.var 36))] [.int .i64, .int .i64, .int .i64] 
               (.ite (.cmp .lss (.var 39) (.len 38))
                (.load (.tt true) (.fld (.idx (.var 24) (.var 21) 7) 6) [.sl] 
                (.load (.tt true) (.fld (.idx (.var 24) (.var 21) 7) 6) [.sl] 
                (.need (.tt true) [(.cmp .geq (.var 39) (.lit 0)), (.cmp .lss (.var 39) (.len 43))] 
                (.load (.tt true) (.idx (.var 43) (.var 39) 1) [.int .i64] 
                (.call 28 [(.int .i64 (.var 44)), (.loc 12 0), (.loc 13 0)] [13, 12] [[(.int .i64 (.var 40))], [(.int .i64 (.var 41))]] [[.int .i64], [.int .i64]] [(false, [.int .i64])] 
                (.still (.tt true) (.fld (.idx (.var 24) (.var 21) 7) 6) [(.val 43)] 
                (.still (.tt true) (.fld (.idx (.var 24) (.var 21) 7) 6) [(.val 42)] 
                (.need (.tt true) [(.cmp .geq (.var 39) (.lit 0)), (.cmp .lss (.var 39) (.len 42))] 
                (.store (.idx (.var 42) (.var 39) 1) [(.int .i64 (.var 47))] 
                (.again 2 [(.int .i64 (.op .add .i64 (.var 39) (.lit 1))), (.int .i64 (.var 45)), (.int .i64 (.var 46))]))))))))))
                (.again 1 [(.int .i64 (.op .add .i64 (.var 21) (.lit 1))), (.int .i64 (.var 40)), (.int .i64 (.var 41))])))))))
              (.load (.tt true) (.fld (.idx (.var 24) (.var 21) 7) 6) [.sl] 
              (.loop 2 [(.int .i64 (.lit 0)), (.int .i64 (.var 29)), (.int .i64 (.var 30))] [.int .i64, .int .i64, .int .i64] 
               (.ite (.cmp .lss (.var 35) (.len 34))
                (.load (.tt true) (.fld (.idx (.var 24) (.var 21) 7) 6) [.sl] 
                (.load (.tt true) (.fld (.idx (.var 24) (.var 21) 7) 6) [.sl] 
                (.need (.tt true) [(.cmp .geq (.var 35) (.lit 0)), (.cmp .lss (.var 35) (.len 39))] 
                (.load (.tt true) (.idx (.var 39) (.var 35) 1) [.int .i64] 
                (.call 28 [(.int .i64 (.var 40)), (.loc 12 0), (.loc 13 0)] [13, 12] [[(.int .i64 (.var 36))], [(.int .i64 (.var 37))]] [[.int .i64], [.int .i64]] [(false, [.int .i64])] 
                (.still (.tt true) (.fld (.idx (.var 24) (.var 21) 7) 6) [(.val 39)] 
                (.still (.tt true) (.fld (.idx (.var 24) (.var 21) 7) 6) [(.val 38)] 
                (.need (.tt true) [(.cmp .geq (.var 35) (.lit 0)), (.cmp .lss (.var 35) (.len 38))] 
                (.store (.idx (.var 38) (.var 35) 1) [(.int .i64 (.var 43))] 
                (.again 2 [(.int .i64 (.op .add .i64 (.var 35) (.lit 1))), (.int .i64 (.var 41)), (.int .i64 (.var 42))]))))))))))
                (.again 1 [(.int .i64 (.op .add .i64 (.var 21) (.lit 1))), (.int .i64 (.var 36)), (.int .i64 (.var 37))]))))))))))
             (.load (.tt true) (.fld (.idx (.var 24) (.var 21) 7) 0) [.int .u8] 
             (.load (.not (.cmp .eql (.var 28) (.lit 3))) (.fld (.idx (.var 24) (.var 21) 7) 0) [.int .u8] 
             (.ite (.ite (.cmp .eql (.var 28) (.lit 3)) (.tt true) (.cmp .eql (.var 29) (.lit 5)))
              (.load (.tt true) (.fld (.idx (.var 24) (.var 21) 7) 4) [.int .i64] 
              (.call 28 [(.int .i64 (.var 30)), (.loc 12 0), (.loc 13 0)] [13, 12] [[(.int .i64 (.var 22))], [(.int .i64 (.var 23))]] [[.int .i64], [.int .i64]] [(false, [.int .i64])] 
              (.store (.fld (.idx (.var 24) (.var 21) 7) 4) [(.int .i64 (.var 33))] 
              (.load (.tt true) (.fld (.idx (.var 24) (.var 21) 7) 6) [.sl] 
              (.loop 2 [(.int .i64 (.lit 0)), (.int .i64 (.var 31)), (.int .i64 (.var 32))] [.int .i64, .int .i64, .int .i64] 
               (.ite (.cmp .lss (.var 35) (.len 34))
                (.load (.tt true) (.fld (.idx (.var 24) (.var 21) 7) 6) [.sl] 
                (.load (.tt true) (.fld (.idx (.var 24) (.var 21) 7) 6) [.sl] 
                (.need (.tt true) [(.cmp .geq (.var 35) (.lit 0)), (.cmp .lss (.var 35) (.len 39))] 
                (.load (.tt true) (.idx (.var 39) (.var 35) 1) [.int .i64] 
                (.call 28 [(.int .i64 (.var 40)), (.loc 12 0), (.loc 13 0)] [13, 12] [[(.int .i64 (.var 36))], [(.int .i64 (.var 37))]] [[.int .i64], [.int .i64]] [(false, [.int .i64])] 
                (.still (.tt true) (.fld (.idx (.var 24) (.var 21) 7) 6) [(.val 39)] 
                (.still (.tt true) (.fld (.idx (.var 24) (.var 21) 7) 6) [(.val 38)] 
                (.need (.tt true) [(.cmp .geq (.var 35) (.lit 0)), (.cmp .lss (.var 35) (.len 38))] 
                (.store (.idx (.var 38) (.var 35) 1) [(.int .i64 (.var 43))] 
                (.again 2 [(.int .i64 (.op .add .i64 (.var 35) (.lit 1))), (.int .i64 (.var 41)), (.int .i64 (.var 42))]))))))))))
                (.again 1 [(.int .i64 (.op .add .i64 (.var 21) (.lit 1))), (.int .i64 (.var 36)), (.int .i64 (.var 37))])))))))
              (.load (.tt true) (.fld (.idx (.var 24) (.var 21) 7) 6) [.sl] 
              (.loop 2 [(.int .i64 (.lit 0)), (.int .i64 (.var 22)), (.int .i64 (.var 23))] [.int .i64, .int .i64, .int .i64] 
               (.ite (.cmp .lss (.var 31) (.len 30))
                (.load (.tt true) (.fld (.idx (.var 24) (.var 21) 7) 6) [.sl] 
                (.load (.tt true) (.fld (.idx (.var 24) (.var 21) 7) 6) [.sl] 
                (.need (.tt true) [(.cmp .geq (.var 31) (.lit 0)), (.cmp .lss (.var 31) (.len 35))] 
                (.load (.tt true) (.idx (.var 35) (.var 31) 1) [.int .i64] 
                (.call 28 [(.int .i64 (.var 36)), (.loc 12 0), (.loc 13 0)] [13, 12] [[(.int .i64 (.var 32))], [(.int .i64 (.var 33))]] [[.int .i64], [.int .i64]] [(false, [.int .i64])] 
                (.still (.tt true) (.fld (.idx (.var 24) (.var 21) 7) 6) [(.val 35)] 
                (.still (.tt true) (.fld (.idx (.var 24) (.var 21) 7) 6) [(.val 34)] 
                (.need (.tt true) [(.cmp .geq (.var 31) (.lit 0)), (.cmp .lss (.var 31) (.len 34))] 
                (.store (.idx (.var 34) (.var 31) 1) [(.int .i64 (.var 39))] 
                (.again 2 [(.int .i64 (.op .add .i64 (.var 31) (.lit 1))), (.int .i64 (.var 37)), (.int .i64 (.var 38))]))))))))))
                (.again 1 [(.int .i64 (.op .add .i64 (.var 21) (.lit 1))), (.int .i64 (.var 32)), (.int .i64 (.var 33))]))))))))))))))
           (.load (.tt true) (.fld (.fld (.idx (.var 16) (.var 17) 5) 1) 0) [.int .u8] 
           (.ite (.cmp .neq (.var 24) (.lit 1))
            (.load (.tt true) (.fld (.fld (.idx (.var 16) (.var 17) 5) 1) 1) [.int .i64] 
            (.call 28 [(.int .i64 (.var 25)), (.loc 12 0), (.loc 13 0)] [13, 12] [[(.int .i64 (.var 22))], [(.int .i64 (.var 23))]] [[.int .i64], [.int .i64]] [(false, [.int .i64])] 
            (.store (.fld (.fld (.idx (.var 16) (.var 17) 5) 1) 1) [(.int .i64 (.var 28))] 
            (.again 0 [(.int .i64 (.op .add .i64 (.var 17) (.lit 1))), (.int .i64 (.var 26)), (.int .i64 (.var 27))]))))
            (.again 0 [(.int .i64 (.op .add .i64 (.var 17) (.lit 1))), (.int .i64 (.var 22)), (.int .i64 (.var 23))])))))))
         (.call 17 [(.agg [(.val 4), (.val 5), (.val 6), (.int .i64 (.var 7))]), (.int .i64 (.var 11))] [] [] [] [(true, [.sl, .sl, .sl, .int .i64])] 
         (.call 18 [(.agg [(.int .i64 (.var 11)), (.int .i64 (.var 12)), (.val 13)]), (.agg [(.val 20), (.val 21), (.val 22), (.int .i64 (.var 23))])] [] [] [] [(true, [.int .i64, .int .i64, .sl, .int .i64, .int .i64, .int .i64, .int .i64, .int .i64, .int .i64, .int .i64, .int .i64, .int .i64, .int .i64, .int .i64, .int .i64, .int .i64, .int .i64, .int .i64, .int .i64, .int .i64, .int .i64, .int .i64, .int .i64, .int .i64, .int .i64, .int .i64, .int .i64, .int .i64, .int .i64, .int .i64, .int .i64, .int .i64, .int .i64, .int .i64, .int .i64, .int .i64, .int .i64, .int .i64, .int .i64, .int .i64, .int .i64, .int .i64, .int .i64, .int .i64, .int .i64, .int .i64, .int .i64, .int .i64, .int .i64, .int .i64, .int .i64, .int .i64, .int .i64, .int .i64, .int .i64, .int .i64, .int .i64, .int .i64, .int .i64, .int .i64, .int .i64, .int .i64, .int .i64, .int .i64, .int .i64, .int .i64, .int .i64, .int .i64]), (false, [.int .i64])] 
         (.call 18 [(.agg [(.int .i64 (.var 14)), (.int .i64 (.var 15)), (.val 16)]), (.agg [(.val 20), (.val 21), (.val 22), (.int .i64 (.var 23))])] [] [] [] [(true, [.int .i64, .int .i64, .sl, .int .i64, .int .i64, .int .i64, .int .i64, .int .i64, .int .i64, .int .i64, .int .i64, .int .i64, .int .i64, .int .i64, .int .i64, .int .i64, .int .i64, .int .i64, .int .i64, .int .i64, .int .i64, .int .i64, .int .i64, .int .i64, .int .i64, .int .i64, .int .i64, .int .i64, .int .i64, .int .i64, .int .i64, .int .i64, .int .i64, .int .i64, .int .i64, .int .i64, .int .i64, .int .i64, .int .i64, .int .i64, .int .i64, .int .i64, .int .i64, .int .i64, .int .i64, .int .i64, .int .i64, .int .i64, .int .i64, .int .i64, .int .i64, .int .i64, .int .i64, .int .i64, .int .i64, .int .i64, .int .i64, .int .i64, .int .i64, .int .i64, .int .i64, .int .i64, .int .i64, .int .i64, .int .i64, .int .i64, .int .i64, .int .i64]), (false, [.int .i64])] 
         (.ite (.ite (.cmp .eql (.var 92) (.lit 0)) (.cmp .eql (.var 161) (.lit 0)) (.tt false))
          (.call 19 [(.agg [(.int .i64 (.var 24)), (.int .i64 (.var 25)), (.val 26), (.int .i64 (.var 27)), (.int .i64 (.var 28)), (.int .i64 (.var 29)), (.int .i64 (.var 30)), (.int .i64 (.var 31)), (.int .i64 (.var 32)), (.int .i64 (.var 33)), (.int .i64 (.var 34)), (.int .i64 (.var 35)), (.int .i64 (.var 36)), (.int .i64 (.var 37)), (.int .i64 (.var 38)), (.int .i64 (.var 39)), (.int .i64 (.var 40)), (.int .i64 (.var 41)), (.int .i64 (.var 42)), (.int .i64 (.var 43)), (.int .i64 (.var 44)), (.int .i64 (.var 45)), (.int .i64 (.var 46)), (.int .i64 (.var 47)), (.int .i64 (.var 48)), (.int .i64 (.var 49)), (.int .i64 (.var 50)), (.int .i64 (.var 51)), (.int .i64 (.var 52)), (.int .i64 (.var 53)), (.int .i64 (.var 54)), (.int .i64 (.var 55)), (.int .i64 (.var 56)), (.int .i64 (.var 57)), (.int .i64 (.var 58)), (.int .i64 (.var 59)), (.int .i64 (.var 60)), (.int .i64 (.var 61)), (.int .i64 (.var 62)), (.int .i64 (.var 63)), (.int .i64 (.var 64)), (.int .i64 (.var 65)), (.int .i64 (.var 66)), (.int .i64 (.var 67)), (.int .i64 (.var 68)), (.int .i64 (.var 69)), (.int .i64 (.var 70)), (.int .i64 (.var 71)), (.int .i64 (.var 72)), (.int .i64 (.var 73)), (.int .i64 (.var 74)), (.int .i64 (.var 75)), (.int .i64 (.var 76)), (.int .i64 (.var 77)), (.int .i64 (.var 78)), (.int .i64 (.var 79)), (.int .i64 (.var 80)), (.int .i64 (.var 81)), (.int .i64 (.var 82)), (.int .i64 (.var 83)), (.int .i64 (.var 84)), (.int .i64 (.var 85)), (.int .i64 (.var 86)), (.int .i64 (.var 87)), (.int .i64 (.var 88)), (.int .i64 (.var 89)), (.int .i64 (.var 90)), (.int .i64 (.var 91))]), (.agg [(.int .i64 (.var 93)), (.int .i64 (.var 94)), (.val 95), (.int .i64 (.var 96)), (.int .i64 (.var 97)), (.int .i64 (.var 98)), (.int .i64 (.var 99)), (.int .i64 (.var 100)), (.int .i64 (.var 101)), (.int .i64 (.var 102)), (.int .i64 (.var 103)), (.int .i64 (.var 104)), (.int .i64 (.var 105)), (.int .i64 (.var 106)), (.int .i64 (.var 107)), (.int .i64 (.var 108)), (.int .i64 (.var 109)), (.int .i64 (.var 110)), (.int .i64 (.var 111)), (.int .i64 (.var 112)), (.int .i64 (.var 113)), (.int .i64 (.var 114)), (.int .i64 (.var 115)), (.int .i64 (.var 116)), (.int .i64 (.var 117)), (.int .i64 (.var 118)), (.int .i64 (.var 119)), (.int .i64 (.var 120)), (.int .i64 (.var 121)), (.int .i64 (.var 122)), (.int .i64 (.var 123)), (.int .i64 (.var 124)), (.int .i64 (.var 125)), (.int .i64 (.var 126)), (.int .i64 (.var 127)), (.int .i64 (.var 128)), (.int .i64 (.var 129)), (.int .i64 (.var 130)), (.int .i64 (.var 131)), (.int .i64 (.var 132)), (.int .i64 (.var 133)), (.int .i64 (.var 134)), (.int .i64 (.var 135)), (.int .i64 (.var 136)), (.int .i64 (.var 137)), (.int .i64 (.var 138)), (.int .i64 (.var 139)), (.int .i64 (.var 140)), (.int .i64 (.var 141)), (.int .i64 (.var 142)), (.int .i64 (.var 143)), (.int .i64 (.var 144)), (.int .i64 (.var 145)), (.int .i64 (.var 146)), (.int .i64 (.var 147)), (.int .i64 (.var 148)), (.int .i64 (.var 149)), (.int .i64 (.var 150)), (.int .i64 (.var 151)), (.int .i64 (.var 152)), (.int .i64 (.var 153)), (.int .i64 (.var 154)), (.int .i64 (.var 155)), (.int .i64 (.var 156)), (.int .i64 (.var 157)), (.int .i64 (.var 158)), (.int .i64 (.var 159)), (.int .i64 (.var 160))])] [] [] [] [(false, [.bool])] 
          (.done (.bool (.var 162)) []))
          (.done (.bool (.tt false)) []))))))) 
       (.loop 0 [(.int .i64 (.lit 0)), (.int .i64 (.op .add .i64 (.var 11) (.op .rem .i64 (.conv .i64 (.var 9)) (.op .sub .i64 (.var 12) (.var 11))))), (.int .i64 (.op .add .i64 (.var 11) (.op .rem .i64 (.conv .i64 (.var 8)) (.op .sub .i64 (.var 12) (.var 11)))))] [.int .i64, .int .i64, .int .i64] 
        (.ite (.cmp .lss (.var 17) (.len 16))
         (.need (.tt true) [(.cmp .geq (.var 17) (.lit 0)), (.cmp .lss (.var 17) (.len 16))] 
         (.load (.tt true) (.fld (.idx (.var 16) (.var 17) 5) 0) [.sl] 
         (.loop 1 [(.int .i64 (.lit 0)), (.int .i64 (.var 18)), (.int .i64 (.var 19))] [.int .i64, .int .i64, .int .i64] 
          (.ite (.cmp .lss (.var 21) (.len 20))
           (.load (.tt true) (.fld (.idx (.var 16) (.var 17) 5) 0) [.sl] 
           (.need (.tt true) [(.cmp .geq (.var 21) (.lit 0)), (.cmp .lss (.var 21) (.len 24))] 
           (.load (.tt true) (.fld (.idx (.var 24) (.var 21) 7) 0) [.int .u8] 
           (.ite (.cmp .neq (.var 25) (.lit 5))
            (.load (.tt true) (.fld (.idx (.var 24) (.var 21) 7) 2) [.int .i64] 
            (.call 28 [(.int .i64 (.var 26)), (.loc 12 0), (.loc 13 0)] [12, 13] [[(.int .i64 (.var 23))], [(.int .i64 (.var 22))]] [[.int .i64], [.int .i64]] [(false, [.int .i64])] 
            (.store (.fld (.idx (.var 24) (.var 21) 7) 2) [(.int .i64 (.var 29))] 
            (.load (.tt true) (.fld (.idx (.var 24) (.var 21) 7) 0) [.int .u8] 
            (.load (.cmp .neq (.var 30) (.lit 1)) (.fld (.idx (.var 24) (.var 21) 7) 0) [.int .u8] 
            (.ite (.ite (.cmp .neq (.var 30) (.lit 1)) (.cmp .neq (.var 31) (.lit 6)) (.tt false))
             (.load (.tt true) (.fld (.idx (.var 24) (.var 21) 7) 3) [.int .i64] 
             (.call 28 [(.int .i64 (.var 32)), (.loc 12 0), (.loc 13 0)] [12, 13] [[(.int .i64 (.var 27))], [(.int .i64 (.var 28))]] [[.int .i64], [.int .i64]] [(false, [.int .i64])] 
             (.store (.fld (.idx (.var 24) (.var 21) 7) 3) [(.int .i64 (.var 35))] 
             (.load (.tt true) (.fld (.idx (.var 24) (.var 21) 7) 0) [.int .u8] 
             (.load (.not (.cmp .eql (.var 36) (.lit 3))) (.fld (.idx (.var 24) (.var 21) 7) 0) [.int .u8] 
             (.ite (.ite (.cmp .eql (.var 36) (.lit 3)) (.tt true) (.cmp .eql (.var 37) (.lit 5)))
              (.load (.tt true) (.fld (.idx (.var 24) (.var 21) 7) 4) [.int .i64] 
              (.call 28 [(.int .i64 (.var 38)), (.loc 12 0), (.loc 13 0)] [12, 13] [[(.int .i64 (.var 33))], [(.int .i64 (.var 34))]] [[.int .i64], [.int .i64]] [(false, [.int .i64])] 
              (.store (.fld (.idx (.var 24) (.var 21) 7) 4) [(.int .i64 (.var 41))] 
              (.load (.tt true) (.fld (.idx (.var 24) (.var 21) 7) 6) [.sl] 
              (.loop 2 [(.int .i64 (.lit 0)), (.int .i64 (.var 40)), (.int .i64 (.var 39))] [.int .i64, .int .i64, .int .i64] 
               (.ite (.cmp .lss (.var 43) (.len 42))
                (.load (.tt true) (.fld (.idx (.var 24) (.var 21) 7) 6) [.sl] 
                (.load (.tt true) (.fld (.idx (.var 24) (.var 21) 7) 6) [.sl] 
                (.need (.tt true) [(.cmp .geq (.var 43) (.lit 0)), (.cmp .lss (.var 43) (.len 47))] 
                (.load (.tt true) (.idx (.var 47) (.var 43) 1) [.int .i64] 
                (.call 28 [(.int .i64 (.var 48)), (.loc 12 0), (.loc 13 0)] [12, 13] [[(.int .i64 (.var 45))], [(.int .i64 (.var 44))]] [[.int .i64], [.int .i64]] [(false, [.int .i64])] 
                (.still (.tt true) (.fld (.idx (.var 24) (.var 21) 7) 6) [(.val 47)] 
                (.still (.tt true) (.fld (.idx (.var 24) (.var 21) 7) 6) [(.val 46)] 
                (.need (.tt true) [(.cmp .geq (.var 43) (.lit 0)), (.cmp .lss (.var 43) (.len 46))] 
                (.store (.idx (.var 46) (.var 43) 1) [(.int .i64 (.var 51))] 
                (.again 2 [(.int .i64 (.op .add .i64 (.var 43) (.lit 1))), (.int .i64 (.var 50)), (.int .i64 (.var 49))]))))))))))
                (.again 1 [(.int .i64 (.op .add .i64 (.var 21) (.lit 1))), (.int .i64 (.var 44)), (.int .i64 (.var 45))])))))))
              (.load (.tt true) (.fld (.idx (.var 24) (.var 21) 7) 6) [.sl] 
              (.loop 2 [(.int .i64 (.lit 0)), (.int .i64 (.var 34)), (.int .i64 (.var 33))] [.int .i64, .int .i64, .int .i64] 
               (.ite (.cmp .lss (.var 39) (.len 38))
                (.load (.tt true) (.fld (.idx (.var 24) (.var 21) 7) 6) [.sl] 
                (.load (.tt true) (.fld (.idx (.var 24) (.var 21) 7) 6) [.sl] 
                (.need (.tt true) [(.cmp .geq (.var 39) (.lit 0)), (.cmp .lss (.var 39) (.len 43))] 
                (.load (.tt true) (.idx (.var 43) (.var 39) 1) [.int .i64] 
                (.call 28 [(.int .i64 (.var 44)), (.loc 12 0), (.loc 13 0)] [12, 13] [[(.int .i64 (.var 41))], [(.int .i64 (.var 40))]] [[.int .i64], [.int .i64]] [(false, [.int .i64])] 
                (.still (.tt true) (.fld (.idx (.var 24) (.var 21) 7) 6) [(.val 43)] 
                (.still (.tt true) (.fld (.idx (.var 24) (.var 21) 7) 6) [(.val 42)] 
                (.need (.tt true) [(.cmp .geq (.var 39) (.lit 0)), (.cmp .lss (.var 39) (.len 42))] 
                (.store (.idx (.var 42) (.var 39) 1) [(.int .i64 (.var 47))] 
                (.again 2 [(.int .i64 (.op .add .i64 (.var 39) (.lit 1))), (.int .i64 (.var 46)), (.int .i64 (.var 45))]))))))))))
                (.again 1 [(.int .i64 (.op .add .i64 (.var 21) (.lit 1))), (.int .i64 (.var 40)), (.int .i64 (.var 41))]))))))))))
             (.load (.tt true) (.fld (.idx (.var 24) (.var 21) 7) 0) [.int .u8] 
             (.load (.not (.cmp .eql (.var 32) (.lit 3))) (.fld (.idx (.var 24) (.var 21) 7) 0) [.int .u8] 
             (.ite (.ite (.cmp .eql (.var 32) (.lit 3)) (.tt true) (.cmp .eql (.var 33) (.lit 5)))
              (.load (.tt true) (.fld (.idx (.var 24) (.var 21) 7) 4) [.int .i64] 
              (.call 28 [(.int .i64 (.var 34)), (.loc 12 0), (.loc 13 0)] [12, 13] [[(.int .i64 (.var 27))], [(.int .i64 (.var 28))]] [[.int .i64], [.int .i64]] [(false, [.int .i64])] 
              (.store (.fld (.idx (.var 24) (.var 21) 7) 4) [(.int .i64 (.var 37))] 
              (.load (.tt true) (.fld (.idx (.var 24) (.var 21) 7) 6) [.sl] 
              (.loop 2 [(.int .i64 (.lit 0)), (.int .i64 (.var 36)), (.int .i64 (.var 35))] [.int .i64, .int .i64, .int .i64] 
               (.ite (.cmp .lss (.var 39) (.len 38))
                (.load (.tt true) (.fld (.idx (.var 24) (.var 21) 7) 6) [.sl] 
                (.load (.tt true) (.fld (.idx (.var 24) (.var 21) 7) 6) [.sl] 
                (.need (.tt true) [(.cmp .geq (.var 39) (.lit 0)), (.cmp .lss (.var 39) (.len 43))] 
                (.load (.tt true) (.idx (.var 43) (.var 39) 1) [.int .i64] 
                (.call 28 [(.int .i64 (.var 44)), (.loc 12 0), (.loc 13 0)] [12, 13] [[(.int .i64 (.var 41))], [(.int .i64 (.var 40))]] [[.int .i64], [.int .i64]] [(false, [.int .i64])] 
                (.still (.tt true) (.fld (.idx (.var 24) (.var 21) 7) 6) [(.val 43)] 
                (.still (.tt true) (.fld (.idx (.var 24) (.var 21) 7) 6) [(.val 42)] 
                (.need (.tt true) [(.cmp .geq (.var 39) (.lit 0)), (.cmp .lss (.var 39) (.len 42))] 
                (.store (.idx (.var 42) (.var 39) 1) [(.int .i64 (.var 47))] 
                (.again 2 [(.int .i64 (.op .add .i64 (.var 39) (.lit 1))), (.int .i64 (.var 46)), (.int .i64 (.var 45))]))))))))))
                (.again 1 [(.int .i64 (.op .add .i64 (.var 21) (.lit 1))), (.int .i64 (.var 40)), (.int .i64 (.var 41))])))))))
              (.load (.tt true) (.fld (.idx (.var 24) (.var 21) 7) 6) [.sl] 
              (.loop 2 [(.int .i64 (.lit 0)), (.int .i64 (.var 28)), (.int .i64 (.var 27))] [.int .i64, .int .i64, .int .i64] 
               (.ite (.cmp .lss (.var 35) (.len 34))
                (.load (.tt true) (.fld (.idx (.var 24) (.var 21) 7) 6) [.sl] 
                (.load (.tt true) (.fld (.idx (.var 24) (.var 21) 7) 6) [.sl] 
                (.need (.tt true) [(.cmp .geq (.var 35) (.lit 0)), (.cmp .lss (.var 35) (.len 39))] 
                (.load (.tt true) (.idx (.var 39) (.var 35) 1) [.int .i64] 
                (.call 28 [(.int .i64 (.var 40)), (.loc 12 0), (.loc 13 0)] [12, 13] [[(.int .i64 (.var 37))], [(.int .i64 (.var 36))]] [[.int .i64], [.int .i64]] [(false, [.int .i64])] 
                (.still (.tt true) (.fld (.idx (.var 24) (.var 21) 7) 6) [(.val 39)] 
                (.still (.tt true) (.fld (.idx (.var 24) (.var 21) 7) 6) [(.val 38)] 
                (.need (.tt true) [(.cmp .geq (.var 35) (.lit 0)), (.cmp .lss (.var 35) (.len 38))] 
                (.store (.idx (.var 38) (.var 35) 1) [(.int .i64 (.var 43))] 
                (.again 2 [(.int .i64 (.op .add .i64 (.var 35) (.lit 1))), (.int .i64 (.var 42)), (.int .i64 (.var 41))]))))))))))
                (.again 1 [(.int .i64 (.op .add .i64 (.var 21) (.lit 1))), (.int .i64 (.var 36)), (.int .i64 (.var 37))])))))))))))))
            (.load (.tt true) (.fld (.idx (.var 24) (.var 21) 7) 0) [.int .u8] 
            (.load (.cmp .neq (.var 26) (.lit 1)) (.fld (.idx (.var 24) (.var 21) 7) 0) [.int .u8] 
            (.ite (.ite (.cmp .neq (.var 26) (.lit 1)) (.cmp .neq (.var 27) (.lit 6)) (.tt false))
             (.load (.tt true) (.fld (.idx (.var 24) (.var 21) 7) 3) [.int .i64] 
             (.call 28 [(.int .i64 (.var 28)), (.loc 12 0), (.loc 13 0)] [12, 13] [[(.int .i64 (.var 23))], [(.int .i64 (.var 22))]] [[.int .i64], [.int .i64]] [(false, [.int .i64])] 
             (.store (.fld (.idx (.var 24) (.var 21) 7) 3) [(.int .i64 (.var 31))] 
             (.load (.tt true) (.fld (.idx (.var 24) (.var 21) 7) 0) [.int .u8] 
             (.load (.not (.cmp .eql (.var 32) (.lit 3))) (.fld (.idx (.var 24) (.var 21) 7) 0) [.int .u8] 
             (.ite (.ite (.cmp .eql (.var 32) (.lit 3)) (.tt true) (.cmp .eql (.var 33) (.lit 5)))
              (.load (.tt true) (.fld (.idx (.var 24) (.var 21) 7) 4) [.int .i64] 
              (.call 28 [(.int .i64 (.var 34)), (.loc 12 0), (.loc 13 0)] [12, 13] [[(.int .i64 (.var 29))], [(.int .i64 (.var 30))]] [[.int .i64], [.int .i64]] [(false, [.int .i64])] 
              (.store (.fld (.idx (.var 24) (.var 21) 7) 4) [(.int .i64 (.var 37))] 
              (.load (.tt true) (.fld (.idx (.var 24) (.var 21) 7) 6) [.sl] 
              (.loop 2 [(.int .i64 (.lit 0)), (.int .i64 (.var 36)), (.int .i64 (.var 35))] [.int .i64, .int .i64, .int .i64] 
               (.ite (.cmp .lss (.var 39) (.len 38))
                (.load (.tt true) (.fld (.idx (.var 24) (.var 21) 7) 6) [.sl] 
                (.load (.tt true) (.fld (.idx (.var 24) (.var 21) 7) 6) [.sl] 
                (.need (.tt true) [(.cmp .geq (.var 39) (.lit 0)), (.cmp .lss (.var 39) (.len 43))] 
                (.load (.tt true) (.idx (.var 43) (.var 39) 1) [.int .i64] 
                (.call 28 [(.int .i64 (.var 44)), (.loc 12 0), (.loc 13 0)] [12, 13] [[(.int .i64 (.var 41))], [(.int .i64 (.var 40))]] [[.int .i64], [.int .i64]] [(false, [.int .i64])] 
                (.still (.tt true) (.fld (.idx (.var 24) (.var 21) 7) 6) [(.val 43)] 
                (.still (.tt true) (.fld (.idx (.var 24) (.var 21) 7) 6) [(.val 42)] 
                (.need (.tt true) [(.cmp .geq (.var 39) (.lit 0)), (.cmp .lss (.var 39) (.len 42))] 
                (.store (.idx (.var 42) (.var 39) 1) [(.int .i64 (.var 47))] 
                (.again 2 [(.int .i64 (.op .add .i64 (.var 39) (.lit 1))), (.int .i64 (.var 46)), (.int .i64 (.var 45))]))))))))))
                (.again 1 [(.int .i64 (.op .add .i64 (.var 21) (.lit 1))), (.int .i64 (.var 40)), (.int .i64 (.var 41))])))))))
              (.load (.tt true) (.fld (.idx (.var 24) (.var 21) 7) 6) [.sl] 
              (.loop 2 [(.int .i64 (.lit 0)), (.int .i64 (.var 30)), (.int .i64 (.var 29))] [.int .i64, .int .i64, .int .i64] 
               (.ite (.cmp .lss (.var 35) (.len 34))
                (.load (.tt true) (.fld (.idx (.var 24) (.var 21) 7) 6) [.sl] 
                (.load (.tt true) (.fld (.idx (.var 24) (.var 21) 7) 6) [.sl] 
                (.need (.tt true) [(.cmp .geq (.var 35) (.lit 0)), (.cmp .lss (.var 35) (.len 39))] 
                (.load (.tt true) (.idx (.var 39) (.var 35) 1) [.int .i64] 
                (.call 28 [(.int .i64 (.var 40)), (.loc 12 0), (.loc 13 0)] [12, 13] [[(.int .i64 (.var 37))], [(.int .i64 (.var 36))]] [[.int .i64], [.int .i64]] [(false, [.int .i64])] 
                (.still (.tt true) (.fld (.idx (.var 24) (.var 21) 7) 6) [(.val 39)] 
                (.still (.tt true) (.fld (.idx (.var 24) (.var 21) 7) 6) [(.val 38)] 
                (.need (.tt true) [(.cmp .geq (.var 35) (.lit 0)), (.cmp .lss (.var 35) (.len 38))] 
                (.store (.idx (.var 38) (.var 35) 1) [(.int .i64 (.var 43))] 
                (.again 2 [(.int .i64 (.op .add .i64 (.var 35) (.lit 1))), (.int .i64 (.var 42)), (.int .i64 (.var 41))]))))))))))
                (.again 1 [(.int .i64 (.op .add .i64 (.var 21) (.lit 1))), (.int .i64 (.var 36)), (.int .i64 (.var 37))]))))))))))
             (.load (.tt true) (.fld (.idx (.var 24) (.var 21) 7) 0) [.int .u8] 
             (.load (.not (.cmp .eql (.var 28) (.lit 3))) (.fld (.idx (.var 24) (.var 21) 7) 0) [.int .u8] 
             (.ite (.ite (.cmp .eql (.var 28) (.lit 3)) (.tt true) (.cmp .eql (.var 29) (.lit 5)))
              (.load (.tt true) (.fld (.idx (.var 24) (.var 21) 7) 4) [.int .i64] 
              (.call 28 [(.int .i64 (.var 30)), (.loc 12 0), (.loc 13 0)] [12, 13] [[(.int .i64 (.var 23))], [(.int .i64 (.var 22))]] [[.int .i64], [.int .i64]] [(false, [.int .i64])] 
              (.store (.fld (.idx (.var 24) (.var 21) 7) 4) [(.int .i64 (.var 33))] 
              (.load (.tt true) (.fld (.idx (.var 24) (.var 21) 7) 6) [.sl] 
              (.loop 2 [(.int .i64 (.lit 0)), (.int .i64 (.var 32)), (.int .i64 (.var 31))] [.int .i64, .int .i64, .int .i64] 
               (.ite (.cmp .lss (.var 35) (.len 34))
                (.load (.tt true) (.fld (.idx (.var 24) (.var 21) 7) 6) [.sl] 
                (.load (.tt true) (.fld (.idx (.var 24) (.var 21) 7) 6) [.sl] 
                (.need (.tt true) [(.cmp .geq (.var 35) (.lit 0)), (.cmp .lss (.var 35) (.len 39))] 
                (.load (.tt true) (.idx (.var 39) (.var 35) 1) [.int .i64] 
                (.call 28 [(.int .i64 (.var 40)), (.loc 12 0), (.loc 13 0)] [12, 13] [[(.int .i64 (.var 37))], [(.int .i64 (.var 36))]] [[.int .i64], [.int .i64]] [(false, [.int .i64])] 
                (.still (.tt true) (.fld (.idx (.var 24) (.var 21) 7) 6) [(.val 39)] 
                (.still (.tt true) (.fld (.idx (.var 24) (.var 21) 7) 6) [(.val 38)] 
                (.need (.tt true) [(.cmp .geq (.var 35) (.lit 0)), (.cmp .lss (.var 35) (.len 38))] 
                (.store (.idx (.var 38) (.var 35) 1) [(.int .i64 (.var 43))] 
                (.again 2 [(.int .i64 (.op .add .i64 (.var 35) (.lit 1))), (.int .i64 (.var 42)), (.int .i64 (.var 41))]))))))))))
                (.again 1 [(.int .i64 (.op .add .i64 (.var 21) (.lit 1))), (.int .i64 (.var 36)), (.int .i64 (.var 37))])))))))
              (.load (.tt true) (.fld (.idx (.var 24) (.var 21) 7) 6) [.sl] 
              (.loop 2 [(.int .i64 (.lit 0)), (.int .i64 (.var 22)), (.int .i64 (.var 23))] [.int .i64, .int .i64, .int .i64] 
               (.ite (.cmp .lss (.var 31) (.len 30))
                (.load (.tt true) (.fld (.idx (.var 24) (.var 21) 7) 6) [.sl] 
                (.load (.tt true) (.fld (.idx (.var 24) (.var 21) 7) 6) [.sl] 
                (.need (.tt true) [(.cmp .geq (.var 31) (.lit 0)), (.cmp .lss (.var 31) (.len 35))] 
                (.load (.tt true) (.idx (.var 35) (.var 31) 1) [.int .i64] 
                (.call 28 [(.int .i64 (.var 36)), (.loc 12 0), (.loc 13 0)] [12, 13] [[(.int .i64 (.var 33))], [(.int .i64 (.var 32))]] [[.int .i64], [.int .i64]] [(false, [.int .i64])] 
                (.still (.tt true) (.fld (.idx (.var 24) (.var 21) 7) 6) [(.val 35)] 
                (.still (.tt true) (.fld (.idx (.var 24) (.var 21) 7) 6) [(.val 34)] 
                (.need (.tt true) [(.cmp .geq (.var 31) (.lit 0)), (.cmp .lss (.var 31) (.len 34))] 
                (.store (.idx (.var 34) (.var 31) 1) [(.int .i64 (.var 39))] 
                (.again 2 [(.int .i64 (.op .add .i64 (.var 31) (.lit 1))), (.int .i64 (.var 38)), (.int .i64 (.var 37))]))))))))))
                (.again 1 [(.int .i64 (.op .add .i64 (.var 21) (.lit 1))), (.int .i64 (.var 32)), (.int .i64 (.var 33))]))))))))))))))
           (.load (.tt true) (.fld (.fld (.idx (.var 16) (.var 17) 5) 1) 0) [.int .u8] 
           (.ite (.cmp .neq (.var 24) (.lit 1))
            (.load (.tt true) (.fld (.fld (.idx (.var 16) (.var 17) 5) 1) 1) [.int .i64] 
            (.call 28 [(.int .i64 (.var 25)), (.loc 12 0), (.loc 13 0)] [12, 13] [[(.int .i64 (.var 23))], [(.int .i64 (.var 22))]] [[.int .i64], [.int .i64]] [(false, [.int .i64])] 
            (.store (.fld (.fld (.idx (.var 16) (.var 17) 5) 1) 1) [(.int .i64 (.var 28))] 
            (.again 0 [(.int .i64 (.op .add .i64 (.var 17) (.lit 1))), (.int .i64 (.var 27)), (.int .i64 (.var 26))]))))
            (.again 0 [(.int .i64 (.op .add .i64 (.var 17) (.lit 1))), (.int .i64 (.var 22)), (.int .i64 (.var 23))])))))))
         (.call 17 [(.agg [(.val 4), (.val 5), (.val 6), (.int .i64 (.var 7))]), (.int .i64 (.var 11))] [] [] [] [(true, [.sl, .sl, .sl, .int .i64])] 
         (.call 18 [(.agg [(.int .i64 (.var 11)), (.int .i64 (.var 12)), (.val 13)]), (.agg [(.val 20), (.val 21), (.val 22), (.int .i64 (.var 23))])] [] [] [] [(true, [.int .i64, .int .i64, .sl, .int .i64, .int .i64, .int .i64, .int .i64, .int .i64, .int .i64, .int .i64, .int .i64, .int .i64, .int .i64, .int .i64, .int .i64, .int .i64, .int .i64, .int .i64, .int .i64, .int .i64, .int .i64, .int .i64, .int .i64, .int .i64, .int .i64, .int .i64, .int .i64, .int .i64, .int .i64, .int .i64, .int .i64, .int .i64, .int .i64, .int .i64, .int .i64, .int .i64, .int .i64, .int .i64, .int .i64, .int .i64, .int .i64, .int .i64, .int .i64, .int .i64, .int .i64, .int .i64, .int .i64, .int .i64, .int .i64, .int .i64, .int .i64, .int .i64, .int .i64, .int .i64, .int .i64, .int .i64, .int .i64, .int .i64, .int .i64, .int .i64, .int .i64, .int .i64, .int .i64, .int .i64, .int .i64, .int .i64, .int .i64, .int .i64]), (false, [.int .i64])] 
         (.call 18 [(.agg [(.int .i64 (.var 14)), (.int .i64 (.var 15)), (.val 16)]), (.agg [(.val 20), (.val 21), (.val 22), (.int .i64 (.var 23))])] [] [] [] [(true, [.int .i64, .int .i64, .sl, .int .i64, .int .i64, .int .i64, .int .i64, .int .i64, .int .i64, .int .i64, .int .i64, .int .i64, .int .i64, .int .i64, .int .i64, .int .i64, .int .i64, .int .i64, .int .i64, .int .i64, .int .i64, .int .i64, .int .i64, .int .i64, .int .i64, .int .i64, .int .i64, .int .i64, .int .i64, .int .i64, .int .i64, .int .i64, .int .i64, .int .i64, .int .i64, .int .i64, .int .i64, .int .i64, .int .i64, .int .i64, .int .i64, .int .i64, .int .i64, .int .i64, .int .i64, .int .i64, .int .i64, .int .i64, .int .i64, .int .i64, .int .i64, .int .i64, .int .i64, .int .i64, .int .i64, .int .i64, .int .i64, .int .i64, .int .i64, .int .i64, .int .i64, .int .i64, .int .i64, .int .i64, .int .i64, .int .i64, .int .i64, .int .i64]), (false, [.int .i64])] 
         (.ite (.ite (.cmp .eql (.var 92) (.lit 0)) (.cmp .eql (.var 161) (.lit 0)) (.tt false))
          (.call 19 [(.agg [(.int .i64 (.var 24)), (.int .i64 (.var 25)), (.val 26), (.int .i64 (.var 27)), (.int .i64 (.var 28)), (.int .i64 (.var 29)), (.int .i64 (.var 30)), (.int .i64 (.var 31)), (.int .i64 (.var 32)), (.int .i64 (.var 33)), (.int .i64 (.var 34)), (.int .i64 (.var 35)), (.int .i64 (.var 36)), (.int .i64 (.var 37)), (.int .i64 (.var 38)), (.int .i64 (.var 39)), (.int .i64 (.var 40)), (.int .i64 (.var 41)), (.int .i64 (.var 42)), (.int .i64 (.var 43)), (.int .i64 (.var 44)), (.int .i64 (.var 45)), (.int .i64 (.var 46)), (.int .i64 (.var 47)), (.int .i64 (.var 48)), (.int .i64 (.var 49)), (.int .i64 (.var 50)), (.int .i64 (.var 51)), (.int .i64 (.var 52)), (.int .i64 (.var 53)), (.int .i64 (.var 54)), (.int .i64 (.var 55)), (.int .i64 (.var 56)), (.int .i64 (.var 57)), (.int .i64 (.var 58)), (.int .i64 (.var 59)), (.int .i64 (.var 60)), (.int .i64 (.var 61)), (.int .i64 (.var 62)), (.int .i64 (.var 63)), (.int .i64 (.var 64)), (.int .i64 (.var 65)), (.int .i64 (.var 66)), (.int .i64 (.var 67)), (.int .i64 (.var 68)), (.int .i64 (.var 69)), (.int .i64 (.var 70)), (.int .i64 (.var 71)), (.int .i64 (.var 72)), (.int .i64 (.var 73)), (.int .i64 (.var 74)), (.int .i64 (.var 75)), (.int .i64 (.var 76)), (.int .i64 (.var 77)), (.int .i64 (.var 78)), (.int .i64 (.var 79)), (.int .i64 (.var 80)), (.int .i64 (.var 81)), (.int .i64 (.var 82)), (.int .i64 (.var 83)), (.int .i64 (.var 84)), (.int .i64 (.var 85)), (.int .i64 (.var 86)), (.int .i64 (.var 87)), (.int .i64 (.var 88)), (.int .i64 (.var 89)), (.int .i64 (.var 90)), (.int .i64 (.var 91))]), (.agg [(.int .i64 (.var 93)), (.int .i64 (.var 94)), (.val 95), (.int .i64 (.var 96)), (.int .i64 (.var 97)), (.int .i64 (.var 98)), (.int .i64 (.var 99)), (.int .i64 (.var 100)), (.int .i64 (.var 101)), (.int .i64 (.var 102)), (.int .i64 (.var 103)), (.int .i64 (.var 104)), (.int .i64 (.var 105)), (.int .i64 (.var 106)), (.int .i64 (.var 107)), (.int .i64 (.var 108)), (.int .i64 (.var 109)), (.int .i64 (.var 110)), (.int .i64 (.var 111)), (.int .i64 (.var 112)), (.int .i64 (.var 113)), (.int .i64 (.var 114)), (.int .i64 (.var 115)), (.int .i64 (.var 116)), (.int .i64 (.var 117)), (.int .i64 (.var 118)), (.int .i64 (.var 119)), (.int .i64 (.var 120)), (.int .i64 (.var 121)), (.int .i64 (.var 122)), (.int .i64 (.var 123)), (.int .i64 (.var 124)), (.int .i64 (.var 125)), (.int .i64 (.var 126)), (.int .i64 (.var 127)), (.int .i64 (.var 128)), (.int .i64 (.var 129)), (.int .i64 (.var 130)), (.int .i64 (.var 131)), (.int .i64 (.var 132)), (.int .i64 (.var 133)), (.int .i64 (.var 134)), (.int .i64 (.var 135)), (.int .i64 (.var 136)), (.int .i64 (.var 137)), (.int .i64 (.var 138)), (.int .i64 (.var 139)), (.int .i64 (.var 140)), (.int .i64 (.var 141)), (.int .i64 (.var 142)), (.int .i64 (.var 143)), (.int .i64 (.var 144)), (.int .i64 (.var 145)), (.int .i64 (.var 146)), (.int .i64 (.var 147)), (.int .i64 (.var 148)), (.int .i64 (.var 149)), (.int .i64 (.var 150)), (.int .i64 (.var 151)), (.int .i64 (.var 152)), (.int .i64 (.var 153)), (.int .i64 (.var 154)), (.int .i64 (.var 155)), (.int .i64 (.var 156)), (.int .i64 (.var 157)), (.int .i64 (.var 158)), (.int .i64 (.var 159)), (.int .i64 (.var 160))])] [] [] [] [(false, [.bool])] 
          (.done (.bool (.var 162)) []))
          (.done (.bool (.tt false)) [])))))))))))
end Go.Proofs.Ytodeffobplpcnaa
