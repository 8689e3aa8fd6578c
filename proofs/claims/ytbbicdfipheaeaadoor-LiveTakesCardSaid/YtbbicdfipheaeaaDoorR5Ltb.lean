/-
  What the evaluator leaves of the functions of this seat (trees, printed by a program of ours), and their contracts from it. Conditions: none.
-/
import Derived.Test.YtbbicdfipheaeaaDoorR5Lt
set_option linter.unusedVariables false
set_option linter.unusedSimpArgs false
namespace Go.Proofs.YtbbicdfipheaeaaDoor
open Go

/-- What is left of it. -/
def t7 : Out :=
 (.call 29 [] [] [] [] [(false, [.bool])] 
 (.ite (.not (.var 7))
  (.done (.bool (.tt false)) [])
  (.both (.call 12 [(.agg [(.int .u8 (.var 0)), (.int .u8 (.var 1)), (.int .u8 (.var 2)), (.val 3)])] [] [] [] [(true, [.int .i64, .int .i64, .sl])] 
   (.both (.call 12 [(.agg [(.int .u8 (.var 0)), (.int .u8 (.var 1)), (.int .u8 (.var 2)), (.val 3)])] [] [] [] [(true, [.int .i64, .int .i64, .sl])] 
    (.both pick7 pick7)) (.both (.both (.call 12 [(.agg [(.int .u8 (.var 0)), (.int .u8 (.var 1)), (.int .u8 (.var 2)), (.val 3)])] [] [] [] [(true, [.int .i64, .int .i64, .sl])] 
      pick7) (.call 12 [(.agg [(.int .u8 (.var 0)), (.int .u8 (.var 1)), (.int .u8 (.var 2)), (.val 3)])] [] [] [] [(true, [.int .i64, .int .i64, .sl])] 
      pick7)) (.both (.call 12 [(.agg [(.int .u8 (.var 0)), (.int .u8 (.var 1)), (.int .u8 (.var 2)), (.val 3)])] [] [] [] [(true, [.int .i64, .int .i64, .sl])] 
      pick7) (.call 12 [(.agg [(.int .u8 (.var 0)), (.int .u8 (.var 1)), (.int .u8 (.var 2)), (.val 3)])] [] [] [] [(true, [.int .i64, .int .i64, .sl])] 
      pick7))))) (.both (.both (.call 12 [(.agg [(.int .u8 (.var 0)), (.int .u8 (.var 1)), (.int .u8 (.var 2)), (.val 3)])] [] [] [] [(true, [.int .i64, .int .i64, .sl])] 
     (.both (.call 12 [(.agg [(.int .u8 (.var 0)), (.int .u8 (.var 1)), (.int .u8 (.var 2)), (.val 3)])] [] [] [] [(true, [.int .i64, .int .i64, .sl])] 
      pick7) (.call 12 [(.agg [(.int .u8 (.var 0)), (.int .u8 (.var 1)), (.int .u8 (.var 2)), (.val 3)])] [] [] [] [(true, [.int .i64, .int .i64, .sl])] 
      pick7))) (.call 12 [(.agg [(.int .u8 (.var 0)), (.int .u8 (.var 1)), (.int .u8 (.var 2)), (.val 3)])] [] [] [] [(true, [.int .i64, .int .i64, .sl])] 
     (.call 12 [(.agg [(.int .u8 (.var 0)), (.int .u8 (.var 1)), (.int .u8 (.var 2)), (.val 3)])] [] [] [] [(true, [.int .i64, .int .i64, .sl])] 
     pick7))) (.both (.call 12 [(.agg [(.int .u8 (.var 0)), (.int .u8 (.var 1)), (.int .u8 (.var 2)), (.val 3)])] [] [] [] [(true, [.int .i64, .int .i64, .sl])] 
     (.both (.call 12 [(.agg [(.int .u8 (.var 0)), (.int .u8 (.var 1)), (.int .u8 (.var 2)), (.val 3)])] [] [] [] [(true, [.int .i64, .int .i64, .sl])] 
      pick7) (.call 12 [(.agg [(.int .u8 (.var 0)), (.int .u8 (.var 1)), (.int .u8 (.var 2)), (.val 3)])] [] [] [] [(true, [.int .i64, .int .i64, .sl])] 
      pick7))) (.call 12 [(.agg [(.int .u8 (.var 0)), (.int .u8 (.var 1)), (.int .u8 (.var 2)), (.val 3)])] [] [] [] [(true, [.int .i64, .int .i64, .sl])] 
     (.call 12 [(.agg [(.int .u8 (.var 0)), (.int .u8 (.var 1)), (.int .u8 (.var 2)), (.val 3)])] [] [] [] [(true, [.int .i64, .int .i64, .sl])] 
     pick7)))))))
theorem n7_ : ev7 = (.call 29 [] [] [] [] [(false, [.bool])] 
 (Out.pK ev7)) := eta_call (by kernel_rfl : Out.hd ev7 = (.call 29 [] [] [] [] [(false, [.bool])] 
 .fail))
theorem n7_K : (Out.pK ev7) = (.ite (.not (.var 7))
  (Out.pT (Out.pK ev7)) (Out.pE (Out.pK ev7))) := eta_ite (by kernel_rfl : Out.hd (Out.pK ev7) = (.ite (.not (.var 7))
  .fail .fail))
theorem m7_K : Out.pT (Out.pK ev7) = (.done (.bool (.tt false)) []) := by kernel_rfl
theorem n7_KE : (Out.pE (Out.pK ev7)) = .both (Out.pF (Out.pE (Out.pK ev7))) (Out.pS (Out.pE (Out.pK ev7))) := eta_both (by kernel_rfl : Out.hd (Out.pE (Out.pK ev7)) = .both .fail .fail)
theorem n7_KEF : (Out.pF (Out.pE (Out.pK ev7))) = (.call 12 [(.agg [(.int .u8 (.var 0)), (.int .u8 (.var 1)), (.int .u8 (.var 2)), (.val 3)])] [] [] [] [(true, [.int .i64, .int .i64, .sl])] 
   (Out.pK (Out.pF (Out.pE (Out.pK ev7))))) := eta_call (by kernel_rfl : Out.hd (Out.pF (Out.pE (Out.pK ev7))) = (.call 12 [(.agg [(.int .u8 (.var 0)), (.int .u8 (.var 1)), (.int .u8 (.var 2)), (.val 3)])] [] [] [] [(true, [.int .i64, .int .i64, .sl])] 
   .fail))
theorem n7_KEFK : (Out.pK (Out.pF (Out.pE (Out.pK ev7)))) = .both (Out.pF (Out.pK (Out.pF (Out.pE (Out.pK ev7))))) (Out.pS (Out.pK (Out.pF (Out.pE (Out.pK ev7))))) := eta_both (by kernel_rfl : Out.hd (Out.pK (Out.pF (Out.pE (Out.pK ev7)))) = .both .fail .fail)
theorem n7_KEFKF : (Out.pF (Out.pK (Out.pF (Out.pE (Out.pK ev7))))) = (.call 12 [(.agg [(.int .u8 (.var 0)), (.int .u8 (.var 1)), (.int .u8 (.var 2)), (.val 3)])] [] [] [] [(true, [.int .i64, .int .i64, .sl])] 
    (Out.pK (Out.pF (Out.pK (Out.pF (Out.pE (Out.pK ev7))))))) := eta_call (by kernel_rfl : Out.hd (Out.pF (Out.pK (Out.pF (Out.pE (Out.pK ev7))))) = (.call 12 [(.agg [(.int .u8 (.var 0)), (.int .u8 (.var 1)), (.int .u8 (.var 2)), (.val 3)])] [] [] [] [(true, [.int .i64, .int .i64, .sl])] 
    .fail))
theorem n7_KEFKFK : (Out.pK (Out.pF (Out.pK (Out.pF (Out.pE (Out.pK ev7)))))) = .both (Out.pF (Out.pK (Out.pF (Out.pK (Out.pF (Out.pE (Out.pK ev7))))))) (Out.pS (Out.pK (Out.pF (Out.pK (Out.pF (Out.pE (Out.pK ev7))))))) := eta_both (by kernel_rfl : Out.hd (Out.pK (Out.pF (Out.pK (Out.pF (Out.pE (Out.pK ev7)))))) = .both .fail .fail)
theorem n7_KEFKS : (Out.pS (Out.pK (Out.pF (Out.pE (Out.pK ev7))))) = .both (Out.pF (Out.pS (Out.pK (Out.pF (Out.pE (Out.pK ev7)))))) (Out.pS (Out.pS (Out.pK (Out.pF (Out.pE (Out.pK ev7)))))) := eta_both (by kernel_rfl : Out.hd (Out.pS (Out.pK (Out.pF (Out.pE (Out.pK ev7))))) = .both .fail .fail)
theorem n7_KEFKSF : (Out.pF (Out.pS (Out.pK (Out.pF (Out.pE (Out.pK ev7)))))) = .both (Out.pF (Out.pF (Out.pS (Out.pK (Out.pF (Out.pE (Out.pK ev7))))))) (Out.pS (Out.pF (Out.pS (Out.pK (Out.pF (Out.pE (Out.pK ev7))))))) := eta_both (by kernel_rfl : Out.hd (Out.pF (Out.pS (Out.pK (Out.pF (Out.pE (Out.pK ev7)))))) = .both .fail .fail)
theorem n7_KEFKSFF : (Out.pF (Out.pF (Out.pS (Out.pK (Out.pF (Out.pE (Out.pK ev7))))))) = (.call 12 [(.agg [(.int .u8 (.var 0)), (.int .u8 (.var 1)), (.int .u8 (.var 2)), (.val 3)])] [] [] [] [(true, [.int .i64, .int .i64, .sl])] 
      (Out.pK (Out.pF (Out.pF (Out.pS (Out.pK (Out.pF (Out.pE (Out.pK ev7))))))))) := eta_call (by kernel_rfl : Out.hd (Out.pF (Out.pF (Out.pS (Out.pK (Out.pF (Out.pE (Out.pK ev7))))))) = (.call 12 [(.agg [(.int .u8 (.var 0)), (.int .u8 (.var 1)), (.int .u8 (.var 2)), (.val 3)])] [] [] [] [(true, [.int .i64, .int .i64, .sl])] 
      .fail))
theorem n7_KEFKSFS : (Out.pS (Out.pF (Out.pS (Out.pK (Out.pF (Out.pE (Out.pK ev7))))))) = (.call 12 [(.agg [(.int .u8 (.var 0)), (.int .u8 (.var 1)), (.int .u8 (.var 2)), (.val 3)])] [] [] [] [(true, [.int .i64, .int .i64, .sl])] 
      (Out.pK (Out.pS (Out.pF (Out.pS (Out.pK (Out.pF (Out.pE (Out.pK ev7))))))))) := eta_call (by kernel_rfl : Out.hd (Out.pS (Out.pF (Out.pS (Out.pK (Out.pF (Out.pE (Out.pK ev7))))))) = (.call 12 [(.agg [(.int .u8 (.var 0)), (.int .u8 (.var 1)), (.int .u8 (.var 2)), (.val 3)])] [] [] [] [(true, [.int .i64, .int .i64, .sl])] 
      .fail))
theorem n7_KEFKSS : (Out.pS (Out.pS (Out.pK (Out.pF (Out.pE (Out.pK ev7)))))) = .both (Out.pF (Out.pS (Out.pS (Out.pK (Out.pF (Out.pE (Out.pK ev7))))))) (Out.pS (Out.pS (Out.pS (Out.pK (Out.pF (Out.pE (Out.pK ev7))))))) := eta_both (by kernel_rfl : Out.hd (Out.pS (Out.pS (Out.pK (Out.pF (Out.pE (Out.pK ev7)))))) = .both .fail .fail)
theorem n7_KEFKSSF : (Out.pF (Out.pS (Out.pS (Out.pK (Out.pF (Out.pE (Out.pK ev7))))))) = (.call 12 [(.agg [(.int .u8 (.var 0)), (.int .u8 (.var 1)), (.int .u8 (.var 2)), (.val 3)])] [] [] [] [(true, [.int .i64, .int .i64, .sl])] 
      (Out.pK (Out.pF (Out.pS (Out.pS (Out.pK (Out.pF (Out.pE (Out.pK ev7))))))))) := eta_call (by kernel_rfl : Out.hd (Out.pF (Out.pS (Out.pS (Out.pK (Out.pF (Out.pE (Out.pK ev7))))))) = (.call 12 [(.agg [(.int .u8 (.var 0)), (.int .u8 (.var 1)), (.int .u8 (.var 2)), (.val 3)])] [] [] [] [(true, [.int .i64, .int .i64, .sl])] 
      .fail))
theorem n7_KEFKSSS : (Out.pS (Out.pS (Out.pS (Out.pK (Out.pF (Out.pE (Out.pK ev7))))))) = (.call 12 [(.agg [(.int .u8 (.var 0)), (.int .u8 (.var 1)), (.int .u8 (.var 2)), (.val 3)])] [] [] [] [(true, [.int .i64, .int .i64, .sl])] 
      (Out.pK (Out.pS (Out.pS (Out.pS (Out.pK (Out.pF (Out.pE (Out.pK ev7))))))))) := eta_call (by kernel_rfl : Out.hd (Out.pS (Out.pS (Out.pS (Out.pK (Out.pF (Out.pE (Out.pK ev7))))))) = (.call 12 [(.agg [(.int .u8 (.var 0)), (.int .u8 (.var 1)), (.int .u8 (.var 2)), (.val 3)])] [] [] [] [(true, [.int .i64, .int .i64, .sl])] 
      .fail))
theorem n7_KES : (Out.pS (Out.pE (Out.pK ev7))) = .both (Out.pF (Out.pS (Out.pE (Out.pK ev7)))) (Out.pS (Out.pS (Out.pE (Out.pK ev7)))) := eta_both (by kernel_rfl : Out.hd (Out.pS (Out.pE (Out.pK ev7))) = .both .fail .fail)
theorem n7_KESF : (Out.pF (Out.pS (Out.pE (Out.pK ev7)))) = .both (Out.pF (Out.pF (Out.pS (Out.pE (Out.pK ev7))))) (Out.pS (Out.pF (Out.pS (Out.pE (Out.pK ev7))))) := eta_both (by kernel_rfl : Out.hd (Out.pF (Out.pS (Out.pE (Out.pK ev7)))) = .both .fail .fail)
theorem n7_KESFF : (Out.pF (Out.pF (Out.pS (Out.pE (Out.pK ev7))))) = (.call 12 [(.agg [(.int .u8 (.var 0)), (.int .u8 (.var 1)), (.int .u8 (.var 2)), (.val 3)])] [] [] [] [(true, [.int .i64, .int .i64, .sl])] 
     (Out.pK (Out.pF (Out.pF (Out.pS (Out.pE (Out.pK ev7))))))) := eta_call (by kernel_rfl : Out.hd (Out.pF (Out.pF (Out.pS (Out.pE (Out.pK ev7))))) = (.call 12 [(.agg [(.int .u8 (.var 0)), (.int .u8 (.var 1)), (.int .u8 (.var 2)), (.val 3)])] [] [] [] [(true, [.int .i64, .int .i64, .sl])] 
     .fail))
theorem n7_KESFFK : (Out.pK (Out.pF (Out.pF (Out.pS (Out.pE (Out.pK ev7)))))) = .both (Out.pF (Out.pK (Out.pF (Out.pF (Out.pS (Out.pE (Out.pK ev7))))))) (Out.pS (Out.pK (Out.pF (Out.pF (Out.pS (Out.pE (Out.pK ev7))))))) := eta_both (by kernel_rfl : Out.hd (Out.pK (Out.pF (Out.pF (Out.pS (Out.pE (Out.pK ev7)))))) = .both .fail .fail)
theorem n7_KESFFKF : (Out.pF (Out.pK (Out.pF (Out.pF (Out.pS (Out.pE (Out.pK ev7))))))) = (.call 12 [(.agg [(.int .u8 (.var 0)), (.int .u8 (.var 1)), (.int .u8 (.var 2)), (.val 3)])] [] [] [] [(true, [.int .i64, .int .i64, .sl])] 
      (Out.pK (Out.pF (Out.pK (Out.pF (Out.pF (Out.pS (Out.pE (Out.pK ev7))))))))) := eta_call (by kernel_rfl : Out.hd (Out.pF (Out.pK (Out.pF (Out.pF (Out.pS (Out.pE (Out.pK ev7))))))) = (.call 12 [(.agg [(.int .u8 (.var 0)), (.int .u8 (.var 1)), (.int .u8 (.var 2)), (.val 3)])] [] [] [] [(true, [.int .i64, .int .i64, .sl])] 
      .fail))
theorem n7_KESFFKS : (Out.pS (Out.pK (Out.pF (Out.pF (Out.pS (Out.pE (Out.pK ev7))))))) = (.call 12 [(.agg [(.int .u8 (.var 0)), (.int .u8 (.var 1)), (.int .u8 (.var 2)), (.val 3)])] [] [] [] [(true, [.int .i64, .int .i64, .sl])] 
      (Out.pK (Out.pS (Out.pK (Out.pF (Out.pF (Out.pS (Out.pE (Out.pK ev7))))))))) := eta_call (by kernel_rfl : Out.hd (Out.pS (Out.pK (Out.pF (Out.pF (Out.pS (Out.pE (Out.pK ev7))))))) = (.call 12 [(.agg [(.int .u8 (.var 0)), (.int .u8 (.var 1)), (.int .u8 (.var 2)), (.val 3)])] [] [] [] [(true, [.int .i64, .int .i64, .sl])] 
      .fail))
theorem n7_KESFS : (Out.pS (Out.pF (Out.pS (Out.pE (Out.pK ev7))))) = (.call 12 [(.agg [(.int .u8 (.var 0)), (.int .u8 (.var 1)), (.int .u8 (.var 2)), (.val 3)])] [] [] [] [(true, [.int .i64, .int .i64, .sl])] 
     (Out.pK (Out.pS (Out.pF (Out.pS (Out.pE (Out.pK ev7))))))) := eta_call (by kernel_rfl : Out.hd (Out.pS (Out.pF (Out.pS (Out.pE (Out.pK ev7))))) = (.call 12 [(.agg [(.int .u8 (.var 0)), (.int .u8 (.var 1)), (.int .u8 (.var 2)), (.val 3)])] [] [] [] [(true, [.int .i64, .int .i64, .sl])] 
     .fail))
theorem n7_KESFSK : (Out.pK (Out.pS (Out.pF (Out.pS (Out.pE (Out.pK ev7)))))) = (.call 12 [(.agg [(.int .u8 (.var 0)), (.int .u8 (.var 1)), (.int .u8 (.var 2)), (.val 3)])] [] [] [] [(true, [.int .i64, .int .i64, .sl])] 
     (Out.pK (Out.pK (Out.pS (Out.pF (Out.pS (Out.pE (Out.pK ev7)))))))) := eta_call (by kernel_rfl : Out.hd (Out.pK (Out.pS (Out.pF (Out.pS (Out.pE (Out.pK ev7)))))) = (.call 12 [(.agg [(.int .u8 (.var 0)), (.int .u8 (.var 1)), (.int .u8 (.var 2)), (.val 3)])] [] [] [] [(true, [.int .i64, .int .i64, .sl])] 
     .fail))
theorem n7_KESS : (Out.pS (Out.pS (Out.pE (Out.pK ev7)))) = .both (Out.pF (Out.pS (Out.pS (Out.pE (Out.pK ev7))))) (Out.pS (Out.pS (Out.pS (Out.pE (Out.pK ev7))))) := eta_both (by kernel_rfl : Out.hd (Out.pS (Out.pS (Out.pE (Out.pK ev7)))) = .both .fail .fail)
theorem n7_KESSF : (Out.pF (Out.pS (Out.pS (Out.pE (Out.pK ev7))))) = (.call 12 [(.agg [(.int .u8 (.var 0)), (.int .u8 (.var 1)), (.int .u8 (.var 2)), (.val 3)])] [] [] [] [(true, [.int .i64, .int .i64, .sl])] 
     (Out.pK (Out.pF (Out.pS (Out.pS (Out.pE (Out.pK ev7))))))) := eta_call (by kernel_rfl : Out.hd (Out.pF (Out.pS (Out.pS (Out.pE (Out.pK ev7))))) = (.call 12 [(.agg [(.int .u8 (.var 0)), (.int .u8 (.var 1)), (.int .u8 (.var 2)), (.val 3)])] [] [] [] [(true, [.int .i64, .int .i64, .sl])] 
     .fail))
theorem n7_KESSFK : (Out.pK (Out.pF (Out.pS (Out.pS (Out.pE (Out.pK ev7)))))) = .both (Out.pF (Out.pK (Out.pF (Out.pS (Out.pS (Out.pE (Out.pK ev7))))))) (Out.pS (Out.pK (Out.pF (Out.pS (Out.pS (Out.pE (Out.pK ev7))))))) := eta_both (by kernel_rfl : Out.hd (Out.pK (Out.pF (Out.pS (Out.pS (Out.pE (Out.pK ev7)))))) = .both .fail .fail)
theorem n7_KESSFKF : (Out.pF (Out.pK (Out.pF (Out.pS (Out.pS (Out.pE (Out.pK ev7))))))) = (.call 12 [(.agg [(.int .u8 (.var 0)), (.int .u8 (.var 1)), (.int .u8 (.var 2)), (.val 3)])] [] [] [] [(true, [.int .i64, .int .i64, .sl])] 
      (Out.pK (Out.pF (Out.pK (Out.pF (Out.pS (Out.pS (Out.pE (Out.pK ev7))))))))) := eta_call (by kernel_rfl : Out.hd (Out.pF (Out.pK (Out.pF (Out.pS (Out.pS (Out.pE (Out.pK ev7))))))) = (.call 12 [(.agg [(.int .u8 (.var 0)), (.int .u8 (.var 1)), (.int .u8 (.var 2)), (.val 3)])] [] [] [] [(true, [.int .i64, .int .i64, .sl])] 
      .fail))
theorem n7_KESSFKS : (Out.pS (Out.pK (Out.pF (Out.pS (Out.pS (Out.pE (Out.pK ev7))))))) = (.call 12 [(.agg [(.int .u8 (.var 0)), (.int .u8 (.var 1)), (.int .u8 (.var 2)), (.val 3)])] [] [] [] [(true, [.int .i64, .int .i64, .sl])] 
      (Out.pK (Out.pS (Out.pK (Out.pF (Out.pS (Out.pS (Out.pE (Out.pK ev7))))))))) := eta_call (by kernel_rfl : Out.hd (Out.pS (Out.pK (Out.pF (Out.pS (Out.pS (Out.pE (Out.pK ev7))))))) = (.call 12 [(.agg [(.int .u8 (.var 0)), (.int .u8 (.var 1)), (.int .u8 (.var 2)), (.val 3)])] [] [] [] [(true, [.int .i64, .int .i64, .sl])] 
      .fail))
theorem n7_KESSS : (Out.pS (Out.pS (Out.pS (Out.pE (Out.pK ev7))))) = (.call 12 [(.agg [(.int .u8 (.var 0)), (.int .u8 (.var 1)), (.int .u8 (.var 2)), (.val 3)])] [] [] [] [(true, [.int .i64, .int .i64, .sl])] 
     (Out.pK (Out.pS (Out.pS (Out.pS (Out.pE (Out.pK ev7))))))) := eta_call (by kernel_rfl : Out.hd (Out.pS (Out.pS (Out.pS (Out.pE (Out.pK ev7))))) = (.call 12 [(.agg [(.int .u8 (.var 0)), (.int .u8 (.var 1)), (.int .u8 (.var 2)), (.val 3)])] [] [] [] [(true, [.int .i64, .int .i64, .sl])] 
     .fail))
theorem n7_KESSSK : (Out.pK (Out.pS (Out.pS (Out.pS (Out.pE (Out.pK ev7)))))) = (.call 12 [(.agg [(.int .u8 (.var 0)), (.int .u8 (.var 1)), (.int .u8 (.var 2)), (.val 3)])] [] [] [] [(true, [.int .i64, .int .i64, .sl])] 
     (Out.pK (Out.pK (Out.pS (Out.pS (Out.pS (Out.pE (Out.pK ev7)))))))) := eta_call (by kernel_rfl : Out.hd (Out.pK (Out.pS (Out.pS (Out.pS (Out.pE (Out.pK ev7)))))) = (.call 12 [(.agg [(.int .u8 (.var 0)), (.int .u8 (.var 1)), (.int .u8 (.var 2)), (.val 3)])] [] [] [] [(true, [.int .i64, .int .i64, .sl])] 
     .fail))
theorem e7 : ev Tryd.prog ⟨allF, [49, 1000003], l7⟩ (bodyOf Tryd.f7) 0 (initSt [(.agg [(.int .u8 (.var 0)), (.int .u8 (.var 1)), (.int .u8 (.var 2)), (.val 3)]), (.int .u8 (.var 4)), (.int .u8 (.var 5)), (.int .u8 (.var 6))] [] Tryd.f7.ntmps [.int .u8, .int .u8, .int .u8, .sl, .int .u8, .int .u8, .int .u8]) (finK Tryd.prog Tryd.f7.results []) = t7 := by
  show ev7 = t7
  unfold t7
  rw [n7_, n7_K, m7_K, n7_KE, n7_KEF, n7_KEFK, n7_KEFKF, n7_KEFKFK, n7_KEFKS, n7_KEFKSF, n7_KEFKSFF, n7_KEFKSFS, n7_KEFKSS, n7_KEFKSSF, n7_KEFKSSS, n7_KES, n7_KESF, n7_KESFF, n7_KESFFK, n7_KESFFKF, n7_KESFFKS, n7_KESFS, n7_KESFSK, n7_KESS, n7_KESSF, n7_KESSFK, n7_KESSFKF, n7_KESSFKS, n7_KESSS, n7_KESSSK, p7_1, p7_2, p7_3, p7_4, p7_5, p7_6, p7_7, p7_8, p7_9, p7_10, p7_11, p7_12]
theorem c7 {G : List Value} {h : H} {R : Value → List (List Value) → H → Prop} (hG : FitsL [.int .u8, .int .u8, .int .u8, .sl, .int .u8, .int .u8, .int .u8] G) (H : holds Tryd.prog R t7 G [] h) : CallsA Tryd.prog 7 (fun e => SV.denL G (fun k => e (k - 1000000)) [(.agg [(.int .u8 (.var 0)), (.int .u8 (.var 1)), (.int .u8 (.var 2)), (.val 3)]), (.int .u8 (.var 4)), (.int .u8 (.var 5)), (.int .u8 (.var 6))]) ([].map (SV.denL G dE)) h R :=
  CallsA.of_ev (cf := ⟨allF, [49, 1000003], l7⟩) (fn := Tryd.f7) (c := bodyOf Tryd.f7) (pcs := []) Tryd.func7 (by rfl) callOK (by rfl) hG (by rfl) (by rw [show ([] : List (List SV)).map List.length = [] from rfl, e7]; exact H)
end Go.Proofs.YtbbicdfipheaeaaDoor
