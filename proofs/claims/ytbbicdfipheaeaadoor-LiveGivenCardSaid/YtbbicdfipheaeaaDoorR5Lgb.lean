/-
  What the evaluator leaves of the functions of this seat (trees, printed by a program of ours), and their contracts from it. Conditions: none.
-/
import Derived.Test.YtbbicdfipheaeaaDoorR5Lg
set_option linter.unusedVariables false
set_option linter.unusedSimpArgs false
namespace Go.Proofs.YtbbicdfipheaeaaDoor
open Go

/-- What is left of it. -/
def t10 : Out :=
 (.call 29 [] [] [] [] [(false, [.bool])] 
 (.ite (.not (.var 12))
  (.done (.bool (.tt false)) [])
  (.both (.call 12 [(.agg [(.int .u8 (.var 0)), (.int .u8 (.var 1)), (.int .u8 (.var 2)), (.val 3)])] [] [] [] [(true, [.int .i64, .int .i64, .sl])] 
   (.both (.call 12 [(.agg [(.int .u8 (.var 0)), (.int .u8 (.var 1)), (.int .u8 (.var 2)), (.val 3)])] [] [] [] [(true, [.int .i64, .int .i64, .sl])] 
    (.both pick10 pick10)) (.both (.both (.call 12 [(.agg [(.int .u8 (.var 0)), (.int .u8 (.var 1)), (.int .u8 (.var 2)), (.val 3)])] [] [] [] [(true, [.int .i64, .int .i64, .sl])] 
      pick10) (.call 12 [(.agg [(.int .u8 (.var 0)), (.int .u8 (.var 1)), (.int .u8 (.var 2)), (.val 3)])] [] [] [] [(true, [.int .i64, .int .i64, .sl])] 
      pick10)) (.both (.call 12 [(.agg [(.int .u8 (.var 0)), (.int .u8 (.var 1)), (.int .u8 (.var 2)), (.val 3)])] [] [] [] [(true, [.int .i64, .int .i64, .sl])] 
      pick10) (.call 12 [(.agg [(.int .u8 (.var 0)), (.int .u8 (.var 1)), (.int .u8 (.var 2)), (.val 3)])] [] [] [] [(true, [.int .i64, .int .i64, .sl])] 
      pick10))))) (.both (.both (.call 12 [(.agg [(.int .u8 (.var 0)), (.int .u8 (.var 1)), (.int .u8 (.var 2)), (.val 3)])] [] [] [] [(true, [.int .i64, .int .i64, .sl])] 
     (.both (.call 12 [(.agg [(.int .u8 (.var 0)), (.int .u8 (.var 1)), (.int .u8 (.var 2)), (.val 3)])] [] [] [] [(true, [.int .i64, .int .i64, .sl])] 
      pick10) (.call 12 [(.agg [(.int .u8 (.var 0)), (.int .u8 (.var 1)), (.int .u8 (.var 2)), (.val 3)])] [] [] [] [(true, [.int .i64, .int .i64, .sl])] 
      pick10))) (.call 12 [(.agg [(.int .u8 (.var 0)), (.int .u8 (.var 1)), (.int .u8 (.var 2)), (.val 3)])] [] [] [] [(true, [.int .i64, .int .i64, .sl])] 
     (.call 12 [(.agg [(.int .u8 (.var 0)), (.int .u8 (.var 1)), (.int .u8 (.var 2)), (.val 3)])] [] [] [] [(true, [.int .i64, .int .i64, .sl])] 
     pick10))) (.both (.call 12 [(.agg [(.int .u8 (.var 0)), (.int .u8 (.var 1)), (.int .u8 (.var 2)), (.val 3)])] [] [] [] [(true, [.int .i64, .int .i64, .sl])] 
     (.both (.call 12 [(.agg [(.int .u8 (.var 0)), (.int .u8 (.var 1)), (.int .u8 (.var 2)), (.val 3)])] [] [] [] [(true, [.int .i64, .int .i64, .sl])] 
      pick10) (.call 12 [(.agg [(.int .u8 (.var 0)), (.int .u8 (.var 1)), (.int .u8 (.var 2)), (.val 3)])] [] [] [] [(true, [.int .i64, .int .i64, .sl])] 
      pick10))) (.call 12 [(.agg [(.int .u8 (.var 0)), (.int .u8 (.var 1)), (.int .u8 (.var 2)), (.val 3)])] [] [] [] [(true, [.int .i64, .int .i64, .sl])] 
     (.call 12 [(.agg [(.int .u8 (.var 0)), (.int .u8 (.var 1)), (.int .u8 (.var 2)), (.val 3)])] [] [] [] [(true, [.int .i64, .int .i64, .sl])] 
     pick10)))))))
theorem n10_ : ev10 = (.call 29 [] [] [] [] [(false, [.bool])] 
 (Out.pK ev10)) := eta_call (by kernel_rfl : Out.hd ev10 = (.call 29 [] [] [] [] [(false, [.bool])] 
 .fail))
theorem n10_K : (Out.pK ev10) = (.ite (.not (.var 12))
  (Out.pT (Out.pK ev10)) (Out.pE (Out.pK ev10))) := eta_ite (by kernel_rfl : Out.hd (Out.pK ev10) = (.ite (.not (.var 12))
  .fail .fail))
theorem m10_K : Out.pT (Out.pK ev10) = (.done (.bool (.tt false)) []) := by kernel_rfl
theorem n10_KE : (Out.pE (Out.pK ev10)) = .both (Out.pF (Out.pE (Out.pK ev10))) (Out.pS (Out.pE (Out.pK ev10))) := eta_both (by kernel_rfl : Out.hd (Out.pE (Out.pK ev10)) = .both .fail .fail)
theorem n10_KEF : (Out.pF (Out.pE (Out.pK ev10))) = (.call 12 [(.agg [(.int .u8 (.var 0)), (.int .u8 (.var 1)), (.int .u8 (.var 2)), (.val 3)])] [] [] [] [(true, [.int .i64, .int .i64, .sl])] 
   (Out.pK (Out.pF (Out.pE (Out.pK ev10))))) := eta_call (by kernel_rfl : Out.hd (Out.pF (Out.pE (Out.pK ev10))) = (.call 12 [(.agg [(.int .u8 (.var 0)), (.int .u8 (.var 1)), (.int .u8 (.var 2)), (.val 3)])] [] [] [] [(true, [.int .i64, .int .i64, .sl])] 
   .fail))
theorem n10_KEFK : (Out.pK (Out.pF (Out.pE (Out.pK ev10)))) = .both (Out.pF (Out.pK (Out.pF (Out.pE (Out.pK ev10))))) (Out.pS (Out.pK (Out.pF (Out.pE (Out.pK ev10))))) := eta_both (by kernel_rfl : Out.hd (Out.pK (Out.pF (Out.pE (Out.pK ev10)))) = .both .fail .fail)
theorem n10_KEFKF : (Out.pF (Out.pK (Out.pF (Out.pE (Out.pK ev10))))) = (.call 12 [(.agg [(.int .u8 (.var 0)), (.int .u8 (.var 1)), (.int .u8 (.var 2)), (.val 3)])] [] [] [] [(true, [.int .i64, .int .i64, .sl])] 
    (Out.pK (Out.pF (Out.pK (Out.pF (Out.pE (Out.pK ev10))))))) := eta_call (by kernel_rfl : Out.hd (Out.pF (Out.pK (Out.pF (Out.pE (Out.pK ev10))))) = (.call 12 [(.agg [(.int .u8 (.var 0)), (.int .u8 (.var 1)), (.int .u8 (.var 2)), (.val 3)])] [] [] [] [(true, [.int .i64, .int .i64, .sl])] 
    .fail))
theorem n10_KEFKFK : (Out.pK (Out.pF (Out.pK (Out.pF (Out.pE (Out.pK ev10)))))) = .both (Out.pF (Out.pK (Out.pF (Out.pK (Out.pF (Out.pE (Out.pK ev10))))))) (Out.pS (Out.pK (Out.pF (Out.pK (Out.pF (Out.pE (Out.pK ev10))))))) := eta_both (by kernel_rfl : Out.hd (Out.pK (Out.pF (Out.pK (Out.pF (Out.pE (Out.pK ev10)))))) = .both .fail .fail)
theorem n10_KEFKS : (Out.pS (Out.pK (Out.pF (Out.pE (Out.pK ev10))))) = .both (Out.pF (Out.pS (Out.pK (Out.pF (Out.pE (Out.pK ev10)))))) (Out.pS (Out.pS (Out.pK (Out.pF (Out.pE (Out.pK ev10)))))) := eta_both (by kernel_rfl : Out.hd (Out.pS (Out.pK (Out.pF (Out.pE (Out.pK ev10))))) = .both .fail .fail)
theorem n10_KEFKSF : (Out.pF (Out.pS (Out.pK (Out.pF (Out.pE (Out.pK ev10)))))) = .both (Out.pF (Out.pF (Out.pS (Out.pK (Out.pF (Out.pE (Out.pK ev10))))))) (Out.pS (Out.pF (Out.pS (Out.pK (Out.pF (Out.pE (Out.pK ev10))))))) := eta_both (by kernel_rfl : Out.hd (Out.pF (Out.pS (Out.pK (Out.pF (Out.pE (Out.pK ev10)))))) = .both .fail .fail)
theorem n10_KEFKSFF : (Out.pF (Out.pF (Out.pS (Out.pK (Out.pF (Out.pE (Out.pK ev10))))))) = (.call 12 [(.agg [(.int .u8 (.var 0)), (.int .u8 (.var 1)), (.int .u8 (.var 2)), (.val 3)])] [] [] [] [(true, [.int .i64, .int .i64, .sl])] 
      (Out.pK (Out.pF (Out.pF (Out.pS (Out.pK (Out.pF (Out.pE (Out.pK ev10))))))))) := eta_call (by kernel_rfl : Out.hd (Out.pF (Out.pF (Out.pS (Out.pK (Out.pF (Out.pE (Out.pK ev10))))))) = (.call 12 [(.agg [(.int .u8 (.var 0)), (.int .u8 (.var 1)), (.int .u8 (.var 2)), (.val 3)])] [] [] [] [(true, [.int .i64, .int .i64, .sl])] 
      .fail))
theorem n10_KEFKSFS : (Out.pS (Out.pF (Out.pS (Out.pK (Out.pF (Out.pE (Out.pK ev10))))))) = (.call 12 [(.agg [(.int .u8 (.var 0)), (.int .u8 (.var 1)), (.int .u8 (.var 2)), (.val 3)])] [] [] [] [(true, [.int .i64, .int .i64, .sl])] 
      (Out.pK (Out.pS (Out.pF (Out.pS (Out.pK (Out.pF (Out.pE (Out.pK ev10))))))))) := eta_call (by kernel_rfl : Out.hd (Out.pS (Out.pF (Out.pS (Out.pK (Out.pF (Out.pE (Out.pK ev10))))))) = (.call 12 [(.agg [(.int .u8 (.var 0)), (.int .u8 (.var 1)), (.int .u8 (.var 2)), (.val 3)])] [] [] [] [(true, [.int .i64, .int .i64, .sl])] 
      .fail))
theorem n10_KEFKSS : (Out.pS (Out.pS (Out.pK (Out.pF (Out.pE (Out.pK ev10)))))) = .both (Out.pF (Out.pS (Out.pS (Out.pK (Out.pF (Out.pE (Out.pK ev10))))))) (Out.pS (Out.pS (Out.pS (Out.pK (Out.pF (Out.pE (Out.pK ev10))))))) := eta_both (by kernel_rfl : Out.hd (Out.pS (Out.pS (Out.pK (Out.pF (Out.pE (Out.pK ev10)))))) = .both .fail .fail)
theorem n10_KEFKSSF : (Out.pF (Out.pS (Out.pS (Out.pK (Out.pF (Out.pE (Out.pK ev10))))))) = (.call 12 [(.agg [(.int .u8 (.var 0)), (.int .u8 (.var 1)), (.int .u8 (.var 2)), (.val 3)])] [] [] [] [(true, [.int .i64, .int .i64, .sl])] 
      (Out.pK (Out.pF (Out.pS (Out.pS (Out.pK (Out.pF (Out.pE (Out.pK ev10))))))))) := eta_call (by kernel_rfl : Out.hd (Out.pF (Out.pS (Out.pS (Out.pK (Out.pF (Out.pE (Out.pK ev10))))))) = (.call 12 [(.agg [(.int .u8 (.var 0)), (.int .u8 (.var 1)), (.int .u8 (.var 2)), (.val 3)])] [] [] [] [(true, [.int .i64, .int .i64, .sl])] 
      .fail))
theorem n10_KEFKSSS : (Out.pS (Out.pS (Out.pS (Out.pK (Out.pF (Out.pE (Out.pK ev10))))))) = (.call 12 [(.agg [(.int .u8 (.var 0)), (.int .u8 (.var 1)), (.int .u8 (.var 2)), (.val 3)])] [] [] [] [(true, [.int .i64, .int .i64, .sl])] 
      (Out.pK (Out.pS (Out.pS (Out.pS (Out.pK (Out.pF (Out.pE (Out.pK ev10))))))))) := eta_call (by kernel_rfl : Out.hd (Out.pS (Out.pS (Out.pS (Out.pK (Out.pF (Out.pE (Out.pK ev10))))))) = (.call 12 [(.agg [(.int .u8 (.var 0)), (.int .u8 (.var 1)), (.int .u8 (.var 2)), (.val 3)])] [] [] [] [(true, [.int .i64, .int .i64, .sl])] 
      .fail))
theorem n10_KES : (Out.pS (Out.pE (Out.pK ev10))) = .both (Out.pF (Out.pS (Out.pE (Out.pK ev10)))) (Out.pS (Out.pS (Out.pE (Out.pK ev10)))) := eta_both (by kernel_rfl : Out.hd (Out.pS (Out.pE (Out.pK ev10))) = .both .fail .fail)
theorem n10_KESF : (Out.pF (Out.pS (Out.pE (Out.pK ev10)))) = .both (Out.pF (Out.pF (Out.pS (Out.pE (Out.pK ev10))))) (Out.pS (Out.pF (Out.pS (Out.pE (Out.pK ev10))))) := eta_both (by kernel_rfl : Out.hd (Out.pF (Out.pS (Out.pE (Out.pK ev10)))) = .both .fail .fail)
theorem n10_KESFF : (Out.pF (Out.pF (Out.pS (Out.pE (Out.pK ev10))))) = (.call 12 [(.agg [(.int .u8 (.var 0)), (.int .u8 (.var 1)), (.int .u8 (.var 2)), (.val 3)])] [] [] [] [(true, [.int .i64, .int .i64, .sl])] 
     (Out.pK (Out.pF (Out.pF (Out.pS (Out.pE (Out.pK ev10))))))) := eta_call (by kernel_rfl : Out.hd (Out.pF (Out.pF (Out.pS (Out.pE (Out.pK ev10))))) = (.call 12 [(.agg [(.int .u8 (.var 0)), (.int .u8 (.var 1)), (.int .u8 (.var 2)), (.val 3)])] [] [] [] [(true, [.int .i64, .int .i64, .sl])] 
     .fail))
theorem n10_KESFFK : (Out.pK (Out.pF (Out.pF (Out.pS (Out.pE (Out.pK ev10)))))) = .both (Out.pF (Out.pK (Out.pF (Out.pF (Out.pS (Out.pE (Out.pK ev10))))))) (Out.pS (Out.pK (Out.pF (Out.pF (Out.pS (Out.pE (Out.pK ev10))))))) := eta_both (by kernel_rfl : Out.hd (Out.pK (Out.pF (Out.pF (Out.pS (Out.pE (Out.pK ev10)))))) = .both .fail .fail)
theorem n10_KESFFKF : (Out.pF (Out.pK (Out.pF (Out.pF (Out.pS (Out.pE (Out.pK ev10))))))) = (.call 12 [(.agg [(.int .u8 (.var 0)), (.int .u8 (.var 1)), (.int .u8 (.var 2)), (.val 3)])] [] [] [] [(true, [.int .i64, .int .i64, .sl])] 
      (Out.pK (Out.pF (Out.pK (Out.pF (Out.pF (Out.pS (Out.pE (Out.pK ev10))))))))) := eta_call (by kernel_rfl : Out.hd (Out.pF (Out.pK (Out.pF (Out.pF (Out.pS (Out.pE (Out.pK ev10))))))) = (.call 12 [(.agg [(.int .u8 (.var 0)), (.int .u8 (.var 1)), (.int .u8 (.var 2)), (.val 3)])] [] [] [] [(true, [.int .i64, .int .i64, .sl])] 
      .fail))
theorem n10_KESFFKS : (Out.pS (Out.pK (Out.pF (Out.pF (Out.pS (Out.pE (Out.pK ev10))))))) = (.call 12 [(.agg [(.int .u8 (.var 0)), (.int .u8 (.var 1)), (.int .u8 (.var 2)), (.val 3)])] [] [] [] [(true, [.int .i64, .int .i64, .sl])] 
      (Out.pK (Out.pS (Out.pK (Out.pF (Out.pF (Out.pS (Out.pE (Out.pK ev10))))))))) := eta_call (by kernel_rfl : Out.hd (Out.pS (Out.pK (Out.pF (Out.pF (Out.pS (Out.pE (Out.pK ev10))))))) = (.call 12 [(.agg [(.int .u8 (.var 0)), (.int .u8 (.var 1)), (.int .u8 (.var 2)), (.val 3)])] [] [] [] [(true, [.int .i64, .int .i64, .sl])] 
      .fail))
theorem n10_KESFS : (Out.pS (Out.pF (Out.pS (Out.pE (Out.pK ev10))))) = (.call 12 [(.agg [(.int .u8 (.var 0)), (.int .u8 (.var 1)), (.int .u8 (.var 2)), (.val 3)])] [] [] [] [(true, [.int .i64, .int .i64, .sl])] 
     (Out.pK (Out.pS (Out.pF (Out.pS (Out.pE (Out.pK ev10))))))) := eta_call (by kernel_rfl : Out.hd (Out.pS (Out.pF (Out.pS (Out.pE (Out.pK ev10))))) = (.call 12 [(.agg [(.int .u8 (.var 0)), (.int .u8 (.var 1)), (.int .u8 (.var 2)), (.val 3)])] [] [] [] [(true, [.int .i64, .int .i64, .sl])] 
     .fail))
theorem n10_KESFSK : (Out.pK (Out.pS (Out.pF (Out.pS (Out.pE (Out.pK ev10)))))) = (.call 12 [(.agg [(.int .u8 (.var 0)), (.int .u8 (.var 1)), (.int .u8 (.var 2)), (.val 3)])] [] [] [] [(true, [.int .i64, .int .i64, .sl])] 
     (Out.pK (Out.pK (Out.pS (Out.pF (Out.pS (Out.pE (Out.pK ev10)))))))) := eta_call (by kernel_rfl : Out.hd (Out.pK (Out.pS (Out.pF (Out.pS (Out.pE (Out.pK ev10)))))) = (.call 12 [(.agg [(.int .u8 (.var 0)), (.int .u8 (.var 1)), (.int .u8 (.var 2)), (.val 3)])] [] [] [] [(true, [.int .i64, .int .i64, .sl])] 
     .fail))
theorem n10_KESS : (Out.pS (Out.pS (Out.pE (Out.pK ev10)))) = .both (Out.pF (Out.pS (Out.pS (Out.pE (Out.pK ev10))))) (Out.pS (Out.pS (Out.pS (Out.pE (Out.pK ev10))))) := eta_both (by kernel_rfl : Out.hd (Out.pS (Out.pS (Out.pE (Out.pK ev10)))) = .both .fail .fail)
theorem n10_KESSF : (Out.pF (Out.pS (Out.pS (Out.pE (Out.pK ev10))))) = (.call 12 [(.agg [(.int .u8 (.var 0)), (.int .u8 (.var 1)), (.int .u8 (.var 2)), (.val 3)])] [] [] [] [(true, [.int .i64, .int .i64, .sl])] 
     (Out.pK (Out.pF (Out.pS (Out.pS (Out.pE (Out.pK ev10))))))) := eta_call (by kernel_rfl : Out.hd (Out.pF (Out.pS (Out.pS (Out.pE (Out.pK ev10))))) = (.call 12 [(.agg [(.int .u8 (.var 0)), (.int .u8 (.var 1)), (.int .u8 (.var 2)), (.val 3)])] [] [] [] [(true, [.int .i64, .int .i64, .sl])] 
     .fail))
theorem n10_KESSFK : (Out.pK (Out.pF (Out.pS (Out.pS (Out.pE (Out.pK ev10)))))) = .both (Out.pF (Out.pK (Out.pF (Out.pS (Out.pS (Out.pE (Out.pK ev10))))))) (Out.pS (Out.pK (Out.pF (Out.pS (Out.pS (Out.pE (Out.pK ev10))))))) := eta_both (by kernel_rfl : Out.hd (Out.pK (Out.pF (Out.pS (Out.pS (Out.pE (Out.pK ev10)))))) = .both .fail .fail)
theorem n10_KESSFKF : (Out.pF (Out.pK (Out.pF (Out.pS (Out.pS (Out.pE (Out.pK ev10))))))) = (.call 12 [(.agg [(.int .u8 (.var 0)), (.int .u8 (.var 1)), (.int .u8 (.var 2)), (.val 3)])] [] [] [] [(true, [.int .i64, .int .i64, .sl])] 
      (Out.pK (Out.pF (Out.pK (Out.pF (Out.pS (Out.pS (Out.pE (Out.pK ev10))))))))) := eta_call (by kernel_rfl : Out.hd (Out.pF (Out.pK (Out.pF (Out.pS (Out.pS (Out.pE (Out.pK ev10))))))) = (.call 12 [(.agg [(.int .u8 (.var 0)), (.int .u8 (.var 1)), (.int .u8 (.var 2)), (.val 3)])] [] [] [] [(true, [.int .i64, .int .i64, .sl])] 
      .fail))
theorem n10_KESSFKS : (Out.pS (Out.pK (Out.pF (Out.pS (Out.pS (Out.pE (Out.pK ev10))))))) = (.call 12 [(.agg [(.int .u8 (.var 0)), (.int .u8 (.var 1)), (.int .u8 (.var 2)), (.val 3)])] [] [] [] [(true, [.int .i64, .int .i64, .sl])] 
      (Out.pK (Out.pS (Out.pK (Out.pF (Out.pS (Out.pS (Out.pE (Out.pK ev10))))))))) := eta_call (by kernel_rfl : Out.hd (Out.pS (Out.pK (Out.pF (Out.pS (Out.pS (Out.pE (Out.pK ev10))))))) = (.call 12 [(.agg [(.int .u8 (.var 0)), (.int .u8 (.var 1)), (.int .u8 (.var 2)), (.val 3)])] [] [] [] [(true, [.int .i64, .int .i64, .sl])] 
      .fail))
theorem n10_KESSS : (Out.pS (Out.pS (Out.pS (Out.pE (Out.pK ev10))))) = (.call 12 [(.agg [(.int .u8 (.var 0)), (.int .u8 (.var 1)), (.int .u8 (.var 2)), (.val 3)])] [] [] [] [(true, [.int .i64, .int .i64, .sl])] 
     (Out.pK (Out.pS (Out.pS (Out.pS (Out.pE (Out.pK ev10))))))) := eta_call (by kernel_rfl : Out.hd (Out.pS (Out.pS (Out.pS (Out.pE (Out.pK ev10))))) = (.call 12 [(.agg [(.int .u8 (.var 0)), (.int .u8 (.var 1)), (.int .u8 (.var 2)), (.val 3)])] [] [] [] [(true, [.int .i64, .int .i64, .sl])] 
     .fail))
theorem n10_KESSSK : (Out.pK (Out.pS (Out.pS (Out.pS (Out.pE (Out.pK ev10)))))) = (.call 12 [(.agg [(.int .u8 (.var 0)), (.int .u8 (.var 1)), (.int .u8 (.var 2)), (.val 3)])] [] [] [] [(true, [.int .i64, .int .i64, .sl])] 
     (Out.pK (Out.pK (Out.pS (Out.pS (Out.pS (Out.pE (Out.pK ev10)))))))) := eta_call (by kernel_rfl : Out.hd (Out.pK (Out.pS (Out.pS (Out.pS (Out.pE (Out.pK ev10)))))) = (.call 12 [(.agg [(.int .u8 (.var 0)), (.int .u8 (.var 1)), (.int .u8 (.var 2)), (.val 3)])] [] [] [] [(true, [.int .i64, .int .i64, .sl])] 
     .fail))
theorem e10 : ev Tryd.prog ⟨allF, [96, 1000003], l10⟩ (bodyOf Tryd.f10) 0 (initSt [(.agg [(.int .u8 (.var 0)), (.int .u8 (.var 1)), (.int .u8 (.var 2)), (.val 3)]), (.agg [(.val 4), (.val 5), (.val 6), (.int .i64 (.var 7))]), (.int .u8 (.var 8)), (.int .u8 (.var 9)), (.int .u8 (.var 10)), (.int .i64 (.var 11))] [] Tryd.f10.ntmps [.int .u8, .int .u8, .int .u8, .sl, .sl, .sl, .sl, .int .i64, .int .u8, .int .u8, .int .u8, .int .i64]) (finK Tryd.prog Tryd.f10.results []) = t10 := by
  show ev10 = t10
  unfold t10
  rw [n10_, n10_K, m10_K, n10_KE, n10_KEF, n10_KEFK, n10_KEFKF, n10_KEFKFK, n10_KEFKS, n10_KEFKSF, n10_KEFKSFF, n10_KEFKSFS, n10_KEFKSS, n10_KEFKSSF, n10_KEFKSSS, n10_KES, n10_KESF, n10_KESFF, n10_KESFFK, n10_KESFFKF, n10_KESFFKS, n10_KESFS, n10_KESFSK, n10_KESS, n10_KESSF, n10_KESSFK, n10_KESSFKF, n10_KESSFKS, n10_KESSS, n10_KESSSK, p10_1, p10_2, p10_3, p10_4, p10_5, p10_6, p10_7, p10_8, p10_9, p10_10, p10_11, p10_12]
theorem c10 {G : List Value} {h : H} {R : Value → List (List Value) → H → Prop} (hG : FitsL [.int .u8, .int .u8, .int .u8, .sl, .sl, .sl, .sl, .int .i64, .int .u8, .int .u8, .int .u8, .int .i64] G) (H : holds Tryd.prog R t10 G [] h) : CallsA Tryd.prog 10 (fun e => SV.denL G (fun k => e (k - 1000000)) [(.agg [(.int .u8 (.var 0)), (.int .u8 (.var 1)), (.int .u8 (.var 2)), (.val 3)]), (.agg [(.val 4), (.val 5), (.val 6), (.int .i64 (.var 7))]), (.int .u8 (.var 8)), (.int .u8 (.var 9)), (.int .u8 (.var 10)), (.int .i64 (.var 11))]) ([].map (SV.denL G dE)) h R :=
  CallsA.of_ev (cf := ⟨allF, [96, 1000003], l10⟩) (fn := Tryd.f10) (c := bodyOf Tryd.f10) (pcs := []) Tryd.func10 (by rfl) callOK (by rfl) hG (by rfl) (by rw [show ([] : List (List SV)).map List.length = [] from rfl, e10]; exact H)
end Go.Proofs.YtbbicdfipheaeaaDoor
