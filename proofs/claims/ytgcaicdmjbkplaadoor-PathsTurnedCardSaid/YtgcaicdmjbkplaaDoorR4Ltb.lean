/-
  What the evaluator leaves of the functions of this seat (trees, printed by a program of ours), and their contracts from it. Conditions: none.
-/
import Derived.Test.YtgcaicdmjbkplaaDoorR4Lt
set_option linter.unusedVariables false
set_option linter.unusedSimpArgs false
namespace Go.Proofs.YtgcaicdmjbkplaaDoor
open Go

/-- What is left of it. -/
def t3 : Out :=
 (.call 10 [] [] [] [] [(false, [.bool])] 
 (.ite (.not (.var 6))
  (.done (.bool (.tt false)) [])
  (.both (.call 11 [(.agg [(.int .u8 (.var 0)), (.int .u8 (.var 1)), (.int .u8 (.var 2)), (.val 3)])] [] [] [] [(true, [.int .i64, .int .i64, .sl])] 
   (.both (.call 11 [(.agg [(.int .u8 (.var 0)), (.int .u8 (.var 1)), (.int .u8 (.var 2)), (.val 3)])] [] [] [] [(true, [.int .i64, .int .i64, .sl])] 
    (.both pick3 pick3)) (.both (.both (.call 11 [(.agg [(.int .u8 (.var 0)), (.int .u8 (.var 1)), (.int .u8 (.var 2)), (.val 3)])] [] [] [] [(true, [.int .i64, .int .i64, .sl])] 
      pick3) (.call 11 [(.agg [(.int .u8 (.var 0)), (.int .u8 (.var 1)), (.int .u8 (.var 2)), (.val 3)])] [] [] [] [(true, [.int .i64, .int .i64, .sl])] 
      pick3)) (.both (.call 11 [(.agg [(.int .u8 (.var 0)), (.int .u8 (.var 1)), (.int .u8 (.var 2)), (.val 3)])] [] [] [] [(true, [.int .i64, .int .i64, .sl])] 
      pick3) (.call 11 [(.agg [(.int .u8 (.var 0)), (.int .u8 (.var 1)), (.int .u8 (.var 2)), (.val 3)])] [] [] [] [(true, [.int .i64, .int .i64, .sl])] 
      pick3))))) (.both (.both (.call 11 [(.agg [(.int .u8 (.var 0)), (.int .u8 (.var 1)), (.int .u8 (.var 2)), (.val 3)])] [] [] [] [(true, [.int .i64, .int .i64, .sl])] 
     (.both (.call 11 [(.agg [(.int .u8 (.var 0)), (.int .u8 (.var 1)), (.int .u8 (.var 2)), (.val 3)])] [] [] [] [(true, [.int .i64, .int .i64, .sl])] 
      pick3) (.call 11 [(.agg [(.int .u8 (.var 0)), (.int .u8 (.var 1)), (.int .u8 (.var 2)), (.val 3)])] [] [] [] [(true, [.int .i64, .int .i64, .sl])] 
      pick3))) (.call 11 [(.agg [(.int .u8 (.var 0)), (.int .u8 (.var 1)), (.int .u8 (.var 2)), (.val 3)])] [] [] [] [(true, [.int .i64, .int .i64, .sl])] 
     (.call 11 [(.agg [(.int .u8 (.var 0)), (.int .u8 (.var 1)), (.int .u8 (.var 2)), (.val 3)])] [] [] [] [(true, [.int .i64, .int .i64, .sl])] 
     pick3))) (.both (.call 11 [(.agg [(.int .u8 (.var 0)), (.int .u8 (.var 1)), (.int .u8 (.var 2)), (.val 3)])] [] [] [] [(true, [.int .i64, .int .i64, .sl])] 
     (.both (.call 11 [(.agg [(.int .u8 (.var 0)), (.int .u8 (.var 1)), (.int .u8 (.var 2)), (.val 3)])] [] [] [] [(true, [.int .i64, .int .i64, .sl])] 
      pick3) (.call 11 [(.agg [(.int .u8 (.var 0)), (.int .u8 (.var 1)), (.int .u8 (.var 2)), (.val 3)])] [] [] [] [(true, [.int .i64, .int .i64, .sl])] 
      pick3))) (.call 11 [(.agg [(.int .u8 (.var 0)), (.int .u8 (.var 1)), (.int .u8 (.var 2)), (.val 3)])] [] [] [] [(true, [.int .i64, .int .i64, .sl])] 
     (.call 11 [(.agg [(.int .u8 (.var 0)), (.int .u8 (.var 1)), (.int .u8 (.var 2)), (.val 3)])] [] [] [] [(true, [.int .i64, .int .i64, .sl])] 
     pick3)))))))
theorem n3_ : ev3 = (.call 10 [] [] [] [] [(false, [.bool])] 
 (Out.pK ev3)) := eta_call (by kernel_rfl : Out.hd ev3 = (.call 10 [] [] [] [] [(false, [.bool])] 
 .fail))
theorem n3_K : (Out.pK ev3) = (.ite (.not (.var 6))
  (Out.pT (Out.pK ev3)) (Out.pE (Out.pK ev3))) := eta_ite (by kernel_rfl : Out.hd (Out.pK ev3) = (.ite (.not (.var 6))
  .fail .fail))
theorem m3_K : Out.pT (Out.pK ev3) = (.done (.bool (.tt false)) []) := by kernel_rfl
theorem n3_KE : (Out.pE (Out.pK ev3)) = .both (Out.pF (Out.pE (Out.pK ev3))) (Out.pS (Out.pE (Out.pK ev3))) := eta_both (by kernel_rfl : Out.hd (Out.pE (Out.pK ev3)) = .both .fail .fail)
theorem n3_KEF : (Out.pF (Out.pE (Out.pK ev3))) = (.call 11 [(.agg [(.int .u8 (.var 0)), (.int .u8 (.var 1)), (.int .u8 (.var 2)), (.val 3)])] [] [] [] [(true, [.int .i64, .int .i64, .sl])] 
   (Out.pK (Out.pF (Out.pE (Out.pK ev3))))) := eta_call (by kernel_rfl : Out.hd (Out.pF (Out.pE (Out.pK ev3))) = (.call 11 [(.agg [(.int .u8 (.var 0)), (.int .u8 (.var 1)), (.int .u8 (.var 2)), (.val 3)])] [] [] [] [(true, [.int .i64, .int .i64, .sl])] 
   .fail))
theorem n3_KEFK : (Out.pK (Out.pF (Out.pE (Out.pK ev3)))) = .both (Out.pF (Out.pK (Out.pF (Out.pE (Out.pK ev3))))) (Out.pS (Out.pK (Out.pF (Out.pE (Out.pK ev3))))) := eta_both (by kernel_rfl : Out.hd (Out.pK (Out.pF (Out.pE (Out.pK ev3)))) = .both .fail .fail)
theorem n3_KEFKF : (Out.pF (Out.pK (Out.pF (Out.pE (Out.pK ev3))))) = (.call 11 [(.agg [(.int .u8 (.var 0)), (.int .u8 (.var 1)), (.int .u8 (.var 2)), (.val 3)])] [] [] [] [(true, [.int .i64, .int .i64, .sl])] 
    (Out.pK (Out.pF (Out.pK (Out.pF (Out.pE (Out.pK ev3))))))) := eta_call (by kernel_rfl : Out.hd (Out.pF (Out.pK (Out.pF (Out.pE (Out.pK ev3))))) = (.call 11 [(.agg [(.int .u8 (.var 0)), (.int .u8 (.var 1)), (.int .u8 (.var 2)), (.val 3)])] [] [] [] [(true, [.int .i64, .int .i64, .sl])] 
    .fail))
theorem n3_KEFKFK : (Out.pK (Out.pF (Out.pK (Out.pF (Out.pE (Out.pK ev3)))))) = .both (Out.pF (Out.pK (Out.pF (Out.pK (Out.pF (Out.pE (Out.pK ev3))))))) (Out.pS (Out.pK (Out.pF (Out.pK (Out.pF (Out.pE (Out.pK ev3))))))) := eta_both (by kernel_rfl : Out.hd (Out.pK (Out.pF (Out.pK (Out.pF (Out.pE (Out.pK ev3)))))) = .both .fail .fail)
theorem n3_KEFKS : (Out.pS (Out.pK (Out.pF (Out.pE (Out.pK ev3))))) = .both (Out.pF (Out.pS (Out.pK (Out.pF (Out.pE (Out.pK ev3)))))) (Out.pS (Out.pS (Out.pK (Out.pF (Out.pE (Out.pK ev3)))))) := eta_both (by kernel_rfl : Out.hd (Out.pS (Out.pK (Out.pF (Out.pE (Out.pK ev3))))) = .both .fail .fail)
theorem n3_KEFKSF : (Out.pF (Out.pS (Out.pK (Out.pF (Out.pE (Out.pK ev3)))))) = .both (Out.pF (Out.pF (Out.pS (Out.pK (Out.pF (Out.pE (Out.pK ev3))))))) (Out.pS (Out.pF (Out.pS (Out.pK (Out.pF (Out.pE (Out.pK ev3))))))) := eta_both (by kernel_rfl : Out.hd (Out.pF (Out.pS (Out.pK (Out.pF (Out.pE (Out.pK ev3)))))) = .both .fail .fail)
theorem n3_KEFKSFF : (Out.pF (Out.pF (Out.pS (Out.pK (Out.pF (Out.pE (Out.pK ev3))))))) = (.call 11 [(.agg [(.int .u8 (.var 0)), (.int .u8 (.var 1)), (.int .u8 (.var 2)), (.val 3)])] [] [] [] [(true, [.int .i64, .int .i64, .sl])] 
      (Out.pK (Out.pF (Out.pF (Out.pS (Out.pK (Out.pF (Out.pE (Out.pK ev3))))))))) := eta_call (by kernel_rfl : Out.hd (Out.pF (Out.pF (Out.pS (Out.pK (Out.pF (Out.pE (Out.pK ev3))))))) = (.call 11 [(.agg [(.int .u8 (.var 0)), (.int .u8 (.var 1)), (.int .u8 (.var 2)), (.val 3)])] [] [] [] [(true, [.int .i64, .int .i64, .sl])] 
      .fail))
theorem n3_KEFKSFS : (Out.pS (Out.pF (Out.pS (Out.pK (Out.pF (Out.pE (Out.pK ev3))))))) = (.call 11 [(.agg [(.int .u8 (.var 0)), (.int .u8 (.var 1)), (.int .u8 (.var 2)), (.val 3)])] [] [] [] [(true, [.int .i64, .int .i64, .sl])] 
      (Out.pK (Out.pS (Out.pF (Out.pS (Out.pK (Out.pF (Out.pE (Out.pK ev3))))))))) := eta_call (by kernel_rfl : Out.hd (Out.pS (Out.pF (Out.pS (Out.pK (Out.pF (Out.pE (Out.pK ev3))))))) = (.call 11 [(.agg [(.int .u8 (.var 0)), (.int .u8 (.var 1)), (.int .u8 (.var 2)), (.val 3)])] [] [] [] [(true, [.int .i64, .int .i64, .sl])] 
      .fail))
theorem n3_KEFKSS : (Out.pS (Out.pS (Out.pK (Out.pF (Out.pE (Out.pK ev3)))))) = .both (Out.pF (Out.pS (Out.pS (Out.pK (Out.pF (Out.pE (Out.pK ev3))))))) (Out.pS (Out.pS (Out.pS (Out.pK (Out.pF (Out.pE (Out.pK ev3))))))) := eta_both (by kernel_rfl : Out.hd (Out.pS (Out.pS (Out.pK (Out.pF (Out.pE (Out.pK ev3)))))) = .both .fail .fail)
theorem n3_KEFKSSF : (Out.pF (Out.pS (Out.pS (Out.pK (Out.pF (Out.pE (Out.pK ev3))))))) = (.call 11 [(.agg [(.int .u8 (.var 0)), (.int .u8 (.var 1)), (.int .u8 (.var 2)), (.val 3)])] [] [] [] [(true, [.int .i64, .int .i64, .sl])] 
      (Out.pK (Out.pF (Out.pS (Out.pS (Out.pK (Out.pF (Out.pE (Out.pK ev3))))))))) := eta_call (by kernel_rfl : Out.hd (Out.pF (Out.pS (Out.pS (Out.pK (Out.pF (Out.pE (Out.pK ev3))))))) = (.call 11 [(.agg [(.int .u8 (.var 0)), (.int .u8 (.var 1)), (.int .u8 (.var 2)), (.val 3)])] [] [] [] [(true, [.int .i64, .int .i64, .sl])] 
      .fail))
theorem n3_KEFKSSS : (Out.pS (Out.pS (Out.pS (Out.pK (Out.pF (Out.pE (Out.pK ev3))))))) = (.call 11 [(.agg [(.int .u8 (.var 0)), (.int .u8 (.var 1)), (.int .u8 (.var 2)), (.val 3)])] [] [] [] [(true, [.int .i64, .int .i64, .sl])] 
      (Out.pK (Out.pS (Out.pS (Out.pS (Out.pK (Out.pF (Out.pE (Out.pK ev3))))))))) := eta_call (by kernel_rfl : Out.hd (Out.pS (Out.pS (Out.pS (Out.pK (Out.pF (Out.pE (Out.pK ev3))))))) = (.call 11 [(.agg [(.int .u8 (.var 0)), (.int .u8 (.var 1)), (.int .u8 (.var 2)), (.val 3)])] [] [] [] [(true, [.int .i64, .int .i64, .sl])] 
      .fail))
theorem n3_KES : (Out.pS (Out.pE (Out.pK ev3))) = .both (Out.pF (Out.pS (Out.pE (Out.pK ev3)))) (Out.pS (Out.pS (Out.pE (Out.pK ev3)))) := eta_both (by kernel_rfl : Out.hd (Out.pS (Out.pE (Out.pK ev3))) = .both .fail .fail)
theorem n3_KESF : (Out.pF (Out.pS (Out.pE (Out.pK ev3)))) = .both (Out.pF (Out.pF (Out.pS (Out.pE (Out.pK ev3))))) (Out.pS (Out.pF (Out.pS (Out.pE (Out.pK ev3))))) := eta_both (by kernel_rfl : Out.hd (Out.pF (Out.pS (Out.pE (Out.pK ev3)))) = .both .fail .fail)
theorem n3_KESFF : (Out.pF (Out.pF (Out.pS (Out.pE (Out.pK ev3))))) = (.call 11 [(.agg [(.int .u8 (.var 0)), (.int .u8 (.var 1)), (.int .u8 (.var 2)), (.val 3)])] [] [] [] [(true, [.int .i64, .int .i64, .sl])] 
     (Out.pK (Out.pF (Out.pF (Out.pS (Out.pE (Out.pK ev3))))))) := eta_call (by kernel_rfl : Out.hd (Out.pF (Out.pF (Out.pS (Out.pE (Out.pK ev3))))) = (.call 11 [(.agg [(.int .u8 (.var 0)), (.int .u8 (.var 1)), (.int .u8 (.var 2)), (.val 3)])] [] [] [] [(true, [.int .i64, .int .i64, .sl])] 
     .fail))
theorem n3_KESFFK : (Out.pK (Out.pF (Out.pF (Out.pS (Out.pE (Out.pK ev3)))))) = .both (Out.pF (Out.pK (Out.pF (Out.pF (Out.pS (Out.pE (Out.pK ev3))))))) (Out.pS (Out.pK (Out.pF (Out.pF (Out.pS (Out.pE (Out.pK ev3))))))) := eta_both (by kernel_rfl : Out.hd (Out.pK (Out.pF (Out.pF (Out.pS (Out.pE (Out.pK ev3)))))) = .both .fail .fail)
theorem n3_KESFFKF : (Out.pF (Out.pK (Out.pF (Out.pF (Out.pS (Out.pE (Out.pK ev3))))))) = (.call 11 [(.agg [(.int .u8 (.var 0)), (.int .u8 (.var 1)), (.int .u8 (.var 2)), (.val 3)])] [] [] [] [(true, [.int .i64, .int .i64, .sl])] 
      (Out.pK (Out.pF (Out.pK (Out.pF (Out.pF (Out.pS (Out.pE (Out.pK ev3))))))))) := eta_call (by kernel_rfl : Out.hd (Out.pF (Out.pK (Out.pF (Out.pF (Out.pS (Out.pE (Out.pK ev3))))))) = (.call 11 [(.agg [(.int .u8 (.var 0)), (.int .u8 (.var 1)), (.int .u8 (.var 2)), (.val 3)])] [] [] [] [(true, [.int .i64, .int .i64, .sl])] 
      .fail))
theorem n3_KESFFKS : (Out.pS (Out.pK (Out.pF (Out.pF (Out.pS (Out.pE (Out.pK ev3))))))) = (.call 11 [(.agg [(.int .u8 (.var 0)), (.int .u8 (.var 1)), (.int .u8 (.var 2)), (.val 3)])] [] [] [] [(true, [.int .i64, .int .i64, .sl])] 
      (Out.pK (Out.pS (Out.pK (Out.pF (Out.pF (Out.pS (Out.pE (Out.pK ev3))))))))) := eta_call (by kernel_rfl : Out.hd (Out.pS (Out.pK (Out.pF (Out.pF (Out.pS (Out.pE (Out.pK ev3))))))) = (.call 11 [(.agg [(.int .u8 (.var 0)), (.int .u8 (.var 1)), (.int .u8 (.var 2)), (.val 3)])] [] [] [] [(true, [.int .i64, .int .i64, .sl])] 
      .fail))
theorem n3_KESFS : (Out.pS (Out.pF (Out.pS (Out.pE (Out.pK ev3))))) = (.call 11 [(.agg [(.int .u8 (.var 0)), (.int .u8 (.var 1)), (.int .u8 (.var 2)), (.val 3)])] [] [] [] [(true, [.int .i64, .int .i64, .sl])] 
     (Out.pK (Out.pS (Out.pF (Out.pS (Out.pE (Out.pK ev3))))))) := eta_call (by kernel_rfl : Out.hd (Out.pS (Out.pF (Out.pS (Out.pE (Out.pK ev3))))) = (.call 11 [(.agg [(.int .u8 (.var 0)), (.int .u8 (.var 1)), (.int .u8 (.var 2)), (.val 3)])] [] [] [] [(true, [.int .i64, .int .i64, .sl])] 
     .fail))
theorem n3_KESFSK : (Out.pK (Out.pS (Out.pF (Out.pS (Out.pE (Out.pK ev3)))))) = (.call 11 [(.agg [(.int .u8 (.var 0)), (.int .u8 (.var 1)), (.int .u8 (.var 2)), (.val 3)])] [] [] [] [(true, [.int .i64, .int .i64, .sl])] 
     (Out.pK (Out.pK (Out.pS (Out.pF (Out.pS (Out.pE (Out.pK ev3)))))))) := eta_call (by kernel_rfl : Out.hd (Out.pK (Out.pS (Out.pF (Out.pS (Out.pE (Out.pK ev3)))))) = (.call 11 [(.agg [(.int .u8 (.var 0)), (.int .u8 (.var 1)), (.int .u8 (.var 2)), (.val 3)])] [] [] [] [(true, [.int .i64, .int .i64, .sl])] 
     .fail))
theorem n3_KESS : (Out.pS (Out.pS (Out.pE (Out.pK ev3)))) = .both (Out.pF (Out.pS (Out.pS (Out.pE (Out.pK ev3))))) (Out.pS (Out.pS (Out.pS (Out.pE (Out.pK ev3))))) := eta_both (by kernel_rfl : Out.hd (Out.pS (Out.pS (Out.pE (Out.pK ev3)))) = .both .fail .fail)
theorem n3_KESSF : (Out.pF (Out.pS (Out.pS (Out.pE (Out.pK ev3))))) = (.call 11 [(.agg [(.int .u8 (.var 0)), (.int .u8 (.var 1)), (.int .u8 (.var 2)), (.val 3)])] [] [] [] [(true, [.int .i64, .int .i64, .sl])] 
     (Out.pK (Out.pF (Out.pS (Out.pS (Out.pE (Out.pK ev3))))))) := eta_call (by kernel_rfl : Out.hd (Out.pF (Out.pS (Out.pS (Out.pE (Out.pK ev3))))) = (.call 11 [(.agg [(.int .u8 (.var 0)), (.int .u8 (.var 1)), (.int .u8 (.var 2)), (.val 3)])] [] [] [] [(true, [.int .i64, .int .i64, .sl])] 
     .fail))
theorem n3_KESSFK : (Out.pK (Out.pF (Out.pS (Out.pS (Out.pE (Out.pK ev3)))))) = .both (Out.pF (Out.pK (Out.pF (Out.pS (Out.pS (Out.pE (Out.pK ev3))))))) (Out.pS (Out.pK (Out.pF (Out.pS (Out.pS (Out.pE (Out.pK ev3))))))) := eta_both (by kernel_rfl : Out.hd (Out.pK (Out.pF (Out.pS (Out.pS (Out.pE (Out.pK ev3)))))) = .both .fail .fail)
theorem n3_KESSFKF : (Out.pF (Out.pK (Out.pF (Out.pS (Out.pS (Out.pE (Out.pK ev3))))))) = (.call 11 [(.agg [(.int .u8 (.var 0)), (.int .u8 (.var 1)), (.int .u8 (.var 2)), (.val 3)])] [] [] [] [(true, [.int .i64, .int .i64, .sl])] 
      (Out.pK (Out.pF (Out.pK (Out.pF (Out.pS (Out.pS (Out.pE (Out.pK ev3))))))))) := eta_call (by kernel_rfl : Out.hd (Out.pF (Out.pK (Out.pF (Out.pS (Out.pS (Out.pE (Out.pK ev3))))))) = (.call 11 [(.agg [(.int .u8 (.var 0)), (.int .u8 (.var 1)), (.int .u8 (.var 2)), (.val 3)])] [] [] [] [(true, [.int .i64, .int .i64, .sl])] 
      .fail))
theorem n3_KESSFKS : (Out.pS (Out.pK (Out.pF (Out.pS (Out.pS (Out.pE (Out.pK ev3))))))) = (.call 11 [(.agg [(.int .u8 (.var 0)), (.int .u8 (.var 1)), (.int .u8 (.var 2)), (.val 3)])] [] [] [] [(true, [.int .i64, .int .i64, .sl])] 
      (Out.pK (Out.pS (Out.pK (Out.pF (Out.pS (Out.pS (Out.pE (Out.pK ev3))))))))) := eta_call (by kernel_rfl : Out.hd (Out.pS (Out.pK (Out.pF (Out.pS (Out.pS (Out.pE (Out.pK ev3))))))) = (.call 11 [(.agg [(.int .u8 (.var 0)), (.int .u8 (.var 1)), (.int .u8 (.var 2)), (.val 3)])] [] [] [] [(true, [.int .i64, .int .i64, .sl])] 
      .fail))
theorem n3_KESSS : (Out.pS (Out.pS (Out.pS (Out.pE (Out.pK ev3))))) = (.call 11 [(.agg [(.int .u8 (.var 0)), (.int .u8 (.var 1)), (.int .u8 (.var 2)), (.val 3)])] [] [] [] [(true, [.int .i64, .int .i64, .sl])] 
     (Out.pK (Out.pS (Out.pS (Out.pS (Out.pE (Out.pK ev3))))))) := eta_call (by kernel_rfl : Out.hd (Out.pS (Out.pS (Out.pS (Out.pE (Out.pK ev3))))) = (.call 11 [(.agg [(.int .u8 (.var 0)), (.int .u8 (.var 1)), (.int .u8 (.var 2)), (.val 3)])] [] [] [] [(true, [.int .i64, .int .i64, .sl])] 
     .fail))
theorem n3_KESSSK : (Out.pK (Out.pS (Out.pS (Out.pS (Out.pE (Out.pK ev3)))))) = (.call 11 [(.agg [(.int .u8 (.var 0)), (.int .u8 (.var 1)), (.int .u8 (.var 2)), (.val 3)])] [] [] [] [(true, [.int .i64, .int .i64, .sl])] 
     (Out.pK (Out.pK (Out.pS (Out.pS (Out.pS (Out.pE (Out.pK ev3)))))))) := eta_call (by kernel_rfl : Out.hd (Out.pK (Out.pS (Out.pS (Out.pS (Out.pE (Out.pK ev3)))))) = (.call 11 [(.agg [(.int .u8 (.var 0)), (.int .u8 (.var 1)), (.int .u8 (.var 2)), (.val 3)])] [] [] [] [(true, [.int .i64, .int .i64, .sl])] 
     .fail))
theorem e3 : ev Tryd.prog ⟨allF, [], l3⟩ (bodyOf Tryd.f3) 0 (initSt [(.agg [(.int .u8 (.var 0)), (.int .u8 (.var 1)), (.int .u8 (.var 2)), (.val 3)]), (.int .u8 (.var 4)), (.int .u8 (.var 5))] [] Tryd.f3.ntmps [.int .u8, .int .u8, .int .u8, .sl, .int .u8, .int .u8]) (finK Tryd.prog Tryd.f3.results []) = t3 := by
  show ev3 = t3
  unfold t3
  rw [n3_, n3_K, m3_K, n3_KE, n3_KEF, n3_KEFK, n3_KEFKF, n3_KEFKFK, n3_KEFKS, n3_KEFKSF, n3_KEFKSFF, n3_KEFKSFS, n3_KEFKSS, n3_KEFKSSF, n3_KEFKSSS, n3_KES, n3_KESF, n3_KESFF, n3_KESFFK, n3_KESFFKF, n3_KESFFKS, n3_KESFS, n3_KESFSK, n3_KESS, n3_KESSF, n3_KESSFK, n3_KESSFKF, n3_KESSFKS, n3_KESSS, n3_KESSSK, p3_1, p3_2, p3_3, p3_4, p3_5, p3_6, p3_7, p3_8, p3_9, p3_10, p3_11, p3_12]
theorem c3 {G : List Value} {h : H} {R : Value → List (List Value) → H → Prop} (hG : FitsL [.int .u8, .int .u8, .int .u8, .sl, .int .u8, .int .u8] G) (H : holds Tryd.prog R t3 G [] h) : CallsA Tryd.prog 3 (fun e => SV.denL G (fun k => e (k - 1000000)) [(.agg [(.int .u8 (.var 0)), (.int .u8 (.var 1)), (.int .u8 (.var 2)), (.val 3)]), (.int .u8 (.var 4)), (.int .u8 (.var 5))]) ([].map (SV.denL G dE)) h R :=
  CallsA.of_ev (cf := ⟨allF, [], l3⟩) (fn := Tryd.f3) (c := bodyOf Tryd.f3) (pcs := []) Tryd.func3 (by rfl) callOK (by rfl) hG (by rfl) (by rw [show ([] : List (List SV)).map List.length = [] from rfl, e3]; exact H)
end Go.Proofs.YtgcaicdmjbkplaaDoor
