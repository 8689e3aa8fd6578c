/-
  Two runs, one behind the other: words for the laws of runs. Conditions: none.
-/
import Derived.Test.YtodeffobplpcnaaPc
import Derived.Test.YtodeffobplpcnaaR2M
set_option linter.unusedVariables false
set_option linter.unusedSimpArgs false
namespace Go.Proofs.Ytodeffobplpcnaa
open Go

theorem denL_app {G : List Value} {E : Nat → CE} (a b : List SV) : SV.denL G E (a ++ b) = SV.denL G E a ++ SV.denL G E b := by simp [SV.denL_eq]
def outSh0 : List Sh := .int .i64 :: .int .i64 :: .sl :: List.replicate 64 (.int .i64)
def outC0 (s : Rs) (cv : Value) : List Value := .int .i64 s.how :: .int .i64 s.value :: cv :: s.mem.map (.int .i64)
theorem outC0_fit {s : Rs} {cv : Value} (hm : s.mem.length = 64) (hc : Fits .sl cv) : FitsL outSh0 (outC0 s cv) := by
  refine ⟨⟨_, rfl⟩, ⟨_, rfl⟩, hc, ?_⟩
  have := fits_ints s.mem [] [] trivial
  rw [hm] at this; simpa using this
theorem outC_eq {s : Rs} {cv : Value} : outC s cv = outC0 s cv ++ [.int .i64 s.left] := rfl
/-- As run_made, with more fuel. -/
theorem run_madeF {P V : Nat} {bs : List Blk} {args mem ans : List Int} {fuel e : Int} {t : Rs} (hck : checkM (P : Int) (V : Int) bs = (0, 0, 0)) (hf : 0 ≤ fuel ∧ fuel ≤ 10000) (ha : args.length = P) (h : RunSpec P V bs args mem ans fuel e t) :
    e = 0 ∧ Runs bs V 0 0 (start V 0 args mem ans fuel) t := by
  unfold RunSpec at h
  rw [if_neg (by rw [hck]; simp), if_neg (by rw [input_ok ha (by omega)]; simp), Int.toNat_natCast] at h
  exact h
/-- Two outputs with their errors, both none. -/
theorem two_ok {G : List Value} {i j : Nat} (e1 : gv G i = .int .i64 0) (e2 : gv G j = .int .i64 0) : vb ((X.ite (.cmp .neq (.var i) (.lit 0)) (.tt true) (.cmp .neq (.var j) (.lit 0))).den G) = false := by
  simp [X.den, e1, e2, vb_ite, cmp_neq]
theorem both_ok {G : List Value} {i j : Nat} (e1 : gv G i = .int .i64 0) (e2 : gv G j = .int .i64 0) : vb ((X.ite (.cmp .eql (.var i) (.lit 0)) (.cmp .eql (.var j) (.lit 0)) (.tt false)).den G) = true := by
  simp [X.den, e1, e2, vb_ite, cmp_eql]
end Go.Proofs.Ytodeffobplpcnaa
