/-
  The law MachFree answers true. Conditions: none.
-/
import Derived.Test.YtibdneedfopcoaaR1C
import Derived.Test.YtibdneedfopcoaaR1Rd
import Derived.Test.YtibdneedfopcoaaRows
set_option linter.unusedVariables false
set_option linter.unusedSimpArgs false
namespace Go.Proofs.Ytibdneedfopcoaa
open Go Go.ChangeShapes Go.WideShapes Go.ChangeAt Go.RowKit

theorem f_done {G : List Value} {k : Int} (e0 : gv G 0 = .int .u8 k) (e8 : gv G 8 = .bool (decide (k = 2 ∨ k = 7 ∨ k = 8))) :
    (SV.bool (.ite (.var 8) (.ite (.ite (.cmp .eql (.var 0) (.lit 2)) (.tt true) (.cmp .eql (.var 0) (.lit 7))) (.tt true) (.cmp .eql (.var 0) (.lit 8))) (.not (.ite (.ite (.cmp .eql (.var 0) (.lit 2)) (.tt true) (.cmp .eql (.var 0) (.lit 7))) (.tt true) (.cmp .eql (.var 0) (.lit 8)))))).den G dE = .bool true := by
  simp only [SV.den, X.den, e0, e8, vb_ite, vb_bool, vi_int, cmp_eql, decide_eq_true_eq, Value.bool.injEq]
  grind
theorem s10 {h : H} (x : Ins) (v : Value) (hv : IntsAt h v x.args) : CallsA Try.prog 10 (fun _ => [.agg (insC x v).toArray]) [] h (Ret fun r h' => h.le h' ∧ r = .bool true) := by
  refine c10 (G := insC x v) (insFit x v hv.fit) ?_
  refine h_call0 s32 ?_
  rintro r h1 ⟨hl, rfl⟩
  refine ⟨[.bool true], ⟨⟨_, rfl⟩, trivial⟩, rfl, h_ite (fun hc => by cases hc) (fun _ => h_call0 (s36 x v hv.fit) ?_)⟩
  rintro r _ ⟨rfl, rfl⟩
  exact ⟨[.bool (decide (x.kind = 2 ∨ x.kind = 7 ∨ x.kind = 8))], ⟨⟨_, rfl⟩, trivial⟩, rfl, rfl, hl, f_done (k := x.kind) rfl rfl⟩
namespace machFree
theorem own : ownKnob Try.prog.godebug = none := by kernel_rfl
theorem laidOut : laidOutB Try.prog = true := by kernel_rfl
theorem contract (H : Type) (enc : TypeId × Value → H) (W : World) (base : Nat) (args : Array Value) (ds gs : List (DataW H)) (before : List MemPlace)
    (hval : ∀ (j : Nat) t v, Try.f10.params[j]? = some t → args[j]? = some v → Value.okWide Try.prog W .any base t v)
    (hW : DataW.Whole enc Try.prog Try.f10.params.toList Rows.machFreeSpec.vars false W args.toList ds gs before) :
    Calls Try.prog 10 args W fun e W' => ∃ v, e = .returned v ∧ Rows.machFreeSpec.post enc Try.prog Try.f10 false true false false W args v W' := by
  have hW' := hW
  obtain ⟨p, q, hA, hV, rfl, hfz, hnd⟩ := hW
  rw [Try.params10] at hA hval
  obtain ⟨v0, vs0, d0, ds0, p0, q0, hargs, rfl, rfl, h0, r0⟩ := trodAll_cons hA
  obtain ⟨rfl, rfl, rfl⟩ := trodAll_nil r0
  obtain rfl : args = #[v0] := by cases args; simp_all
  obtain ⟨cs0, rfl, -⟩ := okWide_struct Try.underlying46 (hval 0 46 v0 rfl rfl)
  obtain ⟨x, v, he0, hv⟩ := rd_ins (Rd.of h0)
  obtain rfl : cs0 = (insC x v).toArray := by rw [← he0]; simp [Value.cells]
  refine (law_calls (f := 10) (args := [.agg (insC x v).toArray]) (s10 x v hv)).mono ?_
  rintro e' W' ⟨rfl, bel⟩
  exact ⟨_, rfl, law_post laidOut hW' rfl (of_decide_eq_true (by kernel_rfl)) rfl Try.underlying4 rfl bel⟩
set_option maxRecDepth 100000 in
theorem lifted (os : Os) (started : os.Started) (H : Type) (enc : TypeId × Value → H) :
    ReturnsInHanded {} Try.checked os 10 .any (Rows.machFreeSpec.pre6 enc Try.prog Try.f10 Rows.machFreeRow.domain false) (Rows.machFreeSpec.post enc Try.prog Try.f10 false true false false) := by
  refine returnsInHanded_of_change (C := Try.checked) own started (by kernel_rfl) Try.func10
    (ChangeSpec.witness6 (enc := enc) (C := Try.checked) false ⟨#[], #[.agg #[.int .u8 0, .int .u8 0, .int .i64 0, .int .i64 0, .int .i64 0, .int .i64 0, .slice none 0 0]], []⟩ 8 (by kernel_rfl) (by kernel_rfl) (by kernel_rfl) (by kernel_rfl)) ?_
  intro W base args ds gs before hval hW _ _
  exact contract H enc W base args ds gs before hval hW
theorem proved : Rows.MachFreeSaid :=
  OpenClaim.holds_of_wide 10 Try.f10 rfl rfl rfl rfl rfl rfl rfl ⟨rfl, rfl, rfl, rfl, rfl⟩ rfl rfl rfl rfl rfl (by kernel_rfl) Try.func10 (by kernel_rfl)
    (of_decide_eq_true (by kernel_rfl)) (by unfold Func.isWrapper; first | (rw [if_pos (by decide +kernel)]; kernel_rfl) | (rw [if_neg (by decide +kernel)]; exact ⟨rfl, rfl⟩))
    (fun os started H enc _ => lifted os started H enc)
end machFree
/-- The row, under a short name, for the claim. -/
theorem machFreeHolds : Rows.MachFreeSaid := machFree.proved
#print axioms machFreeHolds
end Go.Proofs.Ytibdneedfopcoaa
