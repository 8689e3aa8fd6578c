/-
  The law IrEnds answers true. Conditions: none.
-/
import Derived.Test.YtibdneedfopcoaaR1B
import Derived.Test.YtibdneedfopcoaaLaw
import Derived.Test.YtibdneedfopcoaaRows
set_option linter.unusedVariables false
set_option linter.unusedSimpArgs false
namespace Go.Proofs.Ytibdneedfopcoaa
open Go Go.ChangeShapes Go.WideShapes Go.ChangeAt Go.RowKit

theorem s5 {h : H} (e : Fin4) (n m : Int) : CallsA Try.prog 5 (fun _ => [.agg (endC e).toArray, .int .i64 n, .int .i64 m]) [] h (Ret fun r h' => h.le h' ∧ r = .bool true) := by
  refine c5 (G := [.int .u8 e.kind, .int .i64 e.a, .int .i64 e.to, .int .i64 e.el, .int .i64 n, .int .i64 m]) ⟨⟨_, rfl⟩, ⟨_, rfl⟩, ⟨_, rfl⟩, ⟨_, rfl⟩, ⟨_, rfl⟩, ⟨_, rfl⟩, trivial⟩ ?_
  refine h_call0 s13 ?_
  rintro r h1 ⟨hl, rfl⟩
  refine ⟨[.bool true], ⟨⟨_, rfl⟩, trivial⟩, rfl, h_ite (fun hc => by cases hc) (fun _ => h_call0 (s26 e n m) ?_)⟩
  rintro r _ ⟨rfl, rfl⟩
  refine ⟨[.int .i64 (endM e n m 21)], ⟨⟨_, rfl⟩, trivial⟩, rfl, h_call0 (s27 e n m 21) ?_⟩
  rintro r _ ⟨rfl, rfl⟩
  refine ⟨[.int .i64 (endM e n m 21)], ⟨⟨_, rfl⟩, trivial⟩, rfl, rfl, hl, ?_⟩
  show Value.bool (cmpOp .eql (endM e n m 21) (endM e n m 21)) = _
  rw [cmp_eql]; simp

section
variable {Hh : Type} {enc : TypeId × Value → Hh} {W : World}
theorem rd_end {cs : List Value} (h : Rd enc Try.prog W 39 cs) : ∃ e, cs = endC e := by
  obtain ⟨a0, _, rfl, r0, a1, _, rfl, r1, a2, _, rfl, r2, a3, _, rfl, r3, rfl⟩ := h.parts Try.underlying39 (by kernel_rfl)
  obtain ⟨n0, rfl, _⟩ := r0.int Try.underlying37
  obtain ⟨n1, rfl, _⟩ := r1.int Try.underlying3
  obtain ⟨n2, rfl, _⟩ := r2.int Try.underlying3
  obtain ⟨n3, rfl, _⟩ := r3.int Try.underlying3
  exact ⟨⟨n0, n1, n2, n3⟩, rfl⟩
end
namespace irEnds
theorem own : ownKnob Try.prog.godebug = none := by kernel_rfl
theorem laidOut : laidOutB Try.prog = true := by kernel_rfl
theorem contract (H : Type) (enc : TypeId × Value → H) (W : World) (base : Nat) (args : Array Value) (ds gs : List (DataW H)) (before : List MemPlace)
    (hval : ∀ (j : Nat) t v, Try.f5.params[j]? = some t → args[j]? = some v → Value.okWide Try.prog W .any base t v)
    (hW : DataW.Whole enc Try.prog Try.f5.params.toList Rows.irEndsSpec.vars false W args.toList ds gs before) :
    Calls Try.prog 5 args W fun e W' => ∃ v, e = .returned v ∧ Rows.irEndsSpec.post enc Try.prog Try.f5 false true false false W args v W' := by
  have hW' := hW
  obtain ⟨p, q, hA, hV, rfl, hfz, hnd⟩ := hW
  rw [Try.params5] at hA hval
  obtain ⟨v0, vs0, d0, ds0, p0, q0, hargs, rfl, rfl, h0, r0⟩ := trodAll_cons hA
  obtain ⟨v1, vs1, d1, ds1, p1, q1, rfl, rfl, rfl, h1, r1⟩ := trodAll_cons r0
  obtain ⟨v2, vs2, d2, ds2, p2, q2, rfl, rfl, rfl, h2, r2⟩ := trodAll_cons r1
  obtain ⟨rfl, rfl, rfl⟩ := trodAll_nil r2
  obtain rfl : args = #[v0, v1, v2] := by cases args; simp_all
  obtain ⟨cs, rfl, -⟩ := okWide_struct Try.underlying39 (hval 0 39 v0 rfl rfl)
  obtain ⟨e, he⟩ := rd_end (Rd.of h0)
  obtain ⟨n, rfl, -⟩ := open_int Try.underlying3 (hval 1 3 v1 rfl rfl) h1
  obtain ⟨m, rfl, -⟩ := open_int Try.underlying3 (hval 2 3 v2 rfl rfl) h2
  obtain rfl : cs = (endC e).toArray := by rw [← he]; simp [Value.cells]
  refine (law_calls (f := 5) (args := [.agg (endC e).toArray, .int .i64 n, .int .i64 m]) (s5 e n m)).mono ?_
  rintro e' W' ⟨rfl, bel⟩
  exact ⟨_, rfl, law_post laidOut hW' rfl (of_decide_eq_true (by kernel_rfl)) rfl Try.underlying4 rfl bel⟩
set_option maxRecDepth 100000 in
theorem lifted (os : Os) (started : os.Started) (H : Type) (enc : TypeId × Value → H) :
    ReturnsInHanded {} Try.checked os 5 .any (Rows.irEndsSpec.pre6 enc Try.prog Try.f5 Rows.irEndsRow.domain false) (Rows.irEndsSpec.post enc Try.prog Try.f5 false true false false) := by
  refine returnsInHanded_of_change (C := Try.checked) own started (by kernel_rfl) Try.func5
    (ChangeSpec.witness6 (enc := enc) (C := Try.checked) false ⟨#[], #[.agg #[.int .u8 0, .int .i64 0, .int .i64 0, .int .i64 0], .int .i64 0, .int .i64 0], []⟩ 8 (by kernel_rfl) (by kernel_rfl) (by kernel_rfl) (by kernel_rfl)) ?_
  intro W base args ds gs before hval hW _ _
  exact contract H enc W base args ds gs before hval hW
theorem proved : Rows.IrEndsSaid :=
  OpenClaim.holds_of_wide 5 Try.f5 rfl rfl rfl rfl rfl rfl rfl ⟨rfl, rfl, rfl, rfl, rfl⟩ rfl rfl rfl rfl rfl (by kernel_rfl) Try.func5 (by kernel_rfl)
    (of_decide_eq_true (by kernel_rfl)) (by unfold Func.isWrapper; first | (rw [if_pos (by decide +kernel)]; kernel_rfl) | (rw [if_neg (by decide +kernel)]; exact ⟨rfl, rfl⟩))
    (fun os started H enc _ => lifted os started H enc)
end irEnds
/-- The row, under a short name, for the claim. -/
theorem irEndsHolds : Rows.IrEndsSaid := irEnds.proved
#print axioms irEndsHolds
end Go.Proofs.Ytibdneedfopcoaa
