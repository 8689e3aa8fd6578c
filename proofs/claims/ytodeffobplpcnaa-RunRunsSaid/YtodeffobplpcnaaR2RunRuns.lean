/-
  The law RunRuns answers true. Conditions: none.
-/
import Derived.Test.YtodeffobplpcnaaPc
import Derived.Test.YtodeffobplpcnaaRows
set_option linter.unusedVariables false
set_option linter.unusedSimpArgs false
namespace Go.Proofs.Ytodeffobplpcnaa
open Go Go.ChangeShapes Go.WideShapes Go.ChangeAt Go.RowKit

theorem s3 {h : H} {vs av mv nv : Value} {p0 p1 p2 fuel : Int} {l args mem ans : List Int} (hs : BytesAt h vs l) (h0 : 0 ≤ p0) (h1 : 0 ≤ p1) (h2 : 0 ≤ p2) (ha : IntsAt h av args) (hm : IntsAt h mv mem) (hn : IntsAt h nv ans) :
    CallsA Try.prog 3 (fun _ => [.agg #[.int .u8 p0, .int .u8 p1, .int .u8 p2, vs], .agg #[av, mv, nv, .int .i64 fuel]]) [] h (Ret fun r h' => h.le h' ∧ r = .bool true) := by
  refine c3 (G := [.int .u8 p0, .int .u8 p1, .int .u8 p2, vs, av, mv, nv, .int .i64 fuel]) ⟨⟨_, rfl⟩, ⟨_, rfl⟩, ⟨_, rfl⟩, hs.fit, ha.fit, hm.fit, hn.fit, ⟨_, rfl⟩, trivial⟩ ?_
  refine h_call0 s15 ?_
  rintro _ g1 ⟨hl1, rfl⟩
  refine ⟨[.bool true], ⟨⟨_, rfl⟩, trivial⟩, rfl, h_ite (fun hc => by cases hc) (fun _ => h_call0 (s16 (p0 := p0) (p1 := p1) (p2 := p2) (hs.le hl1) h0 h1 h2) ?_)⟩
  rintro _ g2 ⟨hk2, u, fp, rfl, hu, hf, hnd⟩
  have hl2 := hl1.trans hk2.le_nil
  have F := made_fun h0 h1 h2 hs.inB
  have hSm := madeB_small (p0 := p0) (p1 := p1) (p2 := p2) (l := l) h0 h1 h2 hs.inB
  refine ⟨[.int .i64 (madeP p0), .int .i64 (madeV p0 p1), u], ⟨⟨_, rfl⟩, ⟨_, rfl⟩, hu.at.fit, trivial⟩, rfl, ?_⟩
  obtain ⟨P, V, hP, hV, hPl, hVl, hPV, hck, hok, hb1, hb2⟩ := F
  rw [hP, hV]
  simp only [List.cons_append, List.nil_append]
  refine h_call0 (s17 (p := P) (fuel := fuel) (ha.le hl2) (hm.le hl2) (hn.le hl2) (by omega)) ?_
  rintro _ g3 ⟨u', m', n', rfl, hl3, iu, im, inn⟩
  have hl3' := hl2.trans hl3
  refine ⟨[u', m', n', .int .i64 (fuelM fuel)], ⟨iu.fit, im.fit, inn.fit, ⟨_, rfl⟩, trivial⟩, rfl, ?_⟩
  simp only [List.cons_append, List.nil_append]
  have hfr := fuelM_range fuel
  have hB3 := SlAt.le blkC_mono hl3 hu.at
  refine h_callO2 (Q := fun t e h' => g3.le h' ∧ CallsOk t ∧ RunSpec P V (madeB p0 p1 p2 l) (inArgs args P) (mem.take 100) (ans.take 100) (fuelM fuel) e t) ((s18 (p := P) (n := V) (fuel := fuelM fuel) hB3 iu im inn).post fun r h' q => q) ?_
  rintro t e cv g4 m1 c1 ⟨hl4, hco, hsp⟩
  obtain ⟨rfl, hrun⟩ := run_made hck hfr (inArgs_len args P) hsp
  obtain ⟨A, hA⟩ : ∃ A, A = [Value.int .u8 p0, .int .u8 p1, .int .u8 p2, vs, av, mv, nv, .int .i64 fuel, .bool true, .int .i64 (P : Int), .int .i64 (V : Int), u, u', m', n', .int .i64 (fuelM fuel)] := ⟨_, rfl⟩
  rw [← hA]
  have hAl : A.length = 16 := by rw [hA]; rfl
  have e84 := gOe (A := A) (B := [.int .i64 0]) (cv := cv) (j := 0) hAl m1
  refine iteT (by rw [eq_cond e84]; rfl) ?_
  have gA : ∀ (D : List Value) (i : Nat), i < 16 → gv (A ++ D) i = gv A i := fun D i hi => gv_of_lt (by omega)
  refine h_callO (Q := fun t' h' => g4.le h' ∧ SameO t t') ?_ ?_
  · have := s20 (R := V) (S := 0) (first := 0) (fuel := fuelM fuel) (SlAt.le blkC_mono hl4 hB3) (iu.le hl4) (im.le hl4) (inn.le hl4) hok hb1 (by omega) (by omega) (by rw [inArgs_len]; omega) (by omega)
    simp only [SV.denL, SV.den, X.den]
    rw [gA _ 10 (by omega), gA _ 11 (by omega), gA _ 12 (by omega), gA _ 13 (by omega), gA _ 14 (by omega), gA _ 15 (by omega), hA]
    refine this.post fun r h' ⟨q1, t', q2, q3⟩ => ⟨t', q3.at_, q1.le_nil, ?_⟩
    rw [hrun.same q2]; exact ⟨rfl, rfl, rfl, rfl, rfl⟩
  rintro t' cv' g5 m2 c2 ⟨hl5, hso⟩
  have eG : A ++ (outC t cv ++ [.int .i64 0]) ++ outC t' cv' = A ++ (outC t cv ++ ([.int .i64 0] ++ (outC t' cv' ++ []))) := by simp
  refine h_same (A := A) (M := [.int .i64 0]) (D := []) eG m1 m2 (SlAt.le callC_mono hl5 c1) c2 hso hco (by rw [hAl]; rfl) (by rw [hAl]; rfl) ?_
  have hl05 := ((hl3'.trans hl4).trans hl5)
  have hGl : (A ++ (outC t cv ++ [Value.int .i64 0]) ++ outC t' cv').length = 153 := by simp [hAl, outC_len m1, outC_len m2]
  have gB : ∀ (i : Nat), i < 16 → gv (A ++ (outC t cv ++ [Value.int .i64 0]) ++ outC t' cv') i = gv A i := fun i hi => by
    rw [List.append_assoc, gv_of_lt (by omega)]
  generalize A ++ (outC t cv ++ [Value.int .i64 0]) ++ outC t' cv' = GG at hGl gB ⊢
  refine iteT (by simp only [X.den]; rw [gv_at (j := 0) (by omega)]; rfl) ?_
  refine h_call0 (Q := fun r h' => KeptH g5 h' [] ∧ ∃ u fp, r = .agg #[.int .i64 (madeP p0), .int .i64 (madeV p0 p1), u] ∧ OwnBlks h' u (madeB p0 p1 p2 l) fp ∧ Fresh g5 fp ∧ fp.Nodup) ?_ ?_
  · have := s16 (p0 := p0) (p1 := p1) (p2 := p2) (hs.le hl05) h0 h1 h2
    simp only [SV.denL, SV.den, X.den]
    rw [gv_of_lt (by omega), gv_of_lt (by omega), gv_of_lt (by omega), gv_of_lt (by omega), gB 0 (by omega), gB 1 (by omega), gB 2 (by omega), gB 3 (by omega), hA]
    exact this
  rintro _ g6 ⟨hk6, u6, fp6, rfl, hu6, -, -⟩
  rw [hP, hV]
  refine ⟨[.int .i64 (P : Int), .int .i64 (V : Int), u6], ⟨⟨_, rfl⟩, ⟨_, rfl⟩, hu6.at.fit, trivial⟩, rfl, ?_⟩
  refine h_call0 (Q := fun r h' => h' = g6 ∧ r = .bool true) ?_ ?_
  · have hsm : ∀ b ∈ madeB p0 p1 p2 l, b.ins.length ≤ 100000 ∧ ∀ x ∈ b.ins, x.args.length ≤ 100000 := fun b hb => by
      obtain ⟨q1, q2⟩ := hSm.2 b hb
      exact ⟨by omega, fun x hx => by have := q2 x hx; omega⟩
    have := s21 (p := P) (n := V) (SlAt.le blkC_mono (((hl3.trans hl4).trans hl5).trans hk6.le_nil) hu.at) hu6.at hSm.1 hsm
    simp only [SV.denL, SV.den, X.den]
    have tail : ∀ i, gv (GG ++ [Value.bool true] ++ [.int .i64 (P : Int), .int .i64 (V : Int), u6]) (154 + i) = gv [.int .i64 (P : Int), .int .i64 (V : Int), u6] i := fun i => gv_at (by simp [hGl])
    have head : ∀ i, i < 16 → gv (GG ++ [Value.bool true] ++ [.int .i64 (P : Int), .int .i64 (V : Int), u6]) i = gv A i := fun i hi => by rw [gv_of_lt (by simp [hGl]; omega), gv_of_lt (by omega), gB i hi]
    have t0 := tail 0
    have t1 := tail 1
    have t2 := tail 2
    simp only [Nat.add_zero] at t0
    rw [t0, t1, t2, head 9 (by omega), head 10 (by omega), head 11 (by omega), hA]
    exact this
  rintro _ g7 ⟨eg, rfl⟩
  obtain rfl : g6 = g7 := eg.symm
  refine ⟨[.bool true], ⟨⟨_, rfl⟩, trivial⟩, rfl, rfl, hl05.trans hk6.le_nil, ?_⟩
  simp only [SV.den, X.den]
  rw [gv_at (j := 0) (by simp [hGl])]; rfl
namespace runRuns
theorem own : ownKnob Try.prog.godebug = none := by kernel_rfl
set_option maxRecDepth 100000 in
theorem laidOut : laidOutB Try.prog = true := by kernel_rfl
set_option maxRecDepth 100000 in
theorem contract (H : Type) (enc : TypeId × Value → H) (W : World) (base : Nat) (args : Array Value) (ds gs : List (DataW H)) (before : List MemPlace)
    (hval : ∀ (j : Nat) t v, Try.f3.params[j]? = some t → args[j]? = some v → Value.okWide Try.prog W .any base t v)
    (hW : DataW.Whole enc Try.prog Try.f3.params.toList Rows.runRunsSpec.vars false W args.toList ds gs before) :
    Calls Try.prog 3 args W fun e W' => ∃ v, e = .returned v ∧ Rows.runRunsSpec.post enc Try.prog Try.f3 false true false false W args v W' := by
  have hW' := hW
  obtain ⟨p, q, hA, hV, rfl, hfz, hnd⟩ := hW
  rw [Try.params3] at hA hval
  obtain ⟨v0, vs0, d0, ds0, p0, q0, hargs, rfl, rfl, h0, r0⟩ := trodAll_cons hA
  obtain ⟨v1, vs1, d1, ds1, p1, q1, rfl, rfl, rfl, h1, r1⟩ := trodAll_cons r0
  obtain ⟨rfl, rfl, rfl⟩ := trodAll_nil r1
  obtain rfl : args = #[v0, v1] := by cases args; simp_all
  obtain ⟨cs0, rfl, -⟩ := okWide_struct Try.underlying24 (hval 0 24 v0 rfl rfl)
  obtain ⟨p0, p1, p2, vs, l, he0, g0, g1, g2, hs⟩ := rd_spec (Rd.of h0)
  obtain rfl : cs0 = ([Value.int .u8 p0, .int .u8 p1, .int .u8 p2, vs]).toArray := by rw [← he0]; simp [Value.cells]
  obtain ⟨cs1, rfl, -⟩ := okWide_struct Try.underlying27 (hval 1 27 v1 rfl rfl)
  obtain ⟨av, mv, nv, fuel, args, mem, ans, he1, ha, hm, hn⟩ := rd_input (Rd.of h1)
  obtain rfl : cs1 = ([av, mv, nv, Value.int .i64 fuel]).toArray := by rw [← he1]; simp [Value.cells]
  refine (law_calls (f := 3) (args := [.agg ([Value.int .u8 p0, .int .u8 p1, .int .u8 p2, vs]).toArray, .agg ([av, mv, nv, Value.int .i64 fuel]).toArray]) (s3 hs g0 g1 g2 ha hm hn)).mono ?_
  rintro e' W' ⟨rfl, bel⟩
  exact ⟨_, rfl, law_post laidOut hW' rfl (of_decide_eq_true (by kernel_rfl)) rfl Try.underlying4 rfl bel⟩
set_option maxRecDepth 100000 in
theorem lifted (os : Os) (started : os.Started) (H : Type) (enc : TypeId × Value → H) :
    ReturnsInHanded {} Try.checked os 3 .any (Rows.runRunsSpec.pre6 enc Try.prog Try.f3 Rows.runRunsRow.domain false) (Rows.runRunsSpec.post enc Try.prog Try.f3 false true false false) := by
  refine returnsInHanded_of_change (C := Try.checked) own started (by kernel_rfl) Try.func3
    (ChangeSpec.witness6 (enc := enc) (C := Try.checked) false ⟨#[], #[.agg #[.int .u8 0, .int .u8 0, .int .u8 0, .slice none 0 0], .agg #[.slice none 0 0, .slice none 0 0, .slice none 0 0, .int .i64 0]], []⟩ 8 (by kernel_rfl) (by kernel_rfl) (by kernel_rfl) (by kernel_rfl)) ?_
  intro W base args ds gs before hval hW _ _
  exact contract H enc W base args ds gs before hval hW
set_option maxRecDepth 100000 in
theorem proved : Rows.RunRunsSaid :=
  OpenClaim.holds_of_wide 3 Try.f3 rfl rfl rfl rfl rfl rfl rfl ⟨rfl, rfl, rfl, rfl, rfl⟩ rfl rfl rfl rfl rfl (by kernel_rfl) Try.func3 (by kernel_rfl)
    (of_decide_eq_true (by kernel_rfl)) (by unfold Func.isWrapper; first | (rw [if_pos (by decide +kernel)]; kernel_rfl) | (rw [if_neg (by decide +kernel)]; exact ⟨rfl, rfl⟩))
    (fun os started H enc _ => lifted os started H enc)
end runRuns
/-- The row, under a short name, for the claim. -/
theorem runRunsHolds : Rows.RunRunsSaid := runRuns.proved
#print axioms runRunsHolds
end Go.Proofs.Ytodeffobplpcnaa
