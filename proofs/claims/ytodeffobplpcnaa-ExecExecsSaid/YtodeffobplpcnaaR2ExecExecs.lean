/-
  The law ExecExecs answers true. Conditions: none.
-/
import Derived.Test.YtodeffobplpcnaaPc
import Derived.Test.YtodeffobplpcnaaRows
set_option linter.unusedVariables false
set_option linter.unusedSimpArgs false
namespace Go.Proofs.Ytodeffobplpcnaa
open Go Go.ChangeShapes Go.WideShapes Go.ChangeAt Go.RowKit

theorem s11 {h : H} {vs kv av mv nv : Value} {p0 p1 p2 rg sl fuel : Int} {l ml args mem ans : List Int} (hs : BytesAt h vs l) (hkv : BytesAt h kv ml) (h0 : 0 ≤ p0) (h1 : 0 ≤ p1) (h2 : 0 ≤ p2) (hr : 0 ≤ rg ∧ rg ≤ 255) (hsl : 0 ≤ sl ∧ sl ≤ 255) (ha : IntsAt h av args) (hm : IntsAt h mv mem) (hn : IntsAt h nv ans) :
    CallsA Try.prog 11 (fun _ => [.agg #[.int .u8 p0, .int .u8 p1, .int .u8 p2, vs], .int .u8 rg, .int .u8 sl, kv, .agg #[av, mv, nv, .int .i64 fuel]]) [] h (Ret fun r h' => h.le h' ∧ r = .bool true) := by
  refine c11 (G := [.int .u8 p0, .int .u8 p1, .int .u8 p2, vs, .int .u8 rg, .int .u8 sl, kv, av, mv, nv, .int .i64 fuel]) ⟨⟨_, rfl⟩, ⟨_, rfl⟩, ⟨_, rfl⟩, hs.fit, ⟨_, rfl⟩, ⟨_, rfl⟩, hkv.fit, ha.fit, hm.fit, hn.fit, ⟨_, rfl⟩, trivial⟩ ?_
  refine h_call0 s29 ?_
  rintro _ g1 ⟨hl1, rfl⟩
  refine ⟨[.bool true], ⟨⟨_, rfl⟩, trivial⟩, rfl, h_ite (fun hc => by cases hc) (fun _ => h_call0 (s26 (p0 := p0) (p1 := p1) (p2 := p2) (rg := rg) (sl := sl) (hs.le hl1) (hkv.le hl1) h0 h1 h2 hr hsl) ?_)⟩
  rintro _ g2 ⟨u, bs, fp, rfl, M, -⟩
  have hl2 := hl1.trans M.kept.le_nil
  have huat := M.own.at
  obtain ⟨P, R, S, hP, hR, hS, b1, b2, b3, b4, b5, b6, hck, hok, hb1, hb2⟩ := made_code h0 h2 hr hsl M
  rw [hP, hR, hS]
  refine ⟨[.int .i64 (P : Int), .int .i64 (R : Int), .int .i64 (S : Int), u], ⟨⟨_, rfl⟩, ⟨_, rfl⟩, ⟨_, rfl⟩, huat.fit, trivial⟩, rfl, ?_⟩
  simp only [List.cons_append, List.nil_append]
  refine h_call0 (s17 (p := P) (fuel := fuel) (ha.le hl2) (hm.le hl2) (hn.le hl2) (by omega)) ?_
  rintro _ g3 ⟨u', m', n', rfl, hl3, iu, im, inn⟩
  have hl3' := hl2.trans hl3
  refine ⟨[u', m', n', .int .i64 (fuelM fuel)], ⟨iu.fit, im.fit, inn.fit, ⟨_, rfl⟩, trivial⟩, rfl, ?_⟩
  simp only [List.cons_append, List.nil_append]
  have hfr := fuelM_range fuel
  have hB3 := SlAt.le blkC_mono hl3 huat
  refine h_callO2 (Q := fun t e h' => g3.le h' ∧ CallsOk t ∧ ExecSpec P R S bs (inArgs args P) (mem.take 100) (ans.take 100) (fuelM fuel) e t) ((s30 (p := P) (r := R) (s := S) (fuel := fuelM fuel) hB3 iu im inn).post fun r h' q => q) ?_
  rintro t e cv g4 m1 c1 ⟨hl4, hco, hsp⟩
  obtain ⟨rfl, hrun⟩ := exec_made hck hfr (inArgs_len args P) hsp
  obtain ⟨A, hA⟩ : ∃ A, A = [Value.int .u8 p0, .int .u8 p1, .int .u8 p2, vs, .int .u8 rg, .int .u8 sl, kv, av, mv, nv, .int .i64 fuel, .bool true, .int .i64 (P : Int), .int .i64 (R : Int), .int .i64 (S : Int), u, u', m', n', .int .i64 (fuelM fuel)] := ⟨_, rfl⟩
  rw [← hA]
  have hAl : A.length = 20 := by rw [hA]; rfl
  have e84 := gOe (A := A) (B := [.int .i64 0]) (cv := cv) (j := 0) hAl m1
  refine iteT (by rw [eq_cond e84]; rfl) ?_
  have gA : ∀ (D : List Value) (i : Nat), i < 20 → gv (A ++ D) i = gv A i := fun D i hi => gv_of_lt (by omega)
  refine h_callO (Q := fun t' h' => g4.le h' ∧ SameO t t') ?_ ?_
  · have := s20 (R := R) (S := S) (first := R) (fuel := fuelM fuel) (SlAt.le blkC_mono hl4 hB3) (iu.le hl4) (im.le hl4) (inn.le hl4) hok hb1 (by omega) (by omega) (by rw [inArgs_len]; omega) (by omega)
    simp only [SV.denL, SV.den, X.den]
    rw [gA _ 13 (by omega), gA _ 14 (by omega), gA _ 15 (by omega), gA _ 16 (by omega), gA _ 17 (by omega), gA _ 18 (by omega), gA _ 19 (by omega), hA]
    refine this.post fun r h' ⟨q1, t', q2, q3⟩ => ⟨t', q3.at_, q1.le_nil, ?_⟩
    rw [hrun.same q2]; exact ⟨rfl, rfl, rfl, rfl, rfl⟩
  rintro t' cv' g5 m2 c2 ⟨hl5, hso⟩
  have eG : A ++ (outC t cv ++ [.int .i64 0]) ++ outC t' cv' = A ++ (outC t cv ++ ([.int .i64 0] ++ (outC t' cv' ++ []))) := by simp
  refine h_same (A := A) (M := [.int .i64 0]) (D := []) eG m1 m2 (SlAt.le callC_mono hl5 c1) c2 hso hco (by rw [hAl]; rfl) (by rw [hAl]; rfl) ?_
  have hGl : (A ++ (outC t cv ++ [Value.int .i64 0]) ++ outC t' cv').length = 157 := by simp [hAl, outC_len m1, outC_len m2]
  generalize A ++ (outC t cv ++ [Value.int .i64 0]) ++ outC t' cv' = GG at hGl ⊢
  refine ⟨rfl, (hl3'.trans hl4).trans hl5, ?_⟩
  simp only [SV.den, X.den]
  rw [gv_at (j := 0) (by omega)]; rfl
namespace execExecs
theorem own : ownKnob Try.prog.godebug = none := by kernel_rfl
set_option maxRecDepth 100000 in
theorem laidOut : laidOutB Try.prog = true := by kernel_rfl
set_option maxRecDepth 100000 in
theorem contract (H : Type) (enc : TypeId × Value → H) (W : World) (base : Nat) (args : Array Value) (ds gs : List (DataW H)) (before : List MemPlace)
    (hval : ∀ (j : Nat) t v, Try.f11.params[j]? = some t → args[j]? = some v → Value.okWide Try.prog W .any base t v)
    (hW : DataW.Whole enc Try.prog Try.f11.params.toList Rows.execExecsSpec.vars false W args.toList ds gs before) :
    Calls Try.prog 11 args W fun e W' => ∃ v, e = .returned v ∧ Rows.execExecsSpec.post enc Try.prog Try.f11 false true false false W args v W' := by
  have hW' := hW
  obtain ⟨p, q, hA, hV, rfl, hfz, hnd⟩ := hW
  rw [Try.params11] at hA hval
  obtain ⟨v0, vs0, d0, ds0, p0, q0, hargs, rfl, rfl, h0, r0⟩ := trodAll_cons hA
  obtain ⟨v1, vs1, d1, ds1, p1, q1, rfl, rfl, rfl, h1, r1⟩ := trodAll_cons r0
  obtain ⟨v2, vs2, d2, ds2, p2, q2, rfl, rfl, rfl, h2, r2⟩ := trodAll_cons r1
  obtain ⟨v3, vs3, d3, ds3, p3, q3, rfl, rfl, rfl, h3, r3⟩ := trodAll_cons r2
  obtain ⟨v4, vs4, d4, ds4, p4, q4, rfl, rfl, rfl, h4, r4⟩ := trodAll_cons r3
  obtain ⟨rfl, rfl, rfl⟩ := trodAll_nil r4
  obtain rfl : args = #[v0, v1, v2, v3, v4] := by cases args; simp_all
  obtain ⟨cs0, rfl, -⟩ := okWide_struct Try.underlying24 (hval 0 24 v0 rfl rfl)
  obtain ⟨p0, p1, p2, vs, l, he0, g0, g1, g2, hs⟩ := rd_spec (Rd.of h0)
  obtain rfl : cs0 = ([Value.int .u8 p0, .int .u8 p1, .int .u8 p2, vs]).toArray := by rw [← he0]; simp [Value.cells]
  obtain ⟨rg, rfl, -, -, wf1⟩ := open_int Try.underlying5 (hval 1 5 v1 rfl rfl) h1
  obtain ⟨sl, rfl, -, -, wf2⟩ := open_int Try.underlying5 (hval 2 5 v2 rfl rfl) h2
  obtain ⟨a3, n3, c3, rfl⟩ := okWide_slice Try.underlying22 (hval 3 22 v3 rfl rfl)
  obtain ⟨kv, ml, he3, hkv, -⟩ := rd_bytes (Rd.of h3)
  obtain rfl : Value.slice a3 n3 c3 = kv := by simpa [Value.cells] using he3
  obtain ⟨cs4, rfl, -⟩ := okWide_struct Try.underlying27 (hval 4 27 v4 rfl rfl)
  obtain ⟨av, mv, nv, fuel, args, mem, ans, he4, ha, hm, hn⟩ := rd_input (Rd.of h4)
  obtain rfl : cs4 = ([av, mv, nv, Value.int .i64 fuel]).toArray := by rw [← he4]; simp [Value.cells]
  refine (law_calls (f := 11) (args := [.agg ([Value.int .u8 p0, .int .u8 p1, .int .u8 p2, vs]).toArray, .int .u8 rg, .int .u8 sl, .slice a3 n3 c3, .agg ([av, mv, nv, Value.int .i64 fuel]).toArray]) (s11 hs hkv g0 g1 g2 (u8r wf1) (u8r wf2) ha hm hn)).mono ?_
  rintro e' W' ⟨rfl, bel⟩
  exact ⟨_, rfl, law_post laidOut hW' rfl (of_decide_eq_true (by kernel_rfl)) rfl Try.underlying4 rfl bel⟩
set_option maxRecDepth 100000 in
theorem lifted (os : Os) (started : os.Started) (H : Type) (enc : TypeId × Value → H) :
    ReturnsInHanded {} Try.checked os 11 .any (Rows.execExecsSpec.pre6 enc Try.prog Try.f11 Rows.execExecsRow.domain false) (Rows.execExecsSpec.post enc Try.prog Try.f11 false true false false) := by
  refine returnsInHanded_of_change (C := Try.checked) own started (by kernel_rfl) Try.func11
    (ChangeSpec.witness6 (enc := enc) (C := Try.checked) false ⟨#[], #[.agg #[.int .u8 0, .int .u8 0, .int .u8 0, .slice none 0 0], .int .u8 0, .int .u8 0, .slice none 0 0, .agg #[.slice none 0 0, .slice none 0 0, .slice none 0 0, .int .i64 0]], []⟩ 8 (by kernel_rfl) (by kernel_rfl) (by kernel_rfl) (by kernel_rfl)) ?_
  intro W base args ds gs before hval hW _ _
  exact contract H enc W base args ds gs before hval hW
set_option maxRecDepth 100000 in
theorem proved : Rows.ExecExecsSaid :=
  OpenClaim.holds_of_wide 11 Try.f11 rfl rfl rfl rfl rfl rfl rfl ⟨rfl, rfl, rfl, rfl, rfl⟩ rfl rfl rfl rfl rfl (by kernel_rfl) Try.func11 (by kernel_rfl)
    (of_decide_eq_true (by kernel_rfl)) (by unfold Func.isWrapper; first | (rw [if_pos (by decide +kernel)]; kernel_rfl) | (rw [if_neg (by decide +kernel)]; exact ⟨rfl, rfl⟩))
    (fun os started H enc _ => lifted os started H enc)
end execExecs
/-- The row, under a short name, for the claim. -/
theorem execExecsHolds : Rows.ExecExecsSaid := execExecs.proved
#print axioms execExecsHolds
end Go.Proofs.Ytodeffobplpcnaa
