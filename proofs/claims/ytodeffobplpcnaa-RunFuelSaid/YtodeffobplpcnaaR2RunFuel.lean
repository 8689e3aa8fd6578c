/-
  The law RunFuel answers true. Conditions: none.
-/
import Derived.Test.YtodeffobplpcnaaR2N
import Derived.Test.YtodeffobplpcnaaPc
import Derived.Test.YtodeffobplpcnaaRows
set_option linter.unusedVariables false
set_option linter.unusedSimpArgs false
namespace Go.Proofs.Ytodeffobplpcnaa
open Go Go.ChangeShapes Go.WideShapes Go.ChangeAt Go.RowKit

theorem fuel_bad {G : List Value} {i j k l n m : Nat} (e1 : gv G i = .int .i64 0) (e2 : gv G j = .int .i64 0) (e3 : vlen (gv G k) = n) (e4 : vlen (gv G l) = m) (hnm : m ≤ n) :
    vb ((X.ite (.ite (.cmp .neq (.var i) (.lit 0)) (.tt true) (.cmp .neq (.var j) (.lit 0))) (.tt true) (.cmp .lss (.len k) (.len l))).den G) = false := by
  have : ¬ (n : Int) < (m : Int) := by omega
  simp [X.den, e1, e2, e3, e4, vb_ite, cmp_neq, cmp_lss, hnm]
theorem call_bad {G : List Value} {i j k l : Nat} {c d : Int} {n : Nat} (e1 : gv G i = .int .i64 c) (e2 : gv G j = .int .i64 c) (e3 : vlen (gv G k) = n) (e4 : vlen (gv G l) = n) :
    vb ((X.ite (.cmp .neq (.var i) (.var j)) (.tt true) (.cmp .neq (.len k) (.len l))).den G) = false := by
  simp [X.den, e1, e2, e3, e4, vb_ite, cmp_neq]
theorem s6 {h : H} {vs av mv nv : Value} {p0 p1 p2 fuel mo : Int} {l args mem ans : List Int} (hs : BytesAt h vs l) (h0 : 0 ≤ p0) (h1 : 0 ≤ p1) (h2 : 0 ≤ p2) (ha : IntsAt h av args) (hm : IntsAt h mv mem) (hn : IntsAt h nv ans) (hmo : 0 ≤ mo ∧ mo ≤ 255) :
    CallsA Try.prog 6 (fun _ => [.agg #[.int .u8 p0, .int .u8 p1, .int .u8 p2, vs], .agg #[av, mv, nv, .int .i64 fuel], .int .u8 mo]) [] h (Ret fun r h' => h.le h' ∧ r = .bool true) := by
  refine c6 (G := [.int .u8 p0, .int .u8 p1, .int .u8 p2, vs, av, mv, nv, .int .i64 fuel, .int .u8 mo]) ⟨⟨_, rfl⟩, ⟨_, rfl⟩, ⟨_, rfl⟩, hs.fit, ha.fit, hm.fit, hn.fit, ⟨_, rfl⟩, ⟨_, rfl⟩, trivial⟩ ?_
  refine h_call0 s15 ?_
  rintro _ g1 ⟨hl1, rfl⟩
  refine ⟨[.bool true], ⟨⟨_, rfl⟩, trivial⟩, rfl, h_ite (fun hc => by cases hc) (fun _ => h_call0 (s16 (p0 := p0) (p1 := p1) (p2 := p2) (hs.le hl1) h0 h1 h2) ?_)⟩
  rintro _ g2 ⟨hk2, u, fp, rfl, hu, hf, hnd⟩
  have hl2 := hl1.trans hk2.le_nil
  have F := made_fun h0 h1 h2 hs.inB
  refine ⟨[.int .i64 (madeP p0), .int .i64 (madeV p0 p1), u], ⟨⟨_, rfl⟩, ⟨_, rfl⟩, hu.at.fit, trivial⟩, rfl, ?_⟩
  obtain ⟨P, V, hP, hV, hPl, hVl, hPV, hck, hok, hb1, hb2⟩ := F
  rw [hP, hV]
  simp only [List.cons_append, List.nil_append]
  refine h_call0 (s17 (p := P) (fuel := fuel) (ha.le hl2) (hm.le hl2) (hn.le hl2) (by omega)) ?_
  rintro _ g3 ⟨u', m', n', rfl, hl3, iu, im, inn⟩
  have hl3' := hl2.trans hl3
  refine ⟨[u', m', n', .int .i64 (fuelM fuel)], ⟨iu.fit, im.fit, inn.fit, ⟨_, rfl⟩, trivial⟩, rfl, ?_⟩
  simp only [List.cons_append, List.nil_append]
  have hfr := fuelM_range fuel
  have hB3 := SlAt.le blkC_mono hl3 hu.at
  refine h_callO2 (Q := fun t e h' => g3.le h' ∧ CallsOk t ∧ RunSpec P V (madeB p0 p1 p2 l) (inArgs args P) (mem.take 100) (ans.take 100) (fuelM fuel) e t) ((s18 (p := P) (n := V) (fuel := fuelM fuel) hB3 iu im inn).post fun r h' q => q) ?_
  rintro t e cv g4 m1 c1 ⟨hl4, hco, hsp⟩
  obtain ⟨rfl, hrun⟩ := run_made hck hfr (inArgs_len args P) hsp
  obtain ⟨A, hA⟩ : ∃ A, A = [Value.int .u8 p0, .int .u8 p1, .int .u8 p2, vs, av, mv, nv, .int .i64 fuel, .int .u8 mo, .bool true, .int .i64 (P : Int), .int .i64 (V : Int), u, u', m', n', .int .i64 (fuelM fuel)] := ⟨_, rfl⟩
  rw [← hA]
  have hAl : A.length = 17 := by rw [hA]; rfl
  have gA : ∀ (D : List Value) (i : Nat), i < 17 → gv (A ++ D) i = gv A i := fun D i hi => gv_of_lt (by omega)
  refine h_callO2 (Q := fun t2 e2 h' => g4.le h' ∧ CallsOk t2 ∧ RunSpec P V (madeB p0 p1 p2 l) (inArgs args P) (mem.take 100) (ans.take 100) (fuelM fuel + mo) e2 t2) ?_ ?_
  · have := s18 (p := P) (n := V) (fuel := fuelM fuel + mo) (SlAt.le blkC_mono hl4 hB3) (iu.le hl4) (im.le hl4) (inn.le hl4)
    have ef : intOp .add .i64 (fuelM fuel) (IntKind.i64.wrap mo) = fuelM fuel + mo := by
      simp only [intOp]; rw [wrap_i64 (n := mo) (by omega) (by omega), wrap_i64 (by omega) (by omega)]
    simp only [SV.denL, SV.den, X.den]
    rw [gA _ 8 (by omega), gA _ 10 (by omega), gA _ 11 (by omega), gA _ 12 (by omega), gA _ 13 (by omega), gA _ 14 (by omega), gA _ 15 (by omega), gA _ 16 (by omega), hA]
    rw [← ef] at this ⊢
    exact this.post fun r h' q => q
  rintro t2 e2 cv2 g5 m2 c2 ⟨hl5, hco2, hsp2⟩
  obtain ⟨rfl, hrun2⟩ := run_madeF hck (by omega) (inArgs_len args P) hsp2
  have hend := hrun.ended rfl
  obtain ⟨q1, q2⟩ := hrun.more (m := mo) hmo.1 hfr.1 hrun2
  have hle : t.calls.length ≤ t2.calls.length := q2.length_le
  have e1 := gOe (A := A) (B := [Value.int .i64 0] ++ (outC t2 cv2 ++ [.int .i64 0])) (cv := cv) (j := 0) hAl m1
  have eG : A ++ (outC t cv ++ [Value.int .i64 0]) ++ (outC t2 cv2 ++ [.int .i64 0]) = A ++ (outC t cv ++ ([.int .i64 0] ++ (outC t2 cv2 ++ [.int .i64 0]))) := by simp
  have hAl2 : (A ++ (outC t cv ++ [Value.int .i64 0])).length = 86 := by simp [hAl, outC_len m1]
  have f88 := gO (A := A ++ (outC t cv ++ [.int .i64 0])) (B := [.int .i64 0]) (cv := cv2) (i := 2) hAl2 m2 (by omega)
  have f154 := gOe (A := A ++ (outC t cv ++ [.int .i64 0])) (B := [.int .i64 0]) (cv := cv2) (j := 0) hAl2 m2
  have f17 := gO (A := A) (B := [Value.int .i64 0] ++ (outC t2 cv2 ++ [.int .i64 0])) (cv := cv) (i := 0) hAl m1 (by omega)
  have f18 := gO (A := A) (B := [Value.int .i64 0] ++ (outC t2 cv2 ++ [.int .i64 0])) (cv := cv) (i := 1) hAl m1 (by omega)
  have f19 := gO (A := A) (B := [Value.int .i64 0] ++ (outC t2 cv2 ++ [.int .i64 0])) (cv := cv) (i := 2) hAl m1 (by omega)
  have f84 := gO (A := A) (B := [Value.int .i64 0] ++ (outC t2 cv2 ++ [.int .i64 0])) (cv := cv) (i := 67) hAl m1 (by omega)
  obtain ⟨u0, u1, u2, u67⟩ := outC_gv (s := t) (cv := cv) m1
  obtain ⟨-, -, v2, -⟩ := outC_gv (s := t2) (cv := cv2) m2
  have f8 : gv (A ++ (outC t cv ++ [Value.int .i64 0]) ++ (outC t2 cv2 ++ [.int .i64 0])) 8 = .int .u8 mo := by rw [eG, gA _ 8 (by omega), hA]; rfl
  rw [← eG] at e1 f17 f18 f19 f84
  rw [u0] at f17
  rw [u1] at f18
  rw [u2] at f19
  rw [u67] at f84
  rw [v2] at f88
  have d2 : ∀ E : Nat → CE, SV.denL (A ++ (outC t cv ++ [Value.int .i64 0]) ++ (outC t2 cv2 ++ [.int .i64 0])) E (Sh.svs 86 outSh) = outC t2 cv2 := fun E => by
    rw [← List.append_assoc]
    exact den_part (outC_fit m2 c2.fit) (by rw [hAl2])
  have d1 : ∀ E : Nat → CE, SV.denL (A ++ (outC t cv ++ [Value.int .i64 0]) ++ (outC t2 cv2 ++ [.int .i64 0])) E (Sh.svs 17 outSh0) = outC0 t cv := fun E => by
    have : A ++ (outC t cv ++ [Value.int .i64 0]) ++ (outC t2 cv2 ++ [.int .i64 0]) = A ++ outC0 t cv ++ ([.int .i64 t.left] ++ ([Value.int .i64 0] ++ (outC t2 cv2 ++ [.int .i64 0]))) := by rw [outC_eq]; simp
    rw [this]
    exact den_part (outC0_fit m1 c1.fit) (by rw [hAl])
  have hGl : (A ++ (outC t cv ++ [Value.int .i64 0]) ++ (outC t2 cv2 ++ [Value.int .i64 0])).length = 155 := by simp [hAl, outC_len m1, outC_len m2]
  generalize A ++ (outC t cv ++ [Value.int .i64 0]) ++ (outC t2 cv2 ++ [.int .i64 0]) = G at e1 f8 f17 f18 f19 f84 f88 f154 d1 d2 hGl ⊢
  have hcl := c1.len
  have hcl2 := c2.len
  have hle5 := (hl3'.trans hl4).trans hl5
  refine iteF (fuel_bad (n := t2.calls.length) (m := t.calls.length) e1 f154 (by rw [f88]; exact hcl2) (by rw [f19]; exact hcl) hle) ?_
  refine h_ite (fun hc => ?_) (fun hc => ?_)
  · simp only [X.den] at hc
    rw [f17] at hc
    replace hc : cmpOp .neq t.how 3 = true := hc
    rw [cmp_neq, decide_eq_true_eq] at hc
    have ht := q1 hc
    subst ht
    refine h_call0 (Q := fun r h' => h' = g5 ∧ r = .bool true) ?_ ?_
    · have := s19 (h := g5) (s := addL t mo) (t := addL t mo) ⟨cv, rfl, m1, SlAt.le callC_mono hl5 c1⟩ ⟨cv2, rfl, m2, c2⟩ ⟨rfl, rfl, rfl, rfl, rfl⟩ hco2
      have hlr : 0 ≤ t.left ∧ t.left ≤ 10000 := by
        have hgood := (hrun.calls (m := V) (F := fuelM fuel) hok (fun c hc => by cases hc) ⟨places0_len (by rw [inArgs_len]; omega), by simp only [start, List.length_nil]; omega⟩).2.lf
        omega
      have k1 : ∀ E : Nat → CE, SV.denL G E (Sh.svs 17 outSh0 ++ [.int .i64 (.op .add .i64 (.var 84) (.conv .i64 (.var 8)))]) = outC (addL t mo) cv := fun E => by
        rw [denL_app, d1]
        simp only [SV.denL, SV.den, X.den, f84, f8, vi_int, intOp]
        rw [wrap_i64 (n := mo) (by omega) (by omega), wrap_i64 (by omega) (by omega)]
        rfl
      have k : (fun e : Nat → CE => SV.denL G (fun j => e (kIdx [] j)) [.agg (Sh.svs 17 outSh0 ++ [.int .i64 (.op .add .i64 (.var 84) (.conv .i64 (.var 8)))]), .agg (Sh.svs 86 outSh)]) = fun _ => [Value.agg (outC (addL t mo) cv).toArray, Value.agg (outC (addL t mo) cv2).toArray] := by
        funext E
        simp only [SV.denL, SV.den, k1, d2]
      rw [← k] at this
      exact this
    · rintro _ _ ⟨rfl, rfl⟩
      refine ⟨[.bool true], ⟨⟨_, rfl⟩, trivial⟩, rfl, rfl, hle5, ?_⟩
      simp only [SV.den, X.den]
      rw [gv_at (j := 0) (by omega)]; rfl
  · simp only [X.den] at hc
    rw [f17] at hc
    replace hc : cmpOp .neq t.how 3 = false := hc
    rw [cmp_neq, decide_eq_false_iff_not, Decidable.not_not] at hc
    refine h_range (n := t.calls.length) (fun i h' => h' = g5) (by rw [f19]; exact hcl) (by omega) hGl (by have := hco.1; omega) rfl ?_ ?_
    · rintro i h' J hi rfl hJ
      have hx : t.calls[i]? = some t.calls[i] := List.getElem?_eq_getElem hi
      have hx2 : t2.calls[i]? = some t.calls[i] := by
        obtain ⟨z, hz⟩ := q2
        rw [← hz, List.getElem?_append_left hi]; exact hx
      generalize t.calls[i] = c at hx hx2
      obtain ⟨_, ⟨q, rfl, hq⟩, hr⟩ := (SlAt.le callC_mono hl5 c1).get i c hx
      obtain ⟨_, ⟨w, rfl, hw⟩, hr2⟩ := c2.get i c hx2
      have hql := hq.len
      have hwl := hw.len
      have g0 : ∀ (D : List Value) (j : Nat), j < 155 → gv (G ++ D) j = gv G j := fun D j hj => gv_of_lt (by omega)
      have g5' : ∀ (D : List Value) (m : Nat), gv (G ++ D) (155 + m) = gv D m := fun D m => gv_at (by omega)
      refine h_load [.int .i64 c.1, q] ⟨⟨_, rfl⟩, hq.fit, trivial⟩ (fun _ => ?_) ?_
      · simp only [PE.den, X.den]
        rw [g0 _ 19 (by omega), f19, g5' _ 0]; exact hr
      have e1 : G ++ [Value.int .i64 (i : Int)] ++ [.int .i64 c.1, q] = G ++ [.int .i64 (i : Int), .int .i64 c.1, q] := by simp
      rw [e1]
      have nd : ∀ D : List Value, needs (G ++ (.int .i64 (i : Int) :: D)) [(.cmp .geq (.var 155) (.lit 0)), (.cmp .lss (.var 155) (.len 88))] := fun D => by
        refine needI (x := (i : Int)) (n := t2.calls.length) (g5' _ 0) ?_ ⟨by omega, by omega⟩
        rw [g0 _ 88 (by omega), f88]; exact hcl2
      refine ⟨fun _ => nd _, h_load [.int .i64 c.1] ⟨⟨_, rfl⟩, trivial⟩ (fun _ => ?_) ?_⟩
      · simp only [PE.den, X.den]
        rw [g0 _ 88 (by omega), f88, g5' _ 0]
        exact hr2.sub (fun j v hj => by obtain ⟨rfl, rfl⟩ := get_one hj; rfl)
      have e2 : G ++ [Value.int .i64 (i : Int), .int .i64 c.1, q] ++ [.int .i64 c.1] = G ++ [.int .i64 (i : Int), .int .i64 c.1, q, .int .i64 c.1] := by simp
      rw [e2]
      refine ⟨fun _ => nd _, h_load [w] ⟨hw.fit, trivial⟩ (fun _ => ?_) ?_⟩
      · simp only [PE.den, X.den]
        rw [g0 _ 88 (by omega), f88, g5' _ 0]
        exact hr2.sub (fun j v hj => by obtain ⟨rfl, rfl⟩ := get_one hj; rfl)
      have e3 : G ++ [Value.int .i64 (i : Int), .int .i64 c.1, q, .int .i64 c.1] ++ [w] = G ++ [.int .i64 (i : Int), .int .i64 c.1, q, .int .i64 c.1, w] := by simp
      rw [e3]
      refine iteF (call_bad (c := c.1) (d := 0) (n := c.2.length) (g5' _ 1) (g5' _ 3) (by rw [g5' _ 2]; exact hql) (by rw [g5' _ 4]; exact hwl)) ?_
      show J _ _
      simp only [SV.denL, SV.den, X.den]
      rw [g5' _ 0]
      exact hJ _ rfl
    · rintro h' J rfl
      refine ⟨rfl, hle5, ?_⟩
      have hl0 := hend.starved hc
      have hv0 : t.value = 0 := hend.value.resolve_left (by rw [hc]; decide)
      refine congrArg Value.bool (both_ok (i := 84) (j := 18) ?_ ?_)
      · rw [gv_of_lt (by omega), f84, hl0]
      · rw [gv_of_lt (by omega), f18, hv0]
namespace runFuel
theorem own : ownKnob Try.prog.godebug = none := by kernel_rfl
set_option maxRecDepth 100000 in
theorem laidOut : laidOutB Try.prog = true := by kernel_rfl
set_option maxRecDepth 100000 in
theorem contract (H : Type) (enc : TypeId × Value → H) (W : World) (base : Nat) (args : Array Value) (ds gs : List (DataW H)) (before : List MemPlace)
    (hval : ∀ (j : Nat) t v, Try.f6.params[j]? = some t → args[j]? = some v → Value.okWide Try.prog W .any base t v)
    (hW : DataW.Whole enc Try.prog Try.f6.params.toList Rows.runFuelSpec.vars false W args.toList ds gs before) :
    Calls Try.prog 6 args W fun e W' => ∃ v, e = .returned v ∧ Rows.runFuelSpec.post enc Try.prog Try.f6 false true false false W args v W' := by
  have hW' := hW
  obtain ⟨p, q, hA, hV, rfl, hfz, hnd⟩ := hW
  rw [Try.params6] at hA hval
  obtain ⟨v0, vs0, d0, ds0, p0, q0, hargs, rfl, rfl, h0, r0⟩ := trodAll_cons hA
  obtain ⟨v1, vs1, d1, ds1, p1, q1, rfl, rfl, rfl, h1, r1⟩ := trodAll_cons r0
  obtain ⟨v2, vs2, d2, ds2, p2, q2, rfl, rfl, rfl, h2, r2⟩ := trodAll_cons r1
  obtain ⟨rfl, rfl, rfl⟩ := trodAll_nil r2
  obtain rfl : args = #[v0, v1, v2] := by cases args; simp_all
  obtain ⟨cs0, rfl, -⟩ := okWide_struct Try.underlying24 (hval 0 24 v0 rfl rfl)
  obtain ⟨p0, p1, p2, vs, l, he0, g0, g1, g2, hs⟩ := rd_spec (Rd.of h0)
  obtain rfl : cs0 = ([Value.int .u8 p0, .int .u8 p1, .int .u8 p2, vs]).toArray := by rw [← he0]; simp [Value.cells]
  obtain ⟨cs1, rfl, -⟩ := okWide_struct Try.underlying27 (hval 1 27 v1 rfl rfl)
  obtain ⟨av, mv, nv, fuel, args, mem, ans, he1, ha, hm, hn⟩ := rd_input (Rd.of h1)
  obtain rfl : cs1 = ([av, mv, nv, Value.int .i64 fuel]).toArray := by rw [← he1]; simp [Value.cells]
  obtain ⟨mo, rfl, -, -, wf2⟩ := open_int Try.underlying5 (hval 2 5 v2 rfl rfl) h2
  refine (law_calls (f := 6) (args := [.agg ([Value.int .u8 p0, .int .u8 p1, .int .u8 p2, vs]).toArray, .agg ([av, mv, nv, Value.int .i64 fuel]).toArray, .int .u8 mo]) (s6 hs g0 g1 g2 ha hm hn (u8r wf2))).mono ?_
  rintro e' W' ⟨rfl, bel⟩
  exact ⟨_, rfl, law_post laidOut hW' rfl (of_decide_eq_true (by kernel_rfl)) rfl Try.underlying4 rfl bel⟩
set_option maxRecDepth 100000 in
theorem lifted (os : Os) (started : os.Started) (H : Type) (enc : TypeId × Value → H) :
    ReturnsInHanded {} Try.checked os 6 .any (Rows.runFuelSpec.pre6 enc Try.prog Try.f6 Rows.runFuelRow.domain false) (Rows.runFuelSpec.post enc Try.prog Try.f6 false true false false) := by
  refine returnsInHanded_of_change (C := Try.checked) own started (by kernel_rfl) Try.func6
    (ChangeSpec.witness6 (enc := enc) (C := Try.checked) false ⟨#[], #[.agg #[.int .u8 0, .int .u8 0, .int .u8 0, .slice none 0 0], .agg #[.slice none 0 0, .slice none 0 0, .slice none 0 0, .int .i64 0], .int .u8 0], []⟩ 8 (by kernel_rfl) (by kernel_rfl) (by kernel_rfl) (by kernel_rfl)) ?_
  intro W base args ds gs before hval hW _ _
  exact contract H enc W base args ds gs before hval hW
set_option maxRecDepth 100000 in
theorem proved : Rows.RunFuelSaid :=
  OpenClaim.holds_of_wide 6 Try.f6 rfl rfl rfl rfl rfl rfl rfl ⟨rfl, rfl, rfl, rfl, rfl⟩ rfl rfl rfl rfl rfl (by kernel_rfl) Try.func6 (by kernel_rfl)
    (of_decide_eq_true (by kernel_rfl)) (by unfold Func.isWrapper; first | (rw [if_pos (by decide +kernel)]; kernel_rfl) | (rw [if_neg (by decide +kernel)]; exact ⟨rfl, rfl⟩))
    (fun os started H enc _ => lifted os started H enc)
end runFuel
/-- The row, under a short name, for the claim. -/
theorem runFuelHolds : Rows.RunFuelSaid := runFuel.proved
#print axioms runFuelHolds
end Go.Proofs.Ytodeffobplpcnaa
