/-
  The law ColourRefuses answers true. Conditions: none.
-/
import Derived.Test.YtbgfabppmobpgaaDoorR6Ch
import Derived.Test.YtbgfabppmobpgaaDoorR6Tm
import Derived.Test.YtbgfabppmobpgaaDoorR6Lay
set_option linter.unusedVariables false
set_option linter.unusedSimpArgs false
namespace Go.Proofs.YtbgfabppmobpgaaDoor
open Go Go.ChangeShapes Go.WideShapes Go.ChangeAt Go.RowKit

theorem s8 {h : H} {ve vm fv : Value} {n k : Int} {E M : EdgeL} {firm : List Bool} (ht : Tab h) (he : EdgesAt h ve E) (hm : EdgesAt h vm M) (hfv : BoolsAt h fv firm) :
    CallsA Tryd.prog 8 (fun _ => [.agg #[.int .i64 n, ve, vm], .int .i64 k, fv]) [] h (Ret fun r h' => h.le h' ∧ r = .bool true) := by
  refine c8 (G := [.int .i64 n, ve, vm, .int .i64 k, fv]) ⟨⟨_, rfl⟩, he.fit, hm.fit, ⟨_, rfl⟩, hfv.fit, trivial⟩ ?_
  refine h_call0 (s19 ht) ?_
  rintro _ h1 ⟨l1, rfl⟩
  refine ⟨[.bool true], ⟨⟨_, rfl⟩, trivial⟩, rfl, iteF rfl ?_⟩
  simp only [List.cons_append, List.nil_append]
  have hel := he.len
  have hml := hm.len
  have hfl := hfv.len
  refine h_ite (fun hc => ⟨rfl, l1, rfl⟩) (fun hc => ?_)
  simp only [holds, X.den, PE.den, SV.den, SV.denL, NK.val, NK.sv, NK.pub, gv_zero, gv_succ, vi_int, vb_bool, vlen_sl, vaddr_ptr, vb_ite, vi_ite, cmp_eql, cmp_neq, cmp_lss, cmp_leq, cmp_gtr, cmp_geq, List.map_nil, List.map_cons, List.cons_append, List.nil_append, List.flatten_nil, needs, Ret, true_and, and_true, decide_eq_true_eq, forall_const, intOp, hel, hml, hfl] at hc
  have b1 : E.length ≤ 200 := by grind
  have b2 : M.length ≤ 200 := by grind
  clear hc
  obtain ⟨g, hg⟩ : ∃ g : Gr, g = ⟨n, E, M⟩ := ⟨_, rfl⟩
  have hgn : g.n = n := by rw [hg]
  have K : GrAt h1 ve vm g := by rw [hg]; exact ⟨EdgesAt.le l1 he, EdgesAt.le l1 hm, by show E.length ≤ _; omega, by show M.length ≤ _; omega⟩
  clear hg
  rw [← hgn]
  have hfv1 := SlAt.le boolC_mono l1 hfv
  refine h_call0 (s20 (k := k) (ht.le l1) K hfv1) ?_
  rintro r h2 ⟨l2, hq⟩
  obtain ⟨rv, er, rfl, hf, hZ⟩ : ∃ rv er, r = .tuple #[rv, .int .i64 er] ∧ Fits .sl rv ∧ (((g.ok = false ∨ ¬ (firm.length : Int) = g.n) ∧ er = 30 ∧ rv = .slice none 0 0) ∨ (g.ok = true ∧ (firm.length : Int) = g.n ∧ (k < 1 ∨ 8 < k) ∧ er = 40 ∧ rv = .slice none 0 0) ∨
      (g.ok = true ∧ (firm.length : Int) = g.n ∧ 1 ≤ k ∧ k ≤ 8 ∧ er = 0 ∧ ∃ w, IntsAt h2 rv (w.out k.toNat) ∧ CEnd g k.toNat firm w)) := by
    unfold ColR at hq
    by_cases q1 : (!g.ok || decide ((firm.length : Int) ≠ g.n)) = true
    · rw [if_pos q1] at hq
      refine ⟨_, _, hq, fits_nil, .inl ⟨?_, rfl, rfl⟩⟩
      simpa using q1
    · rw [if_neg q1] at hq
      have q2 : g.ok = true ∧ (firm.length : Int) = g.n := by simpa using q1
      by_cases q3 : k < 1 ∨ 8 < k
      · rw [if_pos q3] at hq
        exact ⟨_, _, hq, fits_nil, .inr (.inl ⟨q2.1, q2.2, q3, rfl, rfl⟩)⟩
      · rw [if_neg q3] at hq
        obtain ⟨v, f, w, hr, k1, -, EE⟩ := hq
        exact ⟨v, 0, hr, k1.row0.fit, .inr (.inr ⟨q2.1, q2.2, by omega, by omega, rfl, w, rowF_ints k1, EE⟩)⟩
  clear hq
  refine ⟨[rv, .int .i64 er], ⟨hf, ⟨_, rfl⟩, trivial⟩, rfl, ?_⟩
  simp only [List.cons_append, List.nil_append]
  refine h_call0 (s18 (K.le l2)) ?_
  rintro _ h3 ⟨e3, rfl⟩
  have e3' := e3.symm
  subst e3'
  refine ⟨[.bool g.ok], ⟨⟨_, rfl⟩, trivial⟩, rfl, ?_⟩
  simp only [List.cons_append, List.nil_append]
  have l12 := l1.trans l2
  obtain ⟨ok, eok⟩ : ∃ ok, ok = g.ok := ⟨_, rfl⟩
  rw [← eok] at hZ ⊢
  have key : ∀ r, vb ((X.cmp .eql (.var 7) (.ite (.ite (.not (.var 8)) (.tt true) (.cmp .neq (.len 4) (.var 0))) (.lit 30) (.ite (.ite (.cmp .lss (.var 3) (.lit 1)) (.tt true) (.cmp .gtr (.var 3) (.lit 8))) (.lit 40) (.lit 0)))).den [.int .i64 g.n, ve, vm, .int .i64 k, fv, .bool true, rv, .int .i64 er, .bool ok]) = r → r = true := fun r hr => by
    rw [← hr]
    show cmpOp .eql er (vi (if vb (if (!ok) = true then Value.bool true else .bool (cmpOp .neq ((vlen fv : Nat) : Int) g.n)) = true then Value.int .i64 30 else if vb (if cmpOp .lss k 1 = true then Value.bool true else .bool (cmpOp .gtr k 8)) = true then Value.int .i64 40 else .int .i64 0)) = true
    rw [hfl, cmp_neq, cmp_lss, cmp_gtr, cmp_eql, decide_eq_true_eq]
    clear hf hr
    rcases hZ with ⟨q1, rfl, -⟩ | ⟨q1, q2, q3, rfl, -⟩ | ⟨q1, q2, q3, q4, rfl, -⟩
    · rcases q1 with q1 | q1
      · rw [q1]; rfl
      · rw [decide_eq_true q1]; cases ok <;> rfl
    · rw [q1, decide_eq_false (by simpa using q2)]
      by_cases a1 : k < 1
      · rw [decide_eq_true a1]; rfl
      · rw [decide_eq_false a1, decide_eq_true (by omega)]; rfl
    · rw [q1, decide_eq_false (by simpa using q2), decide_eq_false (by omega), decide_eq_false (by omega)]; rfl
  refine h_ite (fun _ => ?_) (fun hc => by cases key _ hc)
  clear key
  rcases hZ with ⟨q1, rfl, rfl⟩ | ⟨q1, q2, q3, rfl, rfl⟩ | ⟨q1, q2, q3, q4, rfl, w, q5, EE⟩
  · exact iteF rfl ⟨rfl, l12, rfl⟩
  · exact iteF rfl ⟨rfl, l12, rfl⟩
  · have hok : g.ok = true := by rw [← eok]; exact q1
    refine iteT rfl (iteT rfl ?_)
    obtain ⟨κ, hκ⟩ : ∃ κ : Nat, k = (κ : Int) := ⟨k.toNat, by omega⟩
    subst hκ
    rw [Int.toNat_natCast] at q5 EE
    refine h_call0 (s15 (k := (κ : Int)) (K.le l2) hok q5 (EE.col hok).len (EE.okTo hok)) ?_
    rintro _ h4 ⟨e4, rfl⟩
    exact ⟨[.bool true], ⟨⟨_, rfl⟩, trivial⟩, rfl, rfl, by rw [e4]; exact l12, rfl⟩
namespace colourRefuses
theorem own : ownKnob Tryd.prog.godebug = none := by kernel_rfl
set_option maxRecDepth 100000 in
theorem laidOut : laidOutB Tryd.prog = true := by kernel_rfl
set_option maxRecDepth 100000 in
theorem contract (H : Type) (enc : TypeId × Value → H) (W : World) (base : Nat) (args : Array Value) (ds gs : List (DataW H)) (before : List MemPlace)
    (hval : ∀ (j : Nat) t v, Tryd.f8.params[j]? = some t → args[j]? = some v → Value.okWide Tryd.prog W .any base t v)
    (hW : DataW.Whole enc Tryd.prog Tryd.f8.params.toList Rows.colourRefusesSpec.vars false W args.toList ds gs before) (hL : laidMetH Tryd.prog laid1 W) :
    Calls Tryd.prog 8 args W fun e W' => ∃ v, e = .returned v ∧ Rows.colourRefusesSpec.post enc Tryd.prog Tryd.f8 false true false false W args v W' := by
  have hW' := hW
  obtain ⟨p, q, hA, hV, rfl, hfz, hnd⟩ := hW
  rw [Tryd.params8] at hA hval
  obtain ⟨v0, vs0, d0, ds0, p0, q0, hargs, rfl, rfl, h0, r0⟩ := trodAll_cons hA
  obtain ⟨v1, vs1, d1, ds1, p1, q1, rfl, rfl, rfl, h1, r1⟩ := trodAll_cons r0
  obtain ⟨v2, vs2, d2, ds2, p2, q2, rfl, rfl, rfl, h2, r2⟩ := trodAll_cons r1
  obtain ⟨rfl, rfl, rfl⟩ := trodAll_nil r2
  obtain rfl : args = #[v0, v1, v2] := by cases args; simp_all
  obtain ⟨cs0, rfl, -⟩ := okWide_struct Tryd.underlying27 (hval 0 27 v0 rfl rfl)
  obtain ⟨n, ve, E, vm, M, he0, hE, hM⟩ := rd_graph (Rd.of h0)
  obtain rfl : cs0 = ([Value.int .i64 n, ve, vm]).toArray := by rw [← he0]; simp [Value.cells]
  obtain ⟨k, rfl, -, -, wf1⟩ := open_int Tryd.underlying3 (hval 1 3 v1 rfl rfl) h1
  obtain ⟨a2, n2, c2, rfl⟩ := okWide_slice Tryd.underlying46 (hval 2 46 v2 rfl rfl)
  obtain ⟨fv, fl, he2, hfv⟩ := rd_bools (Rd.of h2)
  obtain rfl : Value.slice a2 n2 c2 = fv := by simpa [Value.cells] using he2
  refine (law_calls (f := 8) (args := [.agg ([Value.int .i64 n, ve, vm]).toArray, .int .i64 k, .slice a2 n2 c2]) (s8 (tab_of hL) hE hM hfv)).mono ?_
  rintro e' W' ⟨rfl, bel⟩
  exact ⟨_, rfl, law_post laidOut hW' rfl (of_decide_eq_true (by kernel_rfl)) rfl Tryd.underlying4 rfl bel⟩
set_option maxRecDepth 100000 in
theorem lifted (os : Os) (started : os.Started) (H : Type) (enc : TypeId × Value → H) :
    ReturnsInHanded {} Tryd.checked os 8 .any (fun w args => (Rows.colourRefusesSpec.pre enc Tryd.prog Tryd.f8 [] false w args ∧ laidMetH Tryd.prog laid1 w) ∧ sizedMet enc Tryd.prog Tryd.f8 (OpenSpec.ofChange Rows.colourRefusesSpec) false w args)
      (Rows.colourRefusesSpec.post enc Tryd.prog Tryd.f8 false true false false) := by
  refine returnsInHanded_of_change_and (C := Tryd.checked) (X := fun w _ => laidMetH Tryd.prog laid1 w) (fun _ _ _ hh h => h.of_heap hh) own started (by kernel_rfl) Tryd.func8
    (ChangeSpec.witness_shaped (enc := enc) (C := Tryd.checked) (os := os) (X := fun w _ => laidMetH Tryd.prog laid1 w) false (World.laidAll Tryd.prog os laid1) #[.agg #[.int .i64 0, .slice none 0 0, .slice none 0 0], .int .i64 0, .slice none 0 0] 8 (World.laidAll_os _ _ _)
      (World.shaped_of_ZipB (by kernel_rfl) (by kernel_rfl)) (by kernel_rfl) (by kernel_rfl) (by kernel_rfl)
      (by rw [MakeChecks.laidMetH_plain _ _ _ (by kernel_rfl)]; exact laidMet_laidAll _ (by kernel_rfl) (by kernel_rfl))) ?_
  intro W base args ds gs before hval hW _ _ hL _
  exact contract H enc W base args ds gs before hval hW hL
set_option maxRecDepth 100000 in
theorem proved : Rows.ColourRefusesSaid :=
  OpenClaim.holds_of_wide 8 Tryd.f8 rfl rfl rfl rfl rfl rfl rfl ⟨rfl, rfl, rfl, rfl, rfl⟩ rfl rfl rfl rfl rfl (by kernel_rfl) Tryd.func8 (by kernel_rfl)
    (of_decide_eq_true (by kernel_rfl)) (by unfold Func.isWrapper; first | (rw [if_pos (by decide +kernel)]; kernel_rfl) | (rw [if_neg (by decide +kernel)]; exact ⟨rfl, rfl⟩))
    (fun os started H enc _ => lifted os started H enc)
set_option maxRecDepth 100000 in
theorem card : Rows.ColourRefusesCardSaid :=
  Claim7.holds_tied_plain_at .later [] [.data] true (true, "74a93455e167e44cac747f8244595d2a0244a2ab46c0a069dc415a11e19b33d5") false proved (fun _ h => by cases h) (by kernel_rfl) (fun _ h => by cases h) colourRefuses_row_tie rfl ⟨rfl, rfl⟩ (by kernel_rfl) rfl
    (fun f fn hf hfn => by
      obtain rfl : f = 8 := Option.some.inj ((show Tryd.prog.funcNamed "outworker/outworkerlaw16.ColourRefuses" = some 8 by kernel_rfl).symm.trans hf) |>.symm
      obtain rfl : fn = Tryd.f8 := (Option.some.inj (Tryd.func8.symm.trans hfn)).symm
      exact ⟨by kernel_rfl, fun j t ht => by
        rw [Tryd.params8] at ht
        have hm : t ∈ [27, 3, 46] := by simpa using Array.mem_of_getElem? ht
        have hall : ([27, 3, 46].all fun u => !Tryd.prog.wantsStandIn u) = true := by kernel_rfl
        exact (show Tryd.prog.wantsStandIn t = false by simpa using List.all_eq_true.1 hall t hm)⟩)
    (by kernel_rfl)
end colourRefuses
/-- The row, under a short name, for the claim. -/
theorem colourRefusesHolds : Rows.ColourRefusesCardSaid := colourRefuses.card
#print axioms colourRefusesHolds
end Go.Proofs.YtbgfabppmobpgaaDoor
