/-
  The law ColourFits answers true. Conditions: none.
-/
import Derived.Test.YtbgfabppmobpgaaDoorR6Ci
import Derived.Test.YtbgfabppmobpgaaDoorR6Tm
import Derived.Test.YtbgfabppmobpgaaDoorR6Lay
set_option linter.unusedVariables false
set_option linter.unusedSimpArgs false
namespace Go.Proofs.YtbgfabppmobpgaaDoor
open Go Go.ChangeShapes Go.WideShapes Go.ChangeAt Go.RowKit

theorem s7 {h : H} {n k bits : Int} {ev mv : Value} {e m : List Int} (ht : Tab h) (hn : 0 ≤ n) (he : BytesAt h ev e) (hm : BytesAt h mv m) (hk : 0 ≤ k) :
    CallsA Tryd.prog 7 (fun _ => [.int .u8 n, ev, mv, .int .u8 k, .int .u16 bits]) [] h (Ret fun r h' => h.le h' ∧ r = .bool true) := by
  refine c7 (G := [.int .u8 n, ev, mv, .int .u8 k, .int .u16 bits]) ⟨⟨_, rfl⟩, he.fit, hm.fit, ⟨_, rfl⟩, ⟨_, rfl⟩, trivial⟩ ?_
  refine h_call0 (s19 ht) ?_
  rintro _ h1 ⟨l1, rfl⟩
  refine ⟨[.bool true], ⟨⟨_, rfl⟩, trivial⟩, rfl, iteF rfl ?_⟩
  simp only [List.cons_append, List.nil_append]
  have hMade := s12 (h := h1) (n := n) (ev := ev) (mv := mv) (e := e) (m := m) hn (SlAt.le byteC_mono l1 he) (SlAt.le byteC_mono l1 hm)
  obtain ⟨N, hN⟩ : ∃ N : Nat, N = (n % 13).toNat := ⟨_, rfl⟩
  rw [← hN] at hMade
  have hN13 : N < 13 := by omega
  refine h_call0 hMade ?_
  clear hMade
  rintro _ h2 ⟨u, v, f, f', rfl, T⟩
  have l2 := l1.trans T.le
  refine ⟨[.int .i64 (N : Int), u, v], ⟨⟨_, rfl⟩, T.e.row0.fit, T.m.row0.fit, trivial⟩, rfl, ?_⟩
  simp only [List.cons_append, List.nil_append]
  have hLE := made_len (by omega : N < 14) (eB e)
  have hLM := made_len (by omega : N < 14) (mB e m)
  have K := T.gr (by omega) (by omega) (N : Int)
  have hg : (⟨(N : Int), edI (madeE N (eB e)), edI (madeE N (mB e m))⟩ : Gr).ok = true := made_graph (by omega) fun j hj => by unfold mB; rw [hj]; rfl
  generalize madeE N (eB e) = E at K hg hLE
  generalize madeE N (mB e m) = M at K hg hLM
  clear T
  refine h_call0 (s21 (n := N) (by omega)) ?_
  rintro fv h3 ⟨l3, hfv⟩
  refine ⟨[fv], ⟨hfv.fit, trivial⟩, rfl, ?_⟩
  simp only [List.cons_append, List.nil_append]
  have K3 := K.le l3
  have e3 : intOp .add .i64 1 (IntKind.i64.wrap (intOp .rem .u8 k 8)) = 1 + k % 8 := by rw [rem_u8 hk (by omega) (by omega), add_small (by omega) (by omega)]
  obtain ⟨κ, hκ⟩ : ∃ κ : Nat, (κ : Int) = 1 + k % 8 := ⟨(1 + k % 8).toNat, by omega⟩
  rw [← hκ] at e3
  refine h_call0 (Q := fun r h' => h3.le h' ∧ ∃ v' w, r = .tuple #[v', .int .i64 0] ∧ IntsAt h' v' (w.out κ) ∧ (w.out κ).length = N ∧ CEnd ⟨(N : Int), edI E, edI M⟩ κ (firmL N bits) w) ?_ ?_
  · show CallsA _ _ (fun _ => [.agg #[.int .i64 (N : Int), u, v], .int .i64 (intOp .add .i64 1 (IntKind.i64.wrap (intOp .rem .u8 k 8))), fv]) [] _ _
    rw [e3]
    have := col_ok (k := (κ : Int)) (ht.le (l2.trans l3)) K3 hfv hg (by rw [firmL_len]; rfl) (by omega) (by omega)
    rw [Int.toNat_natCast] at this
    exact this
  rintro _ h4 ⟨l4, rv, w, rfl, ir, lr, EE⟩
  refine ⟨[rv, .int .i64 0], ⟨ir.fit, ⟨_, rfl⟩, trivial⟩, rfl, iteT rfl ?_⟩
  simp only [List.cons_append, List.nil_append]
  have K4 := K3.le l4
  have C := EE.col hg
  have hok := EE.okTo hg
  replace C : Coloured N κ E M (w.out κ) := by
    have C' : Coloured N κ (edN (edI E)) (edN (edI M)) (w.out κ) := C
    rw [edN_edI, edN_edI] at C'; exact C'
  refine h_call0 (Q := fun r h' => h' = h4 ∧ r = .bool true) ?_ ?_
  · show CallsA _ _ (fun _ => [.agg #[.int .i64 (N : Int), u, v], .int .i64 (intOp .add .i64 1 (IntKind.i64.wrap (intOp .rem .u8 k 8))), rv]) [] _ _
    rw [e3]
    exact fits_ok (g := ⟨(N : Int), edI E, edI M⟩) K4 hg EE ir
  rintro _ h5 ⟨e5, rfl⟩
  have e5' := e5.symm
  subst e5'
  refine ⟨[.bool true], ⟨⟨_, rfl⟩, trivial⟩, rfl, iteF rfl ?_⟩
  simp only [List.cons_append, List.nil_append]
  have hrl := ir.len
  rw [lr] at hrl
  have hvl : vlen v = M.length := by have := K4.m.len; rw [edI_len] at this; exact this
  have hl4 : h.le h4 := l2.trans (l3.trans l4)
  generalize w.out κ = out at ir lr C hok
  clear EE hok
  refine h_loop (fun xs h' => ∃ (b : Bool) (x : Nat), xs = [.bool b, natV x] ∧ x ≤ N ∧ h' = h4 ∧ (b = true ↔ ∀ y, y < x → degE E y < κ)) (fun xs h' => N - (vi (gv xs 1)).toNat) ⟨true, 0, rfl, Nat.zero_le _, rfl, by simp⟩ ?_
  rintro xs h5 J - ⟨b, x, rfl, hxN, e5, hb⟩ hJ
  have e5' := e5.symm
  subst e5'
  simp only [List.cons_append, List.nil_append]
  refine h_ite (fun hc => ?_) (fun hc => ?_)
  · replace hc : cmpOp .lss (x : Int) ((vlen rv : Nat) : Int) = true := hc
    rw [hrl, cmp_lss, decide_eq_true_eq] at hc
    have hx : x < N := by omega
    have hcx : out[x]? = some (gt out x) := gt_some (by omega)
    refine h_need (needIx (i := x) (v := rv) rfl rfl hrl hx) (h_load [.int .i64 (gt out x)] ⟨⟨_, rfl⟩, trivial⟩ (fun _ => ir.read hcx) ?_)
    simp only [List.cons_append, List.nil_append]
    refine h_loop (fun xs h' => ∃ j : Nat, xs = [.bool ((M.take j).any fun e => decide (e.1 = x) || decide (e.2 = x)), natV j] ∧ j ≤ M.length ∧ h' = h4) (fun xs h' => M.length - (vi (gv xs 1)).toNat) ⟨0, rfl, Nat.zero_le _, rfl⟩ ?_
    rintro xs h5 J2 - ⟨j, rfl, hj, e5⟩ hJ2
    have e5' := e5.symm
    subst e5'
    simp only [List.cons_append, List.nil_append]
    refine h_ite (fun hd => ?_) (fun hd => ?_)
    · replace hd : cmpOp .lss (j : Int) ((vlen v : Nat) : Int) = true := hd
      rw [hvl, cmp_lss, decide_eq_true_eq] at hd
      have hjl : j < M.length := by omega
      have hy : M[j]? = some M[j] := List.getElem?_eq_getElem hjl
      generalize M[j] = y at hy
      have hyI : (edI M)[j]? = some ((y.1 : Int), (y.2 : Int)) := by unfold edI; rw [List.getElem?_map, hy]; rfl
      refine h_need (needIx (i := j) (v := v) rfl rfl hvl hjl) (h_load [natV y.1, natV y.2] ⟨⟨_, rfl⟩, ⟨_, rfl⟩, trivial⟩ (fun _ => K4.m.read hyI) ?_)
      have hs := any_snoc (p := fun e : Nat × Nat => decide (e.1 = x) || decide (e.2 = x)) hy
      generalize (M.take j).any (fun e : Nat × Nat => decide (e.1 = x) || decide (e.2 = x)) = c at hs
      show J2 [.bool (vb (if vb (if c = true then Value.bool true else .bool (cmpOp .eql (y.1 : Int) (x : Int))) = true then Value.bool true else .bool (cmpOp .eql (y.2 : Int) (x : Int)))), .int .i64 (intOp .add .i64 (j : Int) 1)] _
      rw [int_add_one (n := 1000000) (by omega) (by omega), cmp_eql, cmp_eql]
      refine hJ2 _ _ ⟨j + 1, ?_, by omega, rfl⟩ (by simp only [gv_zero, gv_succ, vi_int]; omega)
      rw [hs]
      have d1 : decide ((y.1 : Int) = (x : Int)) = decide (y.1 = x) := decide_eq_decide.2 (by omega)
      have d2 : decide ((y.2 : Int) = (x : Int)) = decide (y.2 = x) := decide_eq_decide.2 (by omega)
      rw [d1, d2]
      cases c <;> cases decide (y.1 = x) <;> cases decide (y.2 = x) <;> rfl
    · replace hd : cmpOp .lss (j : Int) ((vlen v : Nat) : Int) = false := hd
      rw [hvl, cmp_lss, decide_eq_false_iff_not] at hd
      obtain rfl : j = M.length := by omega
      rw [List.take_length]
      have hDeg := s22 (n := (N : Int)) (x := x) K4.e K4.m.fit (by omega : E.length ≤ 1000000)
      refine h_call0 hDeg ?_
      rintro _ h6 ⟨e6, rfl⟩
      have e6' := e6.symm
      subst e6'
      refine ⟨[natV (degE E x)], ⟨⟨_, rfl⟩, trivial⟩, rfl, ?_⟩
      simp only [List.cons_append, List.nil_append]
      obtain ⟨mm, hmm⟩ : ∃ mm, mm = M.any fun e => decide (e.1 = x) || decide (e.2 = x) := ⟨_, rfl⟩
      rw [← hmm]
      refine h_ite (fun hq => ?_) (fun hq => ?_)
      · exfalso
        replace hq : vb (if vb (if cmpOp .lss ((degE E x : Nat) : Int) (intOp .add .i64 1 (IntKind.i64.wrap (intOp .rem .u8 k 8))) = true then Value.bool (!mm) else .bool false) = true then Value.bool (cmpOp .lss (gt out x) 0) else .bool false) = true := hq
        rw [e3, cmp_lss, cmp_lss] at hq
        by_cases a1 : degE E x < κ
        · rw [decide_eq_true (by omega)] at hq
          cases mm with
          | true => cases hq
          | false =>
            have hfew := C.few x hx (fun ⟨m', hm', hm2⟩ => by
              have := List.any_eq_false.1 hmm.symm m' hm'
              rcases hm2 with q | q <;> simp [q] at this) a1
            rw [decide_eq_false (by omega)] at hq
            cases hq
        · rw [decide_eq_false (by omega)] at hq
          cases hq
      · show J [.bool (vb (if b = true then Value.bool (cmpOp .lss ((degE E x : Nat) : Int) (intOp .add .i64 1 (IntKind.i64.wrap (intOp .rem .u8 k 8)))) else .bool false)), .int .i64 (intOp .add .i64 (x : Int) 1)] _
        rw [e3, cmp_lss, int_add_one (n := 1000000) (by omega) (by omega)]
        refine hJ _ _ ⟨_, x + 1, rfl, by omega, rfl, ?_⟩ (by simp only [gv_zero, gv_succ, vi_int]; omega)
        constructor
        · intro q y hy
          cases b with
          | false => cases q
          | true =>
            have q' : decide (((degE E x : Nat) : Int) < (κ : Int)) = true := q
            rw [decide_eq_true_eq] at q'
            by_cases ey : y = x
            · rw [ey]; omega
            · exact hb.1 rfl y (by omega)
        · intro q
          have hb' : b = true := hb.2 fun y hy => q y (by omega)
          rw [hb']
          show decide (((degE E x : Nat) : Int) < (κ : Int)) = true
          rw [decide_eq_true_eq]
          have := q x (by omega)
          omega
  · replace hc : cmpOp .lss (x : Int) ((vlen rv : Nat) : Int) = false := hc
    rw [hrl, cmp_lss, decide_eq_false_iff_not] at hc
    have hxe : x = N := by omega
    rw [hxe] at hb
    refine h_ite (fun hq => ?_) (fun hq => ⟨rfl, hl4, rfl⟩)
    replace hq : b = true := hq
    have ho : outL out = 0 := outL_none fun y hy => C.all (hb.1 hq) y (by omega)
    refine h_call0 (s23 ir (by omega)) ?_
    rintro _ h6 ⟨e6, rfl⟩
    have e6' := e6.symm
    subst e6'
    refine ⟨[natV (outL out)], ⟨⟨_, rfl⟩, trivial⟩, rfl, rfl, hl4, ?_⟩
    show Value.bool (cmpOp .eql ((outL out : Nat) : Int) 0) = _
    rw [ho]; rfl
namespace colourFits
theorem own : ownKnob Tryd.prog.godebug = none := by kernel_rfl
set_option maxRecDepth 100000 in
theorem laidOut : laidOutB Tryd.prog = true := by kernel_rfl
set_option maxRecDepth 100000 in
theorem contract (H : Type) (enc : TypeId × Value → H) (W : World) (base : Nat) (args : Array Value) (ds gs : List (DataW H)) (before : List MemPlace)
    (hval : ∀ (j : Nat) t v, Tryd.f7.params[j]? = some t → args[j]? = some v → Value.okWide Tryd.prog W .any base t v)
    (hW : DataW.Whole enc Tryd.prog Tryd.f7.params.toList Rows.colourFitsSpec.vars false W args.toList ds gs before) (hL : laidMetH Tryd.prog laid1 W) :
    Calls Tryd.prog 7 args W fun e W' => ∃ v, e = .returned v ∧ Rows.colourFitsSpec.post enc Tryd.prog Tryd.f7 false true false false W args v W' := by
  have hW' := hW
  obtain ⟨p, q, hA, hV, rfl, hfz, hnd⟩ := hW
  rw [Tryd.params7] at hA hval
  obtain ⟨v0, vs0, d0, ds0, p0, q0, hargs, rfl, rfl, h0, r0⟩ := trodAll_cons hA
  obtain ⟨v1, vs1, d1, ds1, p1, q1, rfl, rfl, rfl, h1, r1⟩ := trodAll_cons r0
  obtain ⟨v2, vs2, d2, ds2, p2, q2, rfl, rfl, rfl, h2, r2⟩ := trodAll_cons r1
  obtain ⟨v3, vs3, d3, ds3, p3, q3, rfl, rfl, rfl, h3, r3⟩ := trodAll_cons r2
  obtain ⟨v4, vs4, d4, ds4, p4, q4, rfl, rfl, rfl, h4, r4⟩ := trodAll_cons r3
  obtain ⟨rfl, rfl, rfl⟩ := trodAll_nil r4
  obtain rfl : args = #[v0, v1, v2, v3, v4] := by cases args; simp_all
  obtain ⟨n, rfl, -, -, wf0⟩ := open_int Tryd.underlying5 (hval 0 5 v0 rfl rfl) h0
  obtain ⟨a1, n1, c1, rfl⟩ := okWide_slice Tryd.underlying22 (hval 1 22 v1 rfl rfl)
  obtain ⟨ev, el, he1, hev, -⟩ := rd_bytes (Rd.of h1)
  obtain rfl : Value.slice a1 n1 c1 = ev := by simpa [Value.cells] using he1
  obtain ⟨a2, n2, c2, rfl⟩ := okWide_slice Tryd.underlying22 (hval 2 22 v2 rfl rfl)
  obtain ⟨mv, ml, he2, hmv, -⟩ := rd_bytes (Rd.of h2)
  obtain rfl : Value.slice a2 n2 c2 = mv := by simpa [Value.cells] using he2
  obtain ⟨k, rfl, -, -, wf3⟩ := open_int Tryd.underlying5 (hval 3 5 v3 rfl rfl) h3
  obtain ⟨bits, rfl, -, -, wf4⟩ := open_int Tryd.underlying43 (hval 4 43 v4 rfl rfl) h4
  refine (law_calls (f := 7) (args := [.int .u8 n, .slice a1 n1 c1, .slice a2 n2 c2, .int .u8 k, .int .u16 bits]) (s7 (tab_of hL) (u8_bounds wf0).1 hev hmv (u8_bounds wf3).1)).mono ?_
  rintro e' W' ⟨rfl, bel⟩
  exact ⟨_, rfl, law_post laidOut hW' rfl (of_decide_eq_true (by kernel_rfl)) rfl Tryd.underlying4 rfl bel⟩
set_option maxRecDepth 100000 in
theorem lifted (os : Os) (started : os.Started) (H : Type) (enc : TypeId × Value → H) :
    ReturnsInHanded {} Tryd.checked os 7 .any (fun w args => (Rows.colourFitsSpec.pre enc Tryd.prog Tryd.f7 [] false w args ∧ laidMetH Tryd.prog laid1 w) ∧ sizedMet enc Tryd.prog Tryd.f7 (OpenSpec.ofChange Rows.colourFitsSpec) false w args)
      (Rows.colourFitsSpec.post enc Tryd.prog Tryd.f7 false true false false) := by
  refine returnsInHanded_of_change_and (C := Tryd.checked) (X := fun w _ => laidMetH Tryd.prog laid1 w) (fun _ _ _ hh h => h.of_heap hh) own started (by kernel_rfl) Tryd.func7
    (ChangeSpec.witness_shaped (enc := enc) (C := Tryd.checked) (os := os) (X := fun w _ => laidMetH Tryd.prog laid1 w) false (World.laidAll Tryd.prog os laid1) #[.int .u8 0, .slice none 0 0, .slice none 0 0, .int .u8 0, .int .u16 0] 8 (World.laidAll_os _ _ _)
      (World.shaped_of_ZipB (by kernel_rfl) (by kernel_rfl)) (by kernel_rfl) (by kernel_rfl) (by kernel_rfl)
      (by rw [MakeChecks.laidMetH_plain _ _ _ (by kernel_rfl)]; exact laidMet_laidAll _ (by kernel_rfl) (by kernel_rfl))) ?_
  intro W base args ds gs before hval hW _ _ hL _
  exact contract H enc W base args ds gs before hval hW hL
set_option maxRecDepth 100000 in
theorem proved : Rows.ColourFitsSaid :=
  OpenClaim.holds_of_wide 7 Tryd.f7 rfl rfl rfl rfl rfl rfl rfl ⟨rfl, rfl, rfl, rfl, rfl⟩ rfl rfl rfl rfl rfl (by kernel_rfl) Tryd.func7 (by kernel_rfl)
    (of_decide_eq_true (by kernel_rfl)) (by unfold Func.isWrapper; first | (rw [if_pos (by decide +kernel)]; kernel_rfl) | (rw [if_neg (by decide +kernel)]; exact ⟨rfl, rfl⟩))
    (fun os started H enc _ => lifted os started H enc)
set_option maxRecDepth 100000 in
theorem card : Rows.ColourFitsCardSaid :=
  Claim7.holds_tied_plain_at .later [] [.data] true (true, "74a93455e167e44cac747f8244595d2a0244a2ab46c0a069dc415a11e19b33d5") false proved (fun _ h => by cases h) (by kernel_rfl) (fun _ h => by cases h) colourFits_row_tie rfl ⟨rfl, rfl⟩ (by kernel_rfl) rfl
    (fun f fn hf hfn => by
      obtain rfl : f = 7 := Option.some.inj ((show Tryd.prog.funcNamed "outworker/outworkerlaw16.ColourFits" = some 7 by kernel_rfl).symm.trans hf) |>.symm
      obtain rfl : fn = Tryd.f7 := (Option.some.inj (Tryd.func7.symm.trans hfn)).symm
      exact ⟨by kernel_rfl, fun j t ht => by
        rw [Tryd.params7] at ht
        have hm : t ∈ [5, 22, 22, 5, 43] := by simpa using Array.mem_of_getElem? ht
        have hall : ([5, 22, 22, 5, 43].all fun u => !Tryd.prog.wantsStandIn u) = true := by kernel_rfl
        exact (show Tryd.prog.wantsStandIn t = false by simpa using List.all_eq_true.1 hall t hm)⟩)
    (by kernel_rfl)
end colourFits
/-- The row, under a short name, for the claim. -/
theorem colourFitsHolds : Rows.ColourFitsCardSaid := colourFits.card
#print axioms colourFitsHolds
end Go.Proofs.YtbgfabppmobpgaaDoor
