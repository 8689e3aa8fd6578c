/-
  The law ColourTrees answers true. Conditions: none.
-/
import Derived.Test.YtbgfabppmobpgaaDoorR6Ci
import Derived.Test.YtbgfabppmobpgaaDoorR6Tm
import Derived.Test.YtbgfabppmobpgaaDoorR6Lay
set_option linter.unusedVariables false
set_option linter.unusedSimpArgs false
namespace Go.Proofs.YtbgfabppmobpgaaDoor
open Go Go.ChangeShapes Go.WideShapes Go.ChangeAt Go.RowKit

def pE (n : Nat) : List (Nat × Nat) := (List.range n).map fun i => (2 * i, 2 * i + 1)
theorem pE_succ (n : Nat) : pE (n + 1) = pE n ++ [(2 * n, 2 * n + 1)] := by unfold pE; rw [List.range_succ, List.map_append]; rfl
theorem pE_len (n : Nat) : (pE n).length = n := by simp [pE]
theorem pE_ok {n : Nat} (hn : n < 2000) : (⟨((2 * n : Nat) : Int), edI (pE n), []⟩ : Gr).ok = true := by
  have h1 : rightE ((2 * n : Nat) : Int) (edI (pE n)) = true := right_of (by
    unfold pE
    rw [List.pairwise_map]
    exact List.pairwise_lt_range.imp fun {a b} hab => .inl (by simp only; omega)) fun e he => by
    unfold pE at he
    obtain ⟨i, hi, rfl⟩ := List.mem_map.1 he
    have := List.mem_range.1 hi
    simp only; omega
  unfold Gr.ok
  simp only [h1, Bool.and_eq_true, decide_eq_true_eq, Bool.not_eq_true', Bool.and_true]
  refine ⟨⟨⟨by omega, by omega⟩, rightE_true fun j hj => absurd hj (Nat.not_lt_zero _)⟩, rfl⟩
theorem no_ok {n : Nat} (hn : n < 2000) : (⟨(n : Int), [], []⟩ : Gr).ok = true := by
  unfold Gr.ok
  simp only [Bool.and_eq_true, decide_eq_true_eq, Bool.not_eq_true', Bool.and_true]
  refine ⟨⟨⟨⟨by omega, by omega⟩, rightE_true fun j hj => absurd hj (Nat.not_lt_zero _)⟩, rightE_true fun j hj => absurd hj (Nat.not_lt_zero _)⟩, rfl⟩
theorem pE_deg (n v : Nat) : degE (pE n) v < 2 := by
  unfold degE pE
  rw [List.filter_map, List.length_map]
  have := nodup_sub_len ((List.range n).filter ((fun e : Nat × Nat => decide (e.1 = v) || decide (e.2 = v)) ∘ fun i => (2 * i, 2 * i + 1))) [v / 2] (List.nodup_range.filter _) fun x hx => by
    have := (List.mem_filter.1 hx).2
    simp only [Function.comp, Bool.or_eq_true, decide_eq_true_eq] at this
    rw [List.mem_singleton]
    omega
  simp at this
  omega
theorem s9 {h : H} {p bits : Int} (ht : Tab h) (hp : 0 ≤ p) :
    CallsA Tryd.prog 9 (fun _ => [.int .u8 p, .int .u16 bits]) [] h (Ret fun r h' => h.le h' ∧ r = .bool true) := by
  refine c9 (G := [.int .u8 p, .int .u16 bits]) ⟨⟨_, rfl⟩, ⟨_, rfl⟩, trivial⟩ ?_
  refine h_call0 (s19 ht) ?_
  rintro _ h1 ⟨l1, rfl⟩
  refine ⟨[.bool true], ⟨⟨_, rfl⟩, trivial⟩, rfl, iteF rfl ?_⟩
  simp only [List.cons_append, List.nil_append]
  obtain ⟨N, hN⟩ : ∃ N : Nat, (N : Int) = p % 20 := ⟨(p % 20).toNat, by omega⟩
  have hN20 : N < 20 := by omega
  have e1 : IntKind.i64.wrap (intOp .rem .u8 p 20) = (N : Int) := by rw [rem_u8 hp (by omega) (by omega), hN]
  have e2m : ∀ i : Nat, i < 1000 → intOp .mul .i64 2 (i : Int) = ((2 * i : Nat) : Int) := fun i hi => by simp only [intOp]; rw [wrap_i64 (by omega) (by omega)]; omega
  have e2 : intOp .mul .i64 2 (IntKind.i64.wrap (intOp .rem .u8 p 20)) = ((2 * N : Nat) : Int) := by rw [e1, e2m N (by omega)]
  refine h_loop (fun xs h' => ∃ (i : Nat) (u : Value) (f : List Nat), xs = [natV i, u] ∧ i ≤ N ∧ Two h1 h' u (.slice none 0 0) (pE i) [] f []) (fun xs h' => N - (vi (gv xs 0)).toNat) ⟨0, _, [], rfl, Nat.zero_le _, ⟨H.le_refl _, .inl ⟨rfl, rfl, rfl⟩, .inl ⟨rfl, rfl, rfl⟩, (fun b hb => by cases hb), (fun b hb => by cases hb), fun b hb => by cases hb⟩⟩ ?_
  rintro xs h2 J - ⟨i, u, f, rfl, hi, T⟩ hJ
  simp only [List.cons_append, List.nil_append]
  refine h_ite (fun hc => ?_) (fun hc => ?_)
  · replace hc : cmpOp .lss (i : Int) (IntKind.i64.wrap (intOp .rem .u8 p 20)) = true := hc
    rw [e1, cmp_lss, decide_eq_true_eq] at hc
    refine ⟨[natV (2 * i), natV (2 * i + 1)], 1, ⟨?_, rfl⟩, ?_⟩
    · show _ = [Value.int .i64 (intOp .mul .i64 2 (i : Int)), .int .i64 (intOp .add .i64 (intOp .mul .i64 2 (i : Int)) 1)]
      rw [e2m i (by omega), int_add_one (n := 1000000) (by omega) (by omega)]
    · show AppSpec _ _ _ _ _ u _ _ _
      refine T.addE (by rw [pE_len]; omega) fun u' h3 f3 T3 => ?_
      show J [.int .i64 (intOp .add .i64 (i : Int) 1), u'] _
      rw [int_add_one (n := 1000000) (by omega) (by omega)]
      rw [← pE_succ] at T3
      exact hJ _ _ ⟨i + 1, u', f3, rfl, by omega, T3⟩ (by simp only [gv_zero, vi_int]; omega)
  replace hc : cmpOp .lss (i : Int) (IntKind.i64.wrap (intOp .rem .u8 p 20)) = false := hc
  rw [e1, cmp_lss, decide_eq_false_iff_not] at hc
  have hiN : i = N := by omega
  rw [hiN] at T ⊢
  clear hc hi hJ
  have l2 := l1.trans T.le
  have K : GrAt h2 u (.slice none 0 0) ⟨((2 * N : Nat) : Int), edI (pE N), []⟩ := T.gr (by rw [pE_len]; omega) (by simp) _
  have hg := pE_ok (n := N) (by omega)
  refine h_call0 (Q := fun r h' => h2.le h' ∧ BoolsAt h' r (firmL (2 * N) bits)) ?_ ?_
  · show CallsA _ _ (fun _ => [.int .i64 (intOp .mul .i64 2 (IntKind.i64.wrap (intOp .rem .u8 p 20))), .int .u16 bits]) [] _ _
    rw [e2]; exact s21 (by omega)
  rintro f1 h3 ⟨l3, hf1⟩
  refine ⟨[f1], ⟨hf1.fit, trivial⟩, rfl, ?_⟩
  simp only [List.cons_append, List.nil_append]
  refine h_call0 (Q := fun r h' => h3.le h' ∧ ∃ v w, r = .tuple #[v, .int .i64 0] ∧ IntsAt h' v (w.out 2) ∧ (w.out 2).length = 2 * N ∧ CEnd ⟨((2 * N : Nat) : Int), edI (pE N), []⟩ 2 (firmL (2 * N) bits) w) ?_ ?_
  · show CallsA _ _ (fun _ => [.agg #[.int .i64 (intOp .mul .i64 2 (IntKind.i64.wrap (intOp .rem .u8 p 20))), u, .slice none 0 0], .int .i64 2, f1]) [] _ _
    rw [e2]
    exact col_ok (k := 2) (ht.le (l2.trans l3)) (K.le l3) hf1 hg (by rw [firmL_len]; rfl) (by decide) (by decide)
  rintro _ h4 ⟨l4, va, wa, rfl, ia, la, Ea⟩
  refine ⟨[va, .int .i64 0], ⟨ia.fit, ⟨_, rfl⟩, trivial⟩, rfl, ?_⟩
  simp only [List.cons_append, List.nil_append]
  refine h_call0 (Q := fun r h' => h4.le h' ∧ BoolsAt h' r (firmL N bits)) ?_ ?_
  · show CallsA _ _ (fun _ => [.int .i64 (IntKind.i64.wrap (intOp .rem .u8 p 20)), .int .u16 bits]) [] _ _
    rw [e1]; exact s21 (by omega)
  rintro f2 h5 ⟨l5, hf2⟩
  refine ⟨[f2], ⟨hf2.fit, trivial⟩, rfl, ?_⟩
  simp only [List.cons_append, List.nil_append]
  have l25 := l3.trans (l4.trans l5)
  have hg2 := no_ok (n := N) (by omega)
  refine h_call0 (Q := fun r h' => h5.le h' ∧ ∃ v w, r = .tuple #[v, .int .i64 0] ∧ IntsAt h' v (w.out 1) ∧ (w.out 1).length = N ∧ CEnd ⟨(N : Int), [], []⟩ 1 (firmL N bits) w) ?_ ?_
  · show CallsA _ _ (fun _ => [.agg #[.int .i64 (IntKind.i64.wrap (intOp .rem .u8 p 20)), .slice none 0 0, .slice none 0 0], .int .i64 1, f2]) [] _ _
    rw [e1]
    exact col_ok (g := ⟨(N : Int), [], []⟩) (k := 1) (ht.le (l2.trans l25)) ⟨SlAt.nil, SlAt.nil, Nat.zero_le _, Nat.zero_le _⟩ hf2 hg2 (by rw [firmL_len]; rfl) (by decide) (by decide)
  rintro _ h6 ⟨l6, vb', wb, rfl, ib, lb, Eb⟩
  refine ⟨[vb', .int .i64 0], ⟨ib.fit, ⟨_, rfl⟩, trivial⟩, rfl, iteT rfl ?_⟩
  simp only [List.cons_append, List.nil_append]
  have ia6 := ia.le (l5.trans l6)
  have K6 := K.le (l25.trans l6)
  have hl6 : h.le h6 := l2.trans (l25.trans l6)
  have Ca := Ea.col hg
  have Cb := Eb.col hg2
  have hoa : outL (wa.out 2) = 0 := outL_none fun v hv => Ca.all (fun v hv => by
    show degE (edN (edI (pE N))) v < 2
    rw [edN_edI]; exact pE_deg N v) v (by show v < 2 * N; omega)
  have hob : outL (wb.out 1) = 0 := outL_none fun v hv => Cb.all (fun v hv => by show (0 : Nat) < 1; omega) v (by show v < N; omega)
  refine h_call0 (s23 ia6 (by omega)) ?_
  rintro _ h7 ⟨e7, rfl⟩
  have e7' := e7.symm
  subst e7'
  refine ⟨[natV (outL (wa.out 2))], ⟨⟨_, rfl⟩, trivial⟩, rfl, iteT (by show cmpOp .eql ((outL (wa.out 2) : Nat) : Int) 0 = true; rw [hoa]; rfl) ?_⟩
  simp only [List.cons_append, List.nil_append]
  refine h_call0 (Q := fun r h' => h' = h6 ∧ r = .bool true) ?_ ?_
  · show CallsA _ _ (fun _ => [.agg #[.int .i64 (intOp .mul .i64 2 (IntKind.i64.wrap (intOp .rem .u8 p 20))), u, .slice none 0 0], .int .i64 2, va]) [] _ _
    rw [e2]
    exact fits_ok (g := ⟨((2 * N : Nat) : Int), edI (pE N), []⟩) K6 hg Ea ia6
  rintro _ h7 ⟨e7, rfl⟩
  have e7' := e7.symm
  subst e7'
  refine ⟨[.bool true], ⟨⟨_, rfl⟩, trivial⟩, rfl, iteT rfl ?_⟩
  simp only [List.cons_append, List.nil_append]
  refine h_call0 (s23 ib (by omega)) ?_
  rintro _ h7 ⟨e7, rfl⟩
  have e7' := e7.symm
  subst e7'
  refine ⟨[natV (outL (wb.out 1))], ⟨⟨_, rfl⟩, trivial⟩, rfl, rfl, hl6, ?_⟩
  have hbl := ib.len
  rw [lb] at hbl
  show Value.bool (vb (if cmpOp .eql ((outL (wb.out 1) : Nat) : Int) 0 = true then Value.bool (cmpOp .eql ((vlen vb' : Nat) : Int) (IntKind.i64.wrap (intOp .rem .u8 p 20))) else .bool false)) = _
  rw [hob, e1, hbl, cmp_eql, cmp_eql]
  simp
namespace colourTrees
theorem own : ownKnob Tryd.prog.godebug = none := by kernel_rfl
set_option maxRecDepth 100000 in
theorem laidOut : laidOutB Tryd.prog = true := by kernel_rfl
set_option maxRecDepth 100000 in
theorem contract (H : Type) (enc : TypeId × Value → H) (W : World) (base : Nat) (args : Array Value) (ds gs : List (DataW H)) (before : List MemPlace)
    (hval : ∀ (j : Nat) t v, Tryd.f9.params[j]? = some t → args[j]? = some v → Value.okWide Tryd.prog W .any base t v)
    (hW : DataW.Whole enc Tryd.prog Tryd.f9.params.toList Rows.colourTreesSpec.vars false W args.toList ds gs before) (hL : laidMetH Tryd.prog laid1 W) :
    Calls Tryd.prog 9 args W fun e W' => ∃ v, e = .returned v ∧ Rows.colourTreesSpec.post enc Tryd.prog Tryd.f9 false true false false W args v W' := by
  have hW' := hW
  obtain ⟨p, q, hA, hV, rfl, hfz, hnd⟩ := hW
  rw [Tryd.params9] at hA hval
  obtain ⟨v0, vs0, d0, ds0, p0, q0, hargs, rfl, rfl, h0, r0⟩ := trodAll_cons hA
  obtain ⟨v1, vs1, d1, ds1, p1, q1, rfl, rfl, rfl, h1, r1⟩ := trodAll_cons r0
  obtain ⟨rfl, rfl, rfl⟩ := trodAll_nil r1
  obtain rfl : args = #[v0, v1] := by cases args; simp_all
  obtain ⟨p, rfl, -, -, wf0⟩ := open_int Tryd.underlying5 (hval 0 5 v0 rfl rfl) h0
  obtain ⟨bits, rfl, -, -, wf1⟩ := open_int Tryd.underlying43 (hval 1 43 v1 rfl rfl) h1
  refine (law_calls (f := 9) (args := [.int .u8 p, .int .u16 bits]) (s9 (tab_of hL) (u8_bounds wf0).1)).mono ?_
  rintro e' W' ⟨rfl, bel⟩
  exact ⟨_, rfl, law_post laidOut hW' rfl (of_decide_eq_true (by kernel_rfl)) rfl Tryd.underlying4 rfl bel⟩
set_option maxRecDepth 100000 in
theorem lifted (os : Os) (started : os.Started) (H : Type) (enc : TypeId × Value → H) :
    ReturnsInHanded {} Tryd.checked os 9 .any (fun w args => (Rows.colourTreesSpec.pre enc Tryd.prog Tryd.f9 [] false w args ∧ laidMetH Tryd.prog laid1 w) ∧ sizedMet enc Tryd.prog Tryd.f9 (OpenSpec.ofChange Rows.colourTreesSpec) false w args)
      (Rows.colourTreesSpec.post enc Tryd.prog Tryd.f9 false true false false) := by
  refine returnsInHanded_of_change_and (C := Tryd.checked) (X := fun w _ => laidMetH Tryd.prog laid1 w) (fun _ _ _ hh h => h.of_heap hh) own started (by kernel_rfl) Tryd.func9
    (ChangeSpec.witness_shaped (enc := enc) (C := Tryd.checked) (os := os) (X := fun w _ => laidMetH Tryd.prog laid1 w) false (World.laidAll Tryd.prog os laid1) #[.int .u8 0, .int .u16 0] 8 (World.laidAll_os _ _ _)
      (World.shaped_of_ZipB (by kernel_rfl) (by kernel_rfl)) (by kernel_rfl) (by kernel_rfl) (by kernel_rfl)
      (by rw [MakeChecks.laidMetH_plain _ _ _ (by kernel_rfl)]; exact laidMet_laidAll _ (by kernel_rfl) (by kernel_rfl))) ?_
  intro W base args ds gs before hval hW _ _ hL _
  exact contract H enc W base args ds gs before hval hW hL
set_option maxRecDepth 100000 in
theorem proved : Rows.ColourTreesSaid :=
  OpenClaim.holds_of_wide 9 Tryd.f9 rfl rfl rfl rfl rfl rfl rfl ⟨rfl, rfl, rfl, rfl, rfl⟩ rfl rfl rfl rfl rfl (by kernel_rfl) Tryd.func9 (by kernel_rfl)
    (of_decide_eq_true (by kernel_rfl)) (by unfold Func.isWrapper; first | (rw [if_pos (by decide +kernel)]; kernel_rfl) | (rw [if_neg (by decide +kernel)]; exact ⟨rfl, rfl⟩))
    (fun os started H enc _ => lifted os started H enc)
set_option maxRecDepth 100000 in
theorem card : Rows.ColourTreesCardSaid :=
  Claim7.holds_tied_plain_at .later [] [.data] true (true, "74a93455e167e44cac747f8244595d2a0244a2ab46c0a069dc415a11e19b33d5") false proved (fun _ h => by cases h) (by kernel_rfl) (fun _ h => by cases h) colourTrees_row_tie rfl ⟨rfl, rfl⟩ (by kernel_rfl) rfl
    (fun f fn hf hfn => by
      obtain rfl : f = 9 := Option.some.inj ((show Tryd.prog.funcNamed "outworker/outworkerlaw16.ColourTrees" = some 9 by kernel_rfl).symm.trans hf) |>.symm
      obtain rfl : fn = Tryd.f9 := (Option.some.inj (Tryd.func9.symm.trans hfn)).symm
      exact ⟨by kernel_rfl, fun j t ht => by
        rw [Tryd.params9] at ht
        have hm : t ∈ [5, 43] := by simpa using Array.mem_of_getElem? ht
        have hall : ([5, 43].all fun u => !Tryd.prog.wantsStandIn u) = true := by kernel_rfl
        exact (show Tryd.prog.wantsStandIn t = false by simpa using List.all_eq_true.1 hall t hm)⟩)
    (by kernel_rfl)
end colourTrees
/-- The row, under a short name, for the claim. -/
theorem colourTreesHolds : Rows.ColourTreesCardSaid := colourTrees.card
#print axioms colourTreesHolds
end Go.Proofs.YtbgfabppmobpgaaDoor
