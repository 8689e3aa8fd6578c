/-
  The law LiveEdges answers true. Conditions: none.
-/
import Derived.Test.YtbbicdfipheaeaaDoorR5X
import Derived.Test.YtbbicdfipheaeaaDoorR5Lay
set_option linter.unusedVariables false
set_option linter.unusedSimpArgs false
namespace Go.Proofs.YtbbicdfipheaeaaDoor
open Go Go.ChangeShapes Go.WideShapes Go.ChangeAt Go.RowKit

set_option maxRecDepth 8000 in
theorem s6 {h : H} {vs vm : Value} {p0 p1 p2 : Int} {l A : List Int} (ht : Tab h) (hs : BytesAt h vs l) (h0 : 0 ≤ p0) (h1 : 0 ≤ p1) (h2 : 0 ≤ p2) (hA : BytesAt h vm A) :
    CallsA Tryd.prog 6 (fun _ => [.agg #[.int .u8 p0, .int .u8 p1, .int .u8 p2, vs], vm]) [] h (Ret fun r h' => h.le h' ∧ r = .bool true) := by
  refine c6 (G := [.int .u8 p0, .int .u8 p1, .int .u8 p2, vs, vm]) ⟨⟨_, rfl⟩, ⟨_, rfl⟩, ⟨_, rfl⟩, hs.fit, hA.fit, trivial⟩ ?_
  obtain ⟨hB, hB1, hB7⟩ := made_B h0 h1 h2 hs.inB
  obtain ⟨hR, hsm⟩ := made_reg h0 h1 h2 hs.inB
  have hV := madeV_range h0 h1
  refine h_call0 (s29 ht) ?_
  rintro _ g1 ⟨hl1, rfl⟩
  refine ⟨[.bool true], ⟨⟨_, rfl⟩, trivial⟩, rfl, iteF rfl ?_⟩
  refine h_call0 (s12 (p0 := p0) (p1 := p1) (p2 := p2) (hs.le hl1) h0 h1 h2) ?_
  rintro _ g2 ⟨hk2, u, fp, rfl, hu, hfp, hnd⟩
  generalize madeB p0 p1 p2 l = B at hB hB1 hB7 hu hR hsm
  have hle2 : h.le g2 := hl1.trans hk2.le_nil
  obtain ⟨V, hVe⟩ : ∃ V : Nat, madeV p0 p1 = V := ⟨(madeV p0 p1).toNat, by omega⟩
  rw [hVe] at hV ⊢
  refine ⟨[.int .i64 (madeP p0), .int .i64 (V : Int), u], ⟨⟨_, rfl⟩, ⟨_, rfl⟩, hu.at.fit, trivial⟩, rfl, ?_⟩
  simp only [List.cons_append, List.nil_append]
  have hfp' : Fresh h fp := fun b hb => H.le_none hl1 (hfp b hb)
  refine h_call0 (s30 (P := madeP p0) hu hnd hB1 hsm hR (V := V) (by omega) (hA.le (H.le_cut hle2 hfp'))) ?_
  rintro _ g3 ⟨rfl, B', fp', hu', hnd', k3, q3, W⟩
  have hle3 : h.le g3 := k3.le hle2 hfp'
  have hO := W.okB hB
  have hBl := W.len
  have hua := hu'.at
  refine ⟨[_], ⟨hua.fit, trivial⟩, rfl, ?_⟩
  simp only [List.cons_append, List.nil_append]
  refine h_call0 (s31 (ht.le hle3) hua hO W.reg (by omega)) ?_
  rintro _ g4 ⟨l4, vI, vO, L, rfl, hsol, Ko, Ki⟩
  refine ⟨[vI, vO], ⟨Ki.fit, Ko.fit, trivial⟩, rfl, ?_⟩
  simp only [List.cons_append, List.nil_append]
  rename_i u
  have hul := hua.len
  have hua4 := SlAt.le blkC_mono l4 hua
  have hLl : L.length = B'.length := hsol.len
  have hil : vlen vI = B'.length := by rw [Ki.len, inP_len, hLl]
  have hol : vlen vO = B'.length := by rw [Ko.len, hLl]
  have nd : ∀ {D : List Value} {q q' b : Nat} {vx : Value}, gv D q = natV b → gv D q' = vx → vlen vx = B'.length → b < B'.length → needs D [(.cmp .geq (.var q) (.lit 0)), (.cmp .lss (.var q) (.len q'))] := fun {D q q' b vx} e1 e2 e3 e4 => by
    simp only [needs, X.den, e1, e2, e3, vb_bool, vi_int, and_true]
    exact ⟨ge0 b, ltN e4⟩
  refine h_loop (fun xs h' => ∃ b : Nat, xs = [natV b] ∧ b ≤ B'.length ∧ g4.le h') (fun xs h' => B'.length - (vi (gv xs 0)).toNat) ⟨0, rfl, Nat.zero_le _, H.le_refl _⟩ ?_
  rintro xs g5 J - ⟨b, rfl, hb, l5⟩ hJ
  simp only [List.cons_append, List.nil_append]
  refine h_ite (fun hc => ?_) (fun hc => ?_)
  · replace hc : cmpOp .lss (b : Int) ((vlen u : Nat) : Int) = true := hc
    rw [hul, cmp_lss, decide_eq_true_eq] at hc
    have hbN : b < B'.length := by omega
    have hbx := List.getElem?_eq_getElem hbN
    generalize B'[b] = bk at hbx
    obtain ⟨x, hx⟩ : ∃ x, L[b]? = some x := ⟨_, List.getElem?_eq_getElem (by rw [hLl]; exact hbN)⟩
    refine h_loop (fun xs h' => ∃ v : Nat, xs = [natV v] ∧ v ≤ V ∧ g4.le h') (fun xs h' => V - (vi (gv xs 0)).toNat) ⟨0, rfl, Nat.zero_le _, l5⟩ ?_
    rintro xs g6 J6 - ⟨v, rfl, hv, l6⟩ hJ6
    simp only [List.cons_append, List.nil_append]
    refine h_ite (fun hc6 => ?_) (fun hc6 => ?_)
    · replace hc6 : cmpOp .lss (v : Int) (V : Int) = true := hc6
      rw [cmp_lss, decide_eq_true_eq] at hc6
      have hrd := blks_get (SlAt.le blkC_mono l6 hua4) hbx
      refine ⟨fun _ => nd (vx := u) rfl rfl hul hbN, h_load (endC bk.en) ⟨⟨_, rfl⟩, ⟨_, rfl⟩, ⟨_, rfl⟩, ⟨_, rfl⟩, trivial⟩ (fun _ => ?_) ?_⟩
      · show Reads g6 (((vaddr u).add (b * 5)).add 1) _
        rw [add_add]; exact hrd
      refine h_call0 (s32 bk.en) ?_
      rintro w g7 ⟨l7, ho⟩
      rw [← next_nat hO hbx] at ho
      refine ⟨[w], ⟨ho.ints.fit, trivial⟩, rfl, ?_⟩
      simp only [endC, List.cons_append, List.nil_append]
      have hwl := ho.ints.len
      rw [List.length_map] at hwl
      have hn2 := nextN_len B' b
      obtain ⟨q, hq⟩ : ∃ q : Nat → Bool, q = fun a => blkP B' a (L.getD a fun _ => false) v := ⟨_, rfl⟩
      have hqa : ∀ {a}, a < B'.length → (inP B' L)[a]? = some (blkP B' a (L.getD a fun _ => false)) := fun {a} ha => by
        obtain ⟨z, hz⟩ : ∃ z, L[a]? = some z := ⟨_, List.getElem?_eq_getElem (by rw [hLl]; exact ha)⟩
        rw [inP_at hz]
        simp [List.getD_eq_getElem?_getD, hz]
      have l67 := l6.trans l7
      refine h_loop (fun xs h' => ∃ (j : Nat), xs = [.bool (((nextN B' b).take j).any q), natV j] ∧ j ≤ (nextN B' b).length ∧ h' = g7)
        (fun xs h' => (nextN B' b).length - (vi (gv xs 1)).toNat) ⟨0, rfl, Nat.zero_le _, rfl⟩ ?_
      rintro xs g8 J8 - ⟨j, rfl, hj, e8⟩ hJ8
      have e8' := e8.symm
      subst e8'
      simp only [List.cons_append, List.nil_append]
      refine h_ite (fun hc8 => ?_) (fun hc8 => ?_)
      · have hc8' : cmpOp .lss (j : Int) ((vlen w : Nat) : Int) = true := hc8
        replace hc8 := hc8'
        rw [hwl, cmp_lss, decide_eq_true_eq] at hc8
        have hjl : j < (nextN B' b).length := by omega
        have hxa : (nextN B' b)[j]? = some (nextN B' b)[j] := List.getElem?_eq_getElem hjl
        have hxm : (nextN B' b)[j] ∈ nextN B' b := List.getElem_mem _
        generalize (nextN B' b)[j] = a at hxa hxm
        have haN := nextN_lt hO hxm
        have hxi : ((nextN B' b).map Int.ofNat)[j]? = some (a : Int) := by rw [List.getElem?_map, hxa]; rfl
        have hstep : ((nextN B' b).take (j + 1)).any q = (((nextN B' b).take j).any q || q a) := by
          rw [List.take_add_one, hxa, List.any_append]; simp
        obtain ⟨c, tc, rc, hc⟩ := Ki.has (hqa haN) (x := v) (by omega)
        refine ⟨fun _ => ⟨ge0 j, hc8', trivial⟩, h_load [natV a] ⟨⟨_, rfl⟩, trivial⟩ (fun _ => ho.ints.read hxi) ⟨fun _ => nd (vx := vI) rfl rfl hil haN, h_load [c] ⟨tc, trivial⟩ (fun _ => rc.le l67) ?_⟩⟩
        simp only [List.cons_append, List.nil_append]
        refine h_ite (fun h19 => ?_) (fun h19 => ?_)
        · replace h19 : (!((nextN B' b).take j).any q) = true := h19
          rw [Bool.not_eq_true'] at h19
          refine h_call0 (hc l67) ?_
          rintro _ g9 ⟨e9, rfl⟩
          have e9' := e9.symm
          subst e9'
          refine ⟨[.bool (blkP B' a (L.getD a fun _ => false) v)], ⟨⟨_, rfl⟩, trivial⟩, rfl, ?_⟩
          show J8 [.bool (blkP B' a (L.getD a fun _ => false) v), .int .i64 (intOp .add .i64 (j : Int) 1)] _
          rw [int_add_one (n := 1000) (by omega) (by omega)]
          refine hJ8 _ _ ⟨j + 1, ?_, by omega, rfl⟩ ?_
          · rw [hstep, h19, hq]; rfl
          · simp only [gv_zero, gv_succ, vi_int]; omega
        · replace h19 : (!((nextN B' b).take j).any q) = false := h19
          rw [Bool.not_eq_false'] at h19
          show J8 [.bool true, .int .i64 (intOp .add .i64 (j : Int) 1)] _
          rw [int_add_one (n := 1000) (by omega) (by omega)]
          refine hJ8 _ _ ⟨j + 1, ?_, by omega, rfl⟩ ?_
          · rw [hstep, h19]; rfl
          · simp only [gv_zero, gv_succ, vi_int]; omega
      · replace hc8 : cmpOp .lss (j : Int) ((vlen w : Nat) : Int) = false := hc8
        rw [hwl, cmp_lss, decide_eq_false_iff_not] at hc8
        have hje : j = (nextN B' b).length := by omega
        subst hje
        rw [List.take_length]
        have hsame : x v = (nextN B' b).any q := by
          rw [Bool.eq_iff_iff, eqV hO hsol hx v, List.any_eq_true]
          constructor
          · rintro ⟨a, z, e1, e2, e3⟩
            refine ⟨a, e1, ?_⟩
            rw [hq]
            simp only [List.getD_eq_getElem?_getD, e2, Option.getD_some]; exact e3
          · rintro ⟨a, e1, e3⟩
            obtain ⟨z, hz⟩ : ∃ z, L[a]? = some z := ⟨_, List.getElem?_eq_getElem (by rw [hLl]; exact nextN_lt hO e1)⟩
            rw [hq] at e3
            simp only [List.getD_eq_getElem?_getD, hz, Option.getD_some] at e3
            exact ⟨a, _, e1, hz, e3⟩
        obtain ⟨c, tc, rc, hc⟩ := Ko.has hx (x := v) (by omega)
        refine ⟨fun _ => nd (vx := vO) rfl rfl hol hbN, h_load [c] ⟨tc, trivial⟩ (fun _ => rc.le l67) ?_⟩
        simp only [List.cons_append, List.nil_append]
        refine h_call0 (hc l67) ?_
        rintro _ g9 ⟨e9, rfl⟩
        have e9' := e9.symm
        subst e9'
        rw [hsame]
        refine ⟨[.bool ((nextN B' b).any q)], ⟨⟨_, rfl⟩, trivial⟩, rfl, h_ite (fun hz => ?_) (fun _ => ?_)⟩
        · exfalso
          revert hz
          show vb (if (nextN B' b).any q = true then _ else _) = true → False
          cases (nextN B' b).any q <;> intro hz <;> cases hz
        · show J6 [.int .i64 (intOp .add .i64 (v : Int) 1)] _
          rw [int_add_one (n := 1000) (by omega) (by omega)]
          refine hJ6 _ _ ⟨v + 1, rfl, by omega, l67⟩ ?_
          simp only [gv_zero, vi_int]; omega
    · show J [.int .i64 (intOp .add .i64 (b : Int) 1)] _
      rw [int_add_one (n := 1000) (by omega) (by omega)]
      refine hJ _ _ ⟨b + 1, rfl, by omega, l6⟩ ?_
      simp only [gv_zero, vi_int]; omega
  · refine ⟨rfl, hle3.trans (l4.trans l5), ?_⟩
    show Value.bool (cmpOp .eql ((vlen vI : Nat) : Int) ((vlen u : Nat) : Int)) = _
    rw [hil, hul, cmp_eql]; simp
namespace liveEdges
theorem own : ownKnob Tryd.prog.godebug = none := by kernel_rfl
set_option maxRecDepth 100000 in
theorem laidOut : laidOutB Tryd.prog = true := by kernel_rfl
set_option maxRecDepth 100000 in
theorem contract (H : Type) (enc : TypeId × Value → H) (W : World) (base : Nat) (args : Array Value) (ds gs : List (DataW H)) (before : List MemPlace)
    (hval : ∀ (j : Nat) t v, Tryd.f6.params[j]? = some t → args[j]? = some v → Value.okWide Tryd.prog W .any base t v)
    (hW : DataW.Whole enc Tryd.prog Tryd.f6.params.toList Rows.liveEdgesSpec.vars false W args.toList ds gs before) (hL : laidMetH Tryd.prog laid1 W) :
    Calls Tryd.prog 6 args W fun e W' => ∃ v, e = .returned v ∧ Rows.liveEdgesSpec.post enc Tryd.prog Tryd.f6 false true false false W args v W' := by
  have hW' := hW
  obtain ⟨p, q, hA, hV, rfl, hfz, hnd⟩ := hW
  rw [Tryd.params6] at hA hval
  obtain ⟨v0, vs0, d0, ds0, p0, q0, hargs, rfl, rfl, h0, r0⟩ := trodAll_cons hA
  obtain ⟨v1, vs1, d1, ds1, p1, q1, rfl, rfl, rfl, h1, r1⟩ := trodAll_cons r0
  obtain ⟨rfl, rfl, rfl⟩ := trodAll_nil r1
  obtain rfl : args = #[v0, v1] := by cases args; simp_all
  obtain ⟨cs0, rfl, -⟩ := okWide_struct Tryd.underlying24 (hval 0 24 v0 rfl rfl)
  obtain ⟨p0, p1, p2, vs, l, he0, g0, g1, g2, hs⟩ := rd_spec (Rd.of h0)
  obtain rfl : cs0 = ([Value.int .u8 p0, .int .u8 p1, .int .u8 p2, vs]).toArray := by rw [← he0]; simp [Value.cells]
  obtain ⟨a1, n1, c1, rfl⟩ := okWide_slice Tryd.underlying22 (hval 1 22 v1 rfl rfl)
  obtain ⟨mv, ml, he1, hmv, -⟩ := rd_bytes (Rd.of h1)
  obtain rfl : Value.slice a1 n1 c1 = mv := by simpa [Value.cells] using he1
  refine (law_calls (f := 6) (args := [.agg ([Value.int .u8 p0, .int .u8 p1, .int .u8 p2, vs]).toArray, .slice a1 n1 c1]) (s6 (tab_of hL) hs g0 g1 g2 hmv)).mono ?_
  rintro e' W' ⟨rfl, bel⟩
  exact ⟨_, rfl, law_post laidOut hW' rfl (of_decide_eq_true (by kernel_rfl)) rfl Tryd.underlying4 rfl bel⟩
set_option maxRecDepth 100000 in
theorem lifted (os : Os) (started : os.Started) (H : Type) (enc : TypeId × Value → H) :
    ReturnsInHanded {} Tryd.checked os 6 .any (fun w args => (Rows.liveEdgesSpec.pre enc Tryd.prog Tryd.f6 [] false w args ∧ laidMetH Tryd.prog laid1 w) ∧ sizedMet enc Tryd.prog Tryd.f6 (OpenSpec.ofChange Rows.liveEdgesSpec) false w args)
      (Rows.liveEdgesSpec.post enc Tryd.prog Tryd.f6 false true false false) := by
  refine returnsInHanded_of_change_and (C := Tryd.checked) (X := fun w _ => laidMetH Tryd.prog laid1 w) (fun _ _ _ hh h => h.of_heap hh) own started (by kernel_rfl) Tryd.func6
    (ChangeSpec.witness_shaped (enc := enc) (C := Tryd.checked) (os := os) (X := fun w _ => laidMetH Tryd.prog laid1 w) false (World.laidAll Tryd.prog os laid1) #[.agg #[.int .u8 0, .int .u8 0, .int .u8 0, .slice none 0 0], .slice none 0 0] 8 (World.laidAll_os _ _ _)
      (World.shaped_of_ZipB (by kernel_rfl) (by kernel_rfl)) (by kernel_rfl) (by kernel_rfl) (by kernel_rfl)
      (by rw [MakeChecks.laidMetH_plain _ _ _ (by kernel_rfl)]; exact laidMet_laidAll _ (by kernel_rfl) (by kernel_rfl))) ?_
  intro W base args ds gs before hval hW _ _ hL _
  exact contract H enc W base args ds gs before hval hW hL
set_option maxRecDepth 100000 in
theorem proved : Rows.LiveEdgesSaid :=
  OpenClaim.holds_of_wide 6 Tryd.f6 rfl rfl rfl rfl rfl rfl rfl ⟨rfl, rfl, rfl, rfl, rfl⟩ rfl rfl rfl rfl rfl (by kernel_rfl) Tryd.func6 (by kernel_rfl)
    (of_decide_eq_true (by kernel_rfl)) (by unfold Func.isWrapper; first | (rw [if_pos (by decide +kernel)]; kernel_rfl) | (rw [if_neg (by decide +kernel)]; exact ⟨rfl, rfl⟩))
    (fun os started H enc _ => lifted os started H enc)
set_option maxRecDepth 100000 in
theorem card : Rows.LiveEdgesCardSaid :=
  Claim7.holds_tied_plain_at .later [] [.data] true (true, "8ff38404af680b550b91fe5fd74526250c7ed431e07fb59fa8b09eeffdac340c") false proved (fun _ h => by cases h) (by kernel_rfl) (fun _ h => by cases h) liveEdges_row_tie rfl ⟨rfl, rfl⟩ (by kernel_rfl) rfl
    (fun f fn hf hfn => by
      obtain rfl : f = 6 := Option.some.inj ((show Tryd.prog.funcNamed "outworker/outworkerlaw12.LiveEdges" = some 6 by kernel_rfl).symm.trans hf) |>.symm
      obtain rfl : fn = Tryd.f6 := (Option.some.inj (Tryd.func6.symm.trans hfn)).symm
      exact ⟨by kernel_rfl, fun j t ht => by
        rw [Tryd.params6] at ht
        have hm : t ∈ [24, 22] := by simpa using Array.mem_of_getElem? ht
        have hall : ([24, 22].all fun u => !Tryd.prog.wantsStandIn u) = true := by kernel_rfl
        exact (show Tryd.prog.wantsStandIn t = false by simpa using List.all_eq_true.1 hall t hm)⟩)
    (by kernel_rfl)
end liveEdges
/-- The row, under a short name, for the claim. -/
theorem liveEdgesHolds : Rows.LiveEdgesCardSaid := liveEdges.card
#print axioms liveEdgesHolds
end Go.Proofs.YtbbicdfipheaeaaDoor
