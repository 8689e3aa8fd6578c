/-
  The law SearchRefuses answers true. Conditions: none.
-/
import Derived.Test.YtbgfabppmobpgaaDoorR6Aw
import Derived.Test.YtbgfabppmobpgaaDoorR6Tl
import Derived.Test.YtbgfabppmobpgaaDoorR6Lay
set_option linter.unusedVariables false
set_option linter.unusedSimpArgs false
namespace Go.Proofs.YtbgfabppmobpgaaDoor
open Go Go.ChangeShapes Go.WideShapes Go.ChangeAt Go.RowKit

theorem any_take {f : Int → Bool} {l : List Int} {i : Nat} {x : Int} (hx : l[i]? = some x) : (l.take (i + 1)).any f = ((l.take i).any f || f x) := by
  rw [List.take_add_one, hx, List.any_append]; simp
theorem s4 {h : H} {ve vm cv : Value} {n k : Int} {E M : EdgeL} {cost : List Int} (ht : Tab h) (he : EdgesAt h ve E) (hm : EdgesAt h vm M) (hcv : IntsAt h cv cost) :
    CallsA Tryd.prog 4 (fun _ => [.agg #[.int .i64 n, ve, vm], .int .i64 k, cv]) [] h (Ret fun r h' => h.le h' ∧ r = .bool true) := by
  refine c4 (G := [.int .i64 n, ve, vm, .int .i64 k, cv]) ⟨⟨_, rfl⟩, he.fit, hm.fit, ⟨_, rfl⟩, hcv.fit, trivial⟩ ?_
  refine h_call0 (s11 ht) ?_
  rintro _ h1 ⟨l1, rfl⟩
  refine ⟨[.bool true], ⟨⟨_, rfl⟩, trivial⟩, rfl, iteF rfl ?_⟩
  have hel := he.len
  have hml := hm.len
  have hcl := hcv.len
  refine h_ite (fun hc => ⟨rfl, l1, rfl⟩) (fun hc => ?_)
  simp only [holds, X.den, PE.den, SV.den, SV.denL, NK.val, NK.sv, NK.pub, gv_zero, gv_succ, vi_int, vb_bool, vlen_sl, vaddr_ptr, vb_ite, vi_ite, cmp_eql, cmp_neq, cmp_lss, cmp_leq, cmp_gtr, cmp_geq, List.map_nil, List.map_cons, List.cons_append, List.nil_append, List.flatten_nil, needs, Ret, true_and, and_true, decide_eq_true_eq, forall_const, intOp, hel, hml, hcl] at hc
  have b1 : E.length ≤ 100 := by grind
  have b2 : M.length ≤ 100 := by grind
  have b3 : cost.length ≤ 5000 := by grind
  clear hc
  obtain ⟨g, hg⟩ : ∃ g : Gr, g = ⟨n, E, M⟩ := ⟨_, rfl⟩
  have hgn : g.n = n := by rw [hg]
  have K : GrAt h1 ve vm g := by rw [hg]; exact ⟨EdgesAt.le l1 he, EdgesAt.le l1 hm, by show E.length ≤ _; omega, by show M.length ≤ _; omega⟩
  clear hg
  rw [← hgn]
  have hcv1 := hcv.le l1
  refine h_call0 (s14 (k := k) (ht.le l1) K hcv1 (by omega)) ?_
  rintro r h2 ⟨l2, hq⟩
  obtain ⟨rv, rs, hr, hf, hZ⟩ : ∃ rv rs, r = .tuple #[rv, .int .i64 rs, .int .i64 (bestE g k cost)] ∧ Fits .sl rv ∧ ((bestE g k cost ≠ 0 ∧ vlen rv = 0 ∧ rs = 0) ∨ (bestE g k cost = 0 ∧ ∃ l, IntsAt h2 rv l ∧ BestR g k cost l rs)) := by
    rcases hq with ⟨q1, q2⟩ | ⟨q1, v, l, s, q2, q3, q4⟩
    · exact ⟨_, _, q2, fits_nil, .inl ⟨q1, rfl, rfl⟩⟩
    · exact ⟨_, _, by rw [q1]; exact q2, q3.fit, .inr ⟨q1, l, q3, q4⟩⟩
  subst hr
  clear hq
  refine ⟨[rv, .int .i64 rs, .int .i64 (bestE g k cost)], ⟨hf, ⟨_, rfl⟩, ⟨_, rfl⟩, trivial⟩, rfl, ?_⟩
  refine h_call0 (s18 (K.le l2)) ?_
  rintro _ h3 ⟨e3, rfl⟩
  have e3' := e3.symm
  subst e3'
  refine ⟨[.bool g.ok], ⟨⟨_, rfl⟩, trivial⟩, rfl, ?_⟩
  have l12 := l1.trans l2
  generalize hB : bestE g k cost = be at hZ
  -- with an error: nothing is answered
  have bad : ∀ {w : Int} {a b : Out} {Gx : List Value} {Lx : Lv}, be = w → w ≠ 0 → gv Gx 8 = .int .i64 be → gv Gx 6 = rv → gv Gx 7 = .int .i64 rs → vb ((X.not (.ite (.ite (.cmp .neq (.var 8) (.lit 0)) (.cmp .eql (.len 6) (.lit 0)) (.tt false)) (.cmp .eql (.var 7) (.lit 0)) (.tt false))).den Gx) = false := fun {w a b Gx Lx} e1 e2 g8 g6 g7 => by
    rcases hZ with ⟨z1, z2, z3⟩ | ⟨z1, _⟩
    · simp only [X.den, g8, g6, g7, vi_int, vb_bool, vb_ite, z2, z3, cmp_neq, cmp_eql]
      simp [z1]
    · exact absurd (e1.symm.trans z1) e2
  refine h_ite (fun hc => ?_) (fun hc => ?_)
  · simp only [holds, X.den, PE.den, SV.den, SV.denL, NK.val, NK.sv, NK.pub, gv_zero, gv_succ, vi_int, vb_bool, vlen_sl, vaddr_ptr, vb_ite, vi_ite, cmp_eql, cmp_neq, cmp_lss, cmp_leq, cmp_gtr, cmp_geq, List.map_nil, List.map_cons, List.cons_append, List.nil_append, List.flatten_nil, needs, Ret, true_and, and_true, decide_eq_true_eq, forall_const, intOp, hcl] at hc
    have hb : be = 30 := by rw [← hB]; unfold bestE; rw [if_pos (by grind)]
    refine iteT ?_ (iteF (bad (a := .fail) (b := .fail) (Lx := []) hb (by omega) rfl rfl rfl) ⟨rfl, l12, rfl⟩)
    show cmpOp .eql be 30 = true
    rw [hb]; rfl
  simp only [holds, X.den, PE.den, SV.den, SV.denL, NK.val, NK.sv, NK.pub, gv_zero, gv_succ, vi_int, vb_bool, vlen_sl, vaddr_ptr, vb_ite, vi_ite, cmp_eql, cmp_neq, cmp_lss, cmp_leq, cmp_gtr, cmp_geq, List.map_nil, List.map_cons, List.cons_append, List.nil_append, List.flatten_nil, needs, Ret, true_and, and_true, decide_eq_true_eq, forall_const, intOp, hcl] at hc
  have hok : g.ok = true := by grind
  have hcn : (cost.length : Int) = g.n := by grind
  clear hc
  refine h_ite (fun hc => ?_) (fun hc => ?_)
  · simp only [holds, X.den, PE.den, SV.den, SV.denL, NK.val, NK.sv, NK.pub, gv_zero, gv_succ, vi_int, vb_bool, vlen_sl, vaddr_ptr, vb_ite, vi_ite, cmp_eql, cmp_neq, cmp_lss, cmp_leq, cmp_gtr, cmp_geq, List.map_nil, List.map_cons, List.cons_append, List.nil_append, List.flatten_nil, needs, Ret, true_and, and_true, decide_eq_true_eq, forall_const, intOp] at hc
    have hb : be = 40 := by rw [← hB]; unfold bestE; rw [if_neg (by rw [hok]; simp [hcn]), if_pos (by grind)]
    refine iteT ?_ (iteF (bad (a := .fail) (b := .fail) (Lx := []) hb (by omega) rfl rfl rfl) ⟨rfl, l12, rfl⟩)
    show cmpOp .eql be 40 = true
    rw [hb]; rfl
  simp only [holds, X.den, PE.den, SV.den, SV.denL, NK.val, NK.sv, NK.pub, gv_zero, gv_succ, vi_int, vb_bool, vlen_sl, vaddr_ptr, vb_ite, vi_ite, cmp_eql, cmp_neq, cmp_lss, cmp_leq, cmp_gtr, cmp_geq, List.map_nil, List.map_cons, List.cons_append, List.nil_append, List.flatten_nil, needs, Ret, true_and, and_true, decide_eq_true_eq, forall_const, intOp] at hc
  have hk1 : 1 ≤ k := by grind
  have hk8 : k ≤ 8 := by grind
  clear hc
  refine h_ite (fun hc => ?_) (fun hc => ?_)
  · replace hc : cmpOp .gtr g.n 14 = true := hc
    rw [cmp_gtr, decide_eq_true_eq] at hc
    have hb : be = 9 := by rw [← hB]; unfold bestE; rw [if_neg (by rw [hok]; simp [hcn]), if_neg (by omega), if_pos hc]
    refine iteT ?_ (iteF (bad (a := .fail) (b := .fail) (Lx := []) hb (by omega) rfl rfl rfl) ⟨rfl, l12, rfl⟩)
    show cmpOp .eql be 9 = true
    rw [hb]; rfl
  replace hc : cmpOp .gtr g.n 14 = false := hc
  rw [cmp_gtr, decide_eq_false_iff_not] at hc
  have hcv2 := hcv.le l12
  have hbe : be = if cost.any (fun c => decide (c < 1 ∨ 1000 < c)) = true then 2 else 0 := by
    rw [← hB]; unfold bestE; rw [if_neg (by rw [hok]; simp [hcn]), if_neg (by omega), if_neg hc]
  refine h_loop (fun xs h' => ∃ i : Nat, xs = [.int .i64 (if (cost.take i).any (fun c => decide (c < 1 ∨ 1000 < c)) = true then 2 else 0), natV i] ∧ i ≤ cost.length ∧ h' = h2) (fun xs h' => cost.length - (vi (gv xs 1)).toNat) ⟨0, rfl, Nat.zero_le _, rfl⟩ ?_
  rintro xs h4 J - ⟨i, rfl, hi, e4⟩ hJ
  have e4' := e4.symm
  subst e4'
  refine h_ite (fun hd => ?_) (fun hd => ?_)
  · replace hd : cmpOp .lss (i : Int) ((vlen cv : Nat) : Int) = true := hd
    rw [hcl, cmp_lss, decide_eq_true_eq] at hd
    have hil : i < cost.length := by omega
    have hx := costF_some hil
    generalize costF cost i = x at hx
    refine ⟨fun _ => needIx (i := i) (v := cv) rfl rfl hcl hil, h_load [.int .i64 x] ⟨⟨_, rfl⟩, trivial⟩ (fun _ => hcv2.read hx) ?_⟩
    generalize hw : (if (cost.take i).any (fun c => decide (c < 1 ∨ 1000 < c)) = true then (2 : Int) else 0) = w at hJ
    show J [.int .i64 (vi (if vb (if cmpOp .lss x 1 = true then Value.bool true else .bool (cmpOp .gtr x 1000)) = true then Value.int .i64 2 else .int .i64 w)), .int .i64 (intOp .add .i64 (i : Int) 1)] _
    rw [int_add_one (n := 1000001) (by omega) (by omega)]
    refine hJ _ _ ⟨i + 1, ?_, by omega, rfl⟩ (by simp only [gv_zero, gv_succ, vi_int]; omega)
    have e : vi (if vb (if cmpOp .lss x 1 = true then Value.bool true else .bool (cmpOp .gtr x 1000)) = true then Value.int .i64 2 else .int .i64 w) = if (cost.take (i + 1)).any (fun c => decide (c < 1 ∨ 1000 < c)) = true then 2 else 0 := by
      rw [any_take hx, ← hw, vb_ite, cmp_lss, cmp_gtr]
      simp only [vb_bool]
      by_cases p1 : x < 1
      · simp [p1]
      · by_cases p2 : 1000 < x
        · simp [p1, p2]
        · cases p3 : (cost.take i).any fun c => decide (c < 1 ∨ 1000 < c) with
          | true => simp [p1, p2]
          | false => simp [p1, p2]
    rw [e]
  · replace hd : cmpOp .lss (i : Int) ((vlen cv : Nat) : Int) = false := hd
    rw [hcl, cmp_lss, decide_eq_false_iff_not] at hd
    obtain rfl : i = cost.length := by omega
    rw [List.take_length, ← hbe]
    refine iteT ?_ ?_
    · show cmpOp .eql be be = true
      rw [cmp_eql]; simp
    rcases hZ with ⟨z1, z2, z3⟩ | ⟨z1, l, hl, R⟩
    · exact iteF (bad (w := be) (a := .fail) (b := .fail) (Lx := []) rfl z1 rfl rfl rfl) ⟨rfl, l12, rfl⟩
    · refine iteT ?_ (iteT ?_ ?_)
      · show (!vb (if vb (if cmpOp .neq be 0 = true then Value.bool _ else .bool false) = true then _ else Value.bool false)) = true
        rw [z1]; rfl
      · show cmpOp .eql be 0 = true
        rw [z1]; rfl
      refine h_call0 (s15 (K.le l2) hok hl R.len R.ok) ?_
      rintro _ h5 ⟨e5, rfl⟩
      have e5' := e5.symm
      subst e5'
      refine ⟨[.bool true], ⟨⟨_, rfl⟩, trivial⟩, rfl, iteT rfl ?_⟩
      have hcr : ∀ u, u < cost.length → 1 ≤ costF cost u ∧ costF cost u ≤ 1000 := fun u hu => by
        rw [z1] at hbe
        split at hbe
        · cases hbe
        · rename_i q
          rw [Bool.not_eq_true, List.any_eq_false] at q
          have := q _ (costF_mem hu)
          rw [decide_eq_true_eq] at this; omega
      refine h_call0 (s16 hl hcv2 (by have := R.len; omega) (by have := R.len; omega) fun u hu => by have := hcr u (by have := R.len; omega); omega) ?_
      rintro _ h6 ⟨e6, rfl⟩
      refine ⟨[.int .i64 _], ⟨⟨_, rfl⟩, trivial⟩, rfl, rfl, by rw [e6]; exact l12, ?_⟩
      have := R.sum
      rw [← R.len] at this
      show Value.bool (cmpOp .eql rs (costL (costF cost) (gt l) 0 l.length)) = _
      rw [← this, cmp_eql]; simp
namespace searchRefuses
theorem own : ownKnob Tryd.prog.godebug = none := by kernel_rfl
set_option maxRecDepth 100000 in
theorem laidOut : laidOutB Tryd.prog = true := by kernel_rfl
set_option maxRecDepth 100000 in
theorem contract (H : Type) (enc : TypeId × Value → H) (W : World) (base : Nat) (args : Array Value) (ds gs : List (DataW H)) (before : List MemPlace)
    (hval : ∀ (j : Nat) t v, Tryd.f4.params[j]? = some t → args[j]? = some v → Value.okWide Tryd.prog W .any base t v)
    (hW : DataW.Whole enc Tryd.prog Tryd.f4.params.toList Rows.searchRefusesSpec.vars false W args.toList ds gs before) (hL : laidMetH Tryd.prog laid1 W) :
    Calls Tryd.prog 4 args W fun e W' => ∃ v, e = .returned v ∧ Rows.searchRefusesSpec.post enc Tryd.prog Tryd.f4 false true false false W args v W' := by
  have hW' := hW
  obtain ⟨p, q, hA, hV, rfl, hfz, hnd⟩ := hW
  rw [Tryd.params4] at hA hval
  obtain ⟨v0, vs0, d0, ds0, p0, q0, hargs, rfl, rfl, h0, r0⟩ := trodAll_cons hA
  obtain ⟨v1, vs1, d1, ds1, p1, q1, rfl, rfl, rfl, h1, r1⟩ := trodAll_cons r0
  obtain ⟨v2, vs2, d2, ds2, p2, q2, rfl, rfl, rfl, h2, r2⟩ := trodAll_cons r1
  obtain ⟨rfl, rfl, rfl⟩ := trodAll_nil r2
  obtain rfl : args = #[v0, v1, v2] := by cases args; simp_all
  obtain ⟨cs0, rfl, -⟩ := okWide_struct Tryd.underlying27 (hval 0 27 v0 rfl rfl)
  obtain ⟨n, ve, E, vm, M, he0, hE, hM⟩ := rd_graph (Rd.of h0)
  obtain rfl : cs0 = ([Value.int .i64 n, ve, vm]).toArray := by rw [← he0]; simp [Value.cells]
  obtain ⟨k, rfl, -, -, wf1⟩ := open_int Tryd.underlying3 (hval 1 3 v1 rfl rfl) h1
  obtain ⟨a2, n2, c2, rfl⟩ := okWide_slice Tryd.underlying29 (hval 2 29 v2 rfl rfl)
  obtain ⟨cv, cost, he2, hcv⟩ := rd_nums (Rd.of h2)
  obtain rfl : Value.slice a2 n2 c2 = cv := by simpa [Value.cells] using he2
  refine (law_calls (f := 4) (args := [.agg ([Value.int .i64 n, ve, vm]).toArray, .int .i64 k, .slice a2 n2 c2]) (s4 (tab_of hL) hE hM hcv)).mono ?_
  rintro e' W' ⟨rfl, bel⟩
  exact ⟨_, rfl, law_post laidOut hW' rfl (of_decide_eq_true (by kernel_rfl)) rfl Tryd.underlying4 rfl bel⟩
set_option maxRecDepth 100000 in
theorem lifted (os : Os) (started : os.Started) (H : Type) (enc : TypeId × Value → H) :
    ReturnsInHanded {} Tryd.checked os 4 .any (fun w args => (Rows.searchRefusesSpec.pre enc Tryd.prog Tryd.f4 [] false w args ∧ laidMetH Tryd.prog laid1 w) ∧ sizedMet enc Tryd.prog Tryd.f4 (OpenSpec.ofChange Rows.searchRefusesSpec) false w args)
      (Rows.searchRefusesSpec.post enc Tryd.prog Tryd.f4 false true false false) := by
  refine returnsInHanded_of_change_and (C := Tryd.checked) (X := fun w _ => laidMetH Tryd.prog laid1 w) (fun _ _ _ hh h => h.of_heap hh) own started (by kernel_rfl) Tryd.func4
    (ChangeSpec.witness_shaped (enc := enc) (C := Tryd.checked) (os := os) (X := fun w _ => laidMetH Tryd.prog laid1 w) false (World.laidAll Tryd.prog os laid1) #[.agg #[.int .i64 0, .slice none 0 0, .slice none 0 0], .int .i64 0, .slice none 0 0] 8 (World.laidAll_os _ _ _)
      (World.shaped_of_ZipB (by kernel_rfl) (by kernel_rfl)) (by kernel_rfl) (by kernel_rfl) (by kernel_rfl)
      (by rw [MakeChecks.laidMetH_plain _ _ _ (by kernel_rfl)]; exact laidMet_laidAll _ (by kernel_rfl) (by kernel_rfl))) ?_
  intro W base args ds gs before hval hW _ _ hL _
  exact contract H enc W base args ds gs before hval hW hL
set_option maxRecDepth 100000 in
theorem proved : Rows.SearchRefusesSaid :=
  OpenClaim.holds_of_wide 4 Tryd.f4 rfl rfl rfl rfl rfl rfl rfl ⟨rfl, rfl, rfl, rfl, rfl⟩ rfl rfl rfl rfl rfl (by kernel_rfl) Tryd.func4 (by kernel_rfl)
    (of_decide_eq_true (by kernel_rfl)) (by unfold Func.isWrapper; first | (rw [if_pos (by decide +kernel)]; kernel_rfl) | (rw [if_neg (by decide +kernel)]; exact ⟨rfl, rfl⟩))
    (fun os started H enc _ => lifted os started H enc)
set_option maxRecDepth 100000 in
theorem card : Rows.SearchRefusesCardSaid :=
  Claim7.holds_tied_plain_at .later [] [.data] true (true, "74a93455e167e44cac747f8244595d2a0244a2ab46c0a069dc415a11e19b33d5") false proved (fun _ h => by cases h) (by kernel_rfl) (fun _ h => by cases h) searchRefuses_row_tie rfl ⟨rfl, rfl⟩ (by kernel_rfl) rfl
    (fun f fn hf hfn => by
      obtain rfl : f = 4 := Option.some.inj ((show Tryd.prog.funcNamed "outworker/outworkerlaw17.SearchRefuses" = some 4 by kernel_rfl).symm.trans hf) |>.symm
      obtain rfl : fn = Tryd.f4 := (Option.some.inj (Tryd.func4.symm.trans hfn)).symm
      exact ⟨by kernel_rfl, fun j t ht => by
        rw [Tryd.params4] at ht
        have hm : t ∈ [27, 3, 29] := by simpa using Array.mem_of_getElem? ht
        have hall : ([27, 3, 29].all fun u => !Tryd.prog.wantsStandIn u) = true := by kernel_rfl
        exact (show Tryd.prog.wantsStandIn t = false by simpa using List.all_eq_true.1 hall t hm)⟩)
    (by kernel_rfl)
end searchRefuses
/-- The row, under a short name, for the claim. -/
theorem searchRefusesHolds : Rows.SearchRefusesCardSaid := searchRefuses.card
#print axioms searchRefusesHolds
end Go.Proofs.YtbgfabppmobpgaaDoor
