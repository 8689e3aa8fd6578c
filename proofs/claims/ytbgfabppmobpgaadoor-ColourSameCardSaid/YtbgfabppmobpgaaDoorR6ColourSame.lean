/-
  The law ColourSame answers true. Conditions: none.
-/
import Derived.Test.YtbgfabppmobpgaaDoorR6Ci
import Derived.Test.YtbgfabppmobpgaaDoorR6Tm
import Derived.Test.YtbgfabppmobpgaaDoorR6Lay
set_option linter.unusedVariables false
set_option linter.unusedSimpArgs false
namespace Go.Proofs.YtbgfabppmobpgaaDoor
open Go Go.ChangeShapes Go.WideShapes Go.ChangeAt Go.RowKit

theorem s10 {h : H} {n k bits : Int} {ev mv : Value} {e m : List Int} (ht : Tab h) (hn : 0 ≤ n) (he : BytesAt h ev e) (hm : BytesAt h mv m) (hk : 0 ≤ k) :
    CallsA Tryd.prog 10 (fun _ => [.int .u8 n, ev, mv, .int .u8 k, .int .u16 bits]) [] h (Ret fun r h' => h.le h' ∧ r = .bool true) := by
  refine c10 (G := [.int .u8 n, ev, mv, .int .u8 k, .int .u16 bits]) ⟨⟨_, rfl⟩, he.fit, hm.fit, ⟨_, rfl⟩, ⟨_, rfl⟩, trivial⟩ ?_
  refine h_call0 (s19 ht) ?_
  rintro _ h1 ⟨l1, rfl⟩
  refine ⟨[.bool true], ⟨⟨_, rfl⟩, trivial⟩, rfl, iteF rfl ?_⟩
  simp only [List.cons_append, List.nil_append]
  obtain ⟨N, hN⟩ : ∃ N : Nat, N = (n % 13).toNat := ⟨_, rfl⟩
  have hN13 : N < 13 := by omega
  have hLE := made_len (by omega : N < 14) (eB e)
  have hLM := made_len (by omega : N < 14) (mB e m)
  have hg : (⟨(N : Int), edI (madeE N (eB e)), edI (madeE N (mB e m))⟩ : Gr).ok = true := made_graph (by omega) fun j hj => by unfold mB; rw [hj]; rfl
  obtain ⟨E, hE⟩ : ∃ E, E = madeE N (eB e) := ⟨_, rfl⟩
  obtain ⟨M, hM⟩ : ∃ M, M = madeE N (mB e m) := ⟨_, rfl⟩
  rw [← hE] at hLE hg
  rw [← hM] at hLM hg
  have made : ∀ {h2 : H}, h.le h2 → CallsA Tryd.prog 12 (fun _ => [.int .u8 n, ev, mv]) [] h2 (Ret fun r h' => h2.le h' ∧ ∃ u v, r = .agg #[.int .i64 (N : Int), u, v] ∧ GrAt h' u v ⟨(N : Int), edI E, edI M⟩) := fun {h2} l => by
    refine (s12 hn (SlAt.le byteC_mono l he) (SlAt.le byteC_mono l hm)).mono ?_
    rintro r cs h' ⟨rfl, u, v, f, f', rfl, T⟩
    rw [← hN, ← hE, ← hM] at T
    exact ⟨rfl, T.le, u, v, by rw [hN], T.gr (by omega) (by omega) (N : Int)⟩
  have e3 : intOp .add .i64 1 (IntKind.i64.wrap (intOp .rem .u8 k 8)) = 1 + k % 8 := by rw [rem_u8 hk (by omega) (by omega), add_small (by omega) (by omega)]
  obtain ⟨κ, hκ⟩ : ∃ κ : Nat, (κ : Int) = 1 + k % 8 := ⟨(1 + k % 8).toNat, by omega⟩
  rw [← hκ] at e3
  have col : ∀ {h2 : H} {u v fv : Value}, h.le h2 → GrAt h2 u v ⟨(N : Int), edI E, edI M⟩ → BoolsAt h2 fv (firmL N bits) → CallsA Tryd.prog 20 (fun _ => [.agg #[.int .i64 (N : Int), u, v], .int .i64 (intOp .add .i64 1 (IntKind.i64.wrap (intOp .rem .u8 k 8))), fv]) [] h2 (Ret fun r h' => h2.le h' ∧ ∃ v' w, r = .tuple #[v', .int .i64 0] ∧ IntsAt h' v' (w.out κ) ∧ (w.out κ).length = N ∧ CEnd ⟨(N : Int), edI E, edI M⟩ κ (firmL N bits) w) := fun {h2 u v fv} l K hf => by
    rw [e3]
    have := col_ok (k := (κ : Int)) (ht.le l) K hf hg (by rw [firmL_len]; rfl) (by omega) (by omega)
    rw [Int.toNat_natCast] at this
    exact this
  clear hE hM hN
  refine h_call0 (made l1) ?_
  rintro _ h2 ⟨l2, u, v, rfl, K2⟩
  refine ⟨[.int .i64 (N : Int), u, v], ⟨⟨_, rfl⟩, K2.e.fit, K2.m.fit, trivial⟩, rfl, ?_⟩
  simp only [List.cons_append, List.nil_append]
  refine h_call0 (s21 (n := N) (by omega)) ?_
  rintro fv h3 ⟨l3, hfv⟩
  refine ⟨[fv], ⟨hfv.fit, trivial⟩, rfl, ?_⟩
  simp only [List.cons_append, List.nil_append]
  have l03 := l1.trans (l2.trans l3)
  refine h_call0 (col l03 (K2.le l3) hfv) ?_
  rintro _ h4 ⟨l4, av, wa, rfl, ia, la, Ea⟩
  refine ⟨[av, .int .i64 0], ⟨ia.fit, ⟨_, rfl⟩, trivial⟩, rfl, ?_⟩
  simp only [List.cons_append, List.nil_append]
  have l04 := l03.trans l4
  refine h_call0 (made l04) ?_
  rintro _ h5 ⟨l5, u2, v2, rfl, K5⟩
  refine ⟨[.int .i64 (N : Int), u2, v2], ⟨⟨_, rfl⟩, K5.e.fit, K5.m.fit, trivial⟩, rfl, ?_⟩
  simp only [List.cons_append, List.nil_append]
  refine h_call0 (s21 (n := N) (by omega)) ?_
  rintro fv2 h6 ⟨l6, hfv2⟩
  refine ⟨[fv2], ⟨hfv2.fit, trivial⟩, rfl, ?_⟩
  simp only [List.cons_append, List.nil_append]
  have l06 := l04.trans (l5.trans l6)
  refine h_call0 (col l06 (K5.le l6) hfv2) ?_
  rintro _ h7 ⟨l7, bv, wb, rfl, ib, lb, Eb⟩
  refine ⟨[bv, .int .i64 0], ⟨ib.fit, ⟨_, rfl⟩, trivial⟩, rfl, ?_⟩
  simp only [List.cons_append, List.nil_append]
  obtain rfl : wa = wb := Ea.ends.one Eb.ends
  clear Ea Eb
  have l47 := l5.trans (l6.trans l7)
  have l07 := l06.trans l7
  have ia7 := ia.le l47
  have hfv7 := SlAt.le boolC_mono (l4.trans l47) hfv
  have hal := ia7.len
  have hbl := ib.len
  have hfl := hfv7.len
  rw [firmL_len] at hfl
  rw [la] at hal hbl
  generalize wa.out κ = out at ia7 ib la hal hbl
  clear ia lb
  refine iteF ?_ ?_
  · show vb (if vb (if cmpOp .neq 0 0 = true then Value.bool true else .bool (cmpOp .neq 0 0)) = true then Value.bool true else .bool (cmpOp .neq ((vlen av : Nat) : Int) ((vlen bv : Nat) : Int))) = false
    rw [hal, hbl, cmp_neq, cmp_neq]; simp
  have K27 := K2.le (l3.trans (l4.trans l47))
  refine h_range (n := N) (fun i h' => h7.le h') hal (by omega) rfl (by omega) (H.le_refl _) ?_ ?_
  · rintro i h8 J hi l8 hJ
    have hoi : out[i]? = some (gt out i) := gt_some (by omega)
    have hfi := firmL_at (bits := bits) hi
    have ra : Reads h8 ((vaddr av).add (i * 1)) [.int .i64 (gt out i)] := (ia7.le l8).read hoi
    have rb : Reads h8 ((vaddr bv).add (i * 1)) [.int .i64 (gt out i)] := (ib.le l8).read hoi
    have rf : Reads h8 ((vaddr fv).add (i * 1)) [.bool (firmB bits i)] := BoolsAt.read (SlAt.le boolC_mono l8 hfv7) hfi
    have heq : (!cmpOp .neq (gt out i) (gt out i)) = true := by rw [cmp_neq]; simp
    refine h_load [.int .i64 (gt out i)] ⟨⟨_, rfl⟩, trivial⟩ (fun _ => ra) (h_need (needIx (i := i) (v := bv) rfl rfl hbl hi) (h_load [.int .i64 (gt out i)] ⟨⟨_, rfl⟩, trivial⟩ (fun _ => rb) (h_need (needIx (i := i) (v := fv) rfl rfl hfl hi) (h_load [.bool (firmB bits i)] ⟨⟨_, rfl⟩, trivial⟩ (fun _ => rf) (iteT heq ?_)))))
    simp only [List.cons_append, List.nil_append]
    refine h_call0 (s21 (n := N) (by omega)) ?_
    rintro fv3 h9 ⟨l9, hfv3⟩
    have hf3l := hfv3.len
    rw [firmL_len] at hf3l
    refine ⟨[fv3], ⟨hfv3.fit, trivial⟩, rfl, h_still (rf.le l9) (h_still (rb.le l9) (h_still (ra.le l9) (h_need (needIx (i := i) (v := fv3) rfl rfl hf3l hi) (h_load [.bool (firmB bits i)] ⟨⟨_, rfl⟩, trivial⟩ (fun _ => BoolsAt.read hfv3 hfi) ?_))))⟩
    refine iteF ?_ (hJ _ (l8.trans l9))
    show vb (if firmB bits i = true then Value.bool (!firmB bits i) else .bool (firmB bits i)) = false
    cases firmB bits i <;> rfl
  · rintro h8 J l8
    simp only [List.cons_append, List.nil_append]
    have l08 := l07.trans l8
    refine h_call0 (made l08) ?_
    rintro _ h9 ⟨l9, u3, v3, rfl, K9⟩
    refine ⟨[.int .i64 (N : Int), u3, v3], ⟨⟨_, rfl⟩, K9.e.fit, K9.m.fit, trivial⟩, rfl, ?_⟩
    simp only [List.cons_append, List.nil_append]
    have K29 := K27.le (l8.trans l9)
    refine h_call0 (s24 K29.e K9.e (by show (edI E).length ≤ _; rw [edI_len]; omega)) ?_
    rintro _ h10 ⟨e10, rfl⟩
    have e10' := e10.symm
    subst e10'
    refine ⟨[.bool true], ⟨⟨_, rfl⟩, trivial⟩, rfl, iteT rfl ?_⟩
    simp only [List.cons_append, List.nil_append]
    refine h_call0 (s24 K29.m K9.m (by show (edI M).length ≤ _; rw [edI_len]; omega)) ?_
    rintro _ h10 ⟨e10, rfl⟩
    exact ⟨[.bool true], ⟨⟨_, rfl⟩, trivial⟩, rfl, rfl, by rw [e10]; exact l08.trans l9, rfl⟩
namespace colourSame
theorem own : ownKnob Tryd.prog.godebug = none := by kernel_rfl
set_option maxRecDepth 100000 in
theorem laidOut : laidOutB Tryd.prog = true := by kernel_rfl
set_option maxRecDepth 100000 in
theorem contract (H : Type) (enc : TypeId × Value → H) (W : World) (base : Nat) (args : Array Value) (ds gs : List (DataW H)) (before : List MemPlace)
    (hval : ∀ (j : Nat) t v, Tryd.f10.params[j]? = some t → args[j]? = some v → Value.okWide Tryd.prog W .any base t v)
    (hW : DataW.Whole enc Tryd.prog Tryd.f10.params.toList Rows.colourSameSpec.vars false W args.toList ds gs before) (hL : laidMetH Tryd.prog laid1 W) :
    Calls Tryd.prog 10 args W fun e W' => ∃ v, e = .returned v ∧ Rows.colourSameSpec.post enc Tryd.prog Tryd.f10 false true false false W args v W' := by
  have hW' := hW
  obtain ⟨p, q, hA, hV, rfl, hfz, hnd⟩ := hW
  rw [Tryd.params10] at hA hval
  obtain ⟨v0, vs0, d0, ds0, p0, q0, hargs, rfl, rfl, h0, r0⟩ := trodAll_cons hA
  obtain ⟨v1, vs1, d1, ds1, p1, q1, rfl, rfl, rfl, h1, r1⟩ := trodAll_cons r0
  obtain ⟨v2, vs2, d2, ds2, p2, q2, rfl, rfl, rfl, h2, r2⟩ := trodAll_cons r1
  obtain ⟨v3, vs3, d3, ds3, p3, q3, rfl, rfl, rfl, h3, r3⟩ := trodAll_cons r2
  obtain ⟨v4, vs4, d4, ds4, p4, q4, rfl, rfl, rfl, h4, r4⟩ := trodAll_cons r3
  obtain ⟨rfl, rfl, rfl⟩ := trodAll_nil r4
  obtain rfl : args = #[v0, v1, v2, v3, v4] := by cases args; simp_all
  obtain ⟨n, rfl, -, -, wf0⟩ := open_int Tryd.underlying5 (hval 0 5 v0 rfl rfl) h0
  obtain ⟨a1, n1, c1, rfl⟩ := okWide_slice Tryd.underlying22 (hval 1 22 v1 rfl rfl)
  obtain ⟨ev, el, he1, hev, -⟩ := rd_bytes (Rd.of h1)
  obtain rfl : Value.slice a1 n1 c1 = ev := by simpa [Value.cells] using he1
  obtain ⟨a2, n2, c2, rfl⟩ := okWide_slice Tryd.underlying22 (hval 2 22 v2 rfl rfl)
  obtain ⟨mv, ml, he2, hmv, -⟩ := rd_bytes (Rd.of h2)
  obtain rfl : Value.slice a2 n2 c2 = mv := by simpa [Value.cells] using he2
  obtain ⟨k, rfl, -, -, wf3⟩ := open_int Tryd.underlying5 (hval 3 5 v3 rfl rfl) h3
  obtain ⟨bits, rfl, -, -, wf4⟩ := open_int Tryd.underlying43 (hval 4 43 v4 rfl rfl) h4
  refine (law_calls (f := 10) (args := [.int .u8 n, .slice a1 n1 c1, .slice a2 n2 c2, .int .u8 k, .int .u16 bits]) (s10 (tab_of hL) (u8_bounds wf0).1 hev hmv (u8_bounds wf3).1)).mono ?_
  rintro e' W' ⟨rfl, bel⟩
  exact ⟨_, rfl, law_post laidOut hW' rfl (of_decide_eq_true (by kernel_rfl)) rfl Tryd.underlying4 rfl bel⟩
set_option maxRecDepth 100000 in
theorem lifted (os : Os) (started : os.Started) (H : Type) (enc : TypeId × Value → H) :
    ReturnsInHanded {} Tryd.checked os 10 .any (fun w args => (Rows.colourSameSpec.pre enc Tryd.prog Tryd.f10 [] false w args ∧ laidMetH Tryd.prog laid1 w) ∧ sizedMet enc Tryd.prog Tryd.f10 (OpenSpec.ofChange Rows.colourSameSpec) false w args)
      (Rows.colourSameSpec.post enc Tryd.prog Tryd.f10 false true false false) := by
  refine returnsInHanded_of_change_and (C := Tryd.checked) (X := fun w _ => laidMetH Tryd.prog laid1 w) (fun _ _ _ hh h => h.of_heap hh) own started (by kernel_rfl) Tryd.func10
    (ChangeSpec.witness_shaped (enc := enc) (C := Tryd.checked) (os := os) (X := fun w _ => laidMetH Tryd.prog laid1 w) false (World.laidAll Tryd.prog os laid1) #[.int .u8 0, .slice none 0 0, .slice none 0 0, .int .u8 0, .int .u16 0] 8 (World.laidAll_os _ _ _)
      (World.shaped_of_ZipB (by kernel_rfl) (by kernel_rfl)) (by kernel_rfl) (by kernel_rfl) (by kernel_rfl)
      (by rw [MakeChecks.laidMetH_plain _ _ _ (by kernel_rfl)]; exact laidMet_laidAll _ (by kernel_rfl) (by kernel_rfl))) ?_
  intro W base args ds gs before hval hW _ _ hL _
  exact contract H enc W base args ds gs before hval hW hL
set_option maxRecDepth 100000 in
theorem proved : Rows.ColourSameSaid :=
  OpenClaim.holds_of_wide 10 Tryd.f10 rfl rfl rfl rfl rfl rfl rfl ⟨rfl, rfl, rfl, rfl, rfl⟩ rfl rfl rfl rfl rfl (by kernel_rfl) Tryd.func10 (by kernel_rfl)
    (of_decide_eq_true (by kernel_rfl)) (by unfold Func.isWrapper; first | (rw [if_pos (by decide +kernel)]; kernel_rfl) | (rw [if_neg (by decide +kernel)]; exact ⟨rfl, rfl⟩))
    (fun os started H enc _ => lifted os started H enc)
set_option maxRecDepth 100000 in
theorem card : Rows.ColourSameCardSaid :=
  Claim7.holds_tied_plain_at .later [] [.data] true (true, "74a93455e167e44cac747f8244595d2a0244a2ab46c0a069dc415a11e19b33d5") false proved (fun _ h => by cases h) (by kernel_rfl) (fun _ h => by cases h) colourSame_row_tie rfl ⟨rfl, rfl⟩ (by kernel_rfl) rfl
    (fun f fn hf hfn => by
      obtain rfl : f = 10 := Option.some.inj ((show Tryd.prog.funcNamed "outworker/outworkerlaw16.ColourSame" = some 10 by kernel_rfl).symm.trans hf) |>.symm
      obtain rfl : fn = Tryd.f10 := (Option.some.inj (Tryd.func10.symm.trans hfn)).symm
      exact ⟨by kernel_rfl, fun j t ht => by
        rw [Tryd.params10] at ht
        have hm : t ∈ [5, 22, 22, 5, 43] := by simpa using Array.mem_of_getElem? ht
        have hall : ([5, 22, 22, 5, 43].all fun u => !Tryd.prog.wantsStandIn u) = true := by kernel_rfl
        exact (show Tryd.prog.wantsStandIn t = false by simpa using List.all_eq_true.1 hall t hm)⟩)
    (by kernel_rfl)
end colourSame
/-- The row, under a short name, for the claim. -/
theorem colourSameHolds : Rows.ColourSameCardSaid := colourSame.card
#print axioms colourSameHolds
end Go.Proofs.YtbgfabppmobpgaaDoor
