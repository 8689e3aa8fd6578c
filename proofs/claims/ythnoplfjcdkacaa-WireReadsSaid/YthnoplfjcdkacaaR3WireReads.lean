/-
  The law WireReads answers true. Conditions: none.
-/
import Derived.Test.YthnoplfjcdkacaaR3Y
import Derived.Test.YthnoplfjcdkacaaR3M
import Derived.Test.YthnoplfjcdkacaaR3E
import Derived.Test.YthnoplfjcdkacaaR3G
import Derived.Test.YthnoplfjcdkacaaR3Ld
import Derived.Test.YthnoplfjcdkacaaR1Mm
import Derived.Test.YthnoplfjcdkacaaRows
set_option linter.unusedVariables false
set_option linter.unusedSimpArgs false
namespace Go.Proofs.Ythnoplfjcdkacaa
open Go Go.ChangeShapes Go.WideShapes Go.ChangeAt Go.RowKit

theorem okay_nil : Okay [] := ⟨by simp, fun b hb => by cases hb⟩
theorem okay_fit {bs : List Blk} {most : Nat} (h1 : bs.length ≤ 16) (hm : most ≤ 400) (h : ∀ b ∈ bs, FitB most b) : Okay bs :=
  ⟨by omega, fun b hb => ⟨by have := (h b hb).1; omega, fun x hx => by have := ((h b hb).2.1 x hx).2.2.2.2.2.2.2.1; omega⟩⟩
theorem readF_okay {l : List Int} (hb : InB l) : Okay (readF l).1.2.2 := by
  by_cases h : (readF l).2 = 0
  · obtain ⟨-, r2, r3⟩ := readF_inv h hb
    obtain ⟨-, -, h1, h2⟩ := checkM_fit r2 r3
    exact okay_fit h1 (by omega) h2
  · have : (readF l).1.2.2 = [] := by
      unfold readF at h ⊢
      simp only at h ⊢
      split
      · rfl
      · rename_i q1
        rw [if_neg q1] at h
        split
        · rfl
        · rename_i q2
          rw [if_neg q2] at h
          exact absurd rfl h
    rw [this]; exact okay_nil
theorem readC_okay {l : List Int} (hb : InB l) : Okay (readC l).1.2.2.2 := by
  by_cases h : (readC l).2 = 0
  · obtain ⟨-, r2, r3⟩ := readC_inv h hb
    obtain ⟨-, -, -, h1, h2⟩ := mcheckM_fit r2 r3
    exact okay_fit h1 (by omega) h2
  · have : (readC l).1.2.2.2 = [] := by
      unfold readC at h ⊢
      simp only at h ⊢
      split
      · rfl
      · rename_i q1
        rw [if_neg q1] at h
        split
        · rfl
        · rename_i q2
          rw [if_neg q2] at h
          exact absurd rfl h
    rw [this]; exact okay_nil
theorem s7 {h : H} {bv vs mv av tv : Value} {p0 p1 p2 rg : Int} {bl l ml al tl : List Int} (hb : BytesAt h bv bl) (hs : BytesAt h vs l) (h0 : 0 ≤ p0) (h1 : 0 ≤ p1) (h2 : 0 ≤ p2) (hr : 0 ≤ rg ∧ rg ≤ 255) (hmv : BytesAt h mv ml) (ha : IntsAt h av al) (ht : BytesAt h tv tl) :
    CallsA Try.prog 7 (fun _ => [bv, .agg #[.int .u8 p0, .int .u8 p1, .int .u8 p2, vs], .int .u8 rg, mv, av, tv]) [] h (Ret fun r h' => h.le h' ∧ r = .bool true) := by
  refine c7 (G := [bv, .int .u8 p0, .int .u8 p1, .int .u8 p2, vs, .int .u8 rg, mv, av, tv]) ⟨hb.fit, ⟨_, rfl⟩, ⟨_, rfl⟩, ⟨_, rfl⟩, hs.fit, ⟨_, rfl⟩, hmv.fit, ha.fit, ht.fit, trivial⟩ ?_
  have hB := hs.inB
  have hbl := hb.len
  have hN := madeN_range h2
  have hP := madeP_range h0
  have hR := mR_range hr.1
  have hS := mS_range (p := madeP p0) (sl := 3) hP (by omega)
  refine h_call0 s10 ?_
  rintro _ g ⟨hl, rfl⟩
  refine ⟨[.bool true], ⟨⟨_, rfl⟩, trivial⟩, rfl, iteF rfl (h_ite (fun _ => ⟨rfl, hl, rfl⟩) (fun hq => ?_))⟩
  replace hq : cmpOp .gtr ((vlen bv : Nat) : Int) 3000 = false := hq
  rw [hbl, cmp_gtr, decide_eq_false_iff_not] at hq
  simp only [List.cons_append, List.nil_append]
  refine h_call0 (s12 (p0 := p0) (p1 := p1) (p2 := p2) (hs.le hl) h0 h1 h2) ?_
  rintro _ g1 ⟨hk1, u, fp, rfl, hu, -, -⟩
  have hl1 := hl.trans hk1.le_nil
  refine ⟨[.int .i64 (madeP p0), .int .i64 (madeV p0 p1), u], ⟨⟨_, rfl⟩, ⟨_, rfl⟩, (OwnBlks.at hu).fit, trivial⟩, rfl, ?_⟩
  simp only [List.cons_append, List.nil_append]
  have c1 := made_zero (p0 := p0) (p1 := p1) (p2 := p2) (l := l) h0 h1 h2 hB
  have n1 := madeB_n (p0 := p0) (p1 := p1) (p2 := p2) hB
  refine h_call0 (s16 (p := madeP p0) (n := madeV p0 p1) (OwnBlks.at hu) (checkM_good c1) n1) ?_
  rintro x g2 ⟨hl2, ox⟩
  have hl02 := hl1.trans hl2
  refine ⟨[x], ⟨ox.at.fit, trivial⟩, rfl, ?_⟩
  simp only [List.cons_append, List.nil_append]
  have hxl := (encF_len (p := madeP p0) (n := madeV p0 p1) ((checkM_good c1).fine n1)).2
  refine h_call0 (s18 (p0 := p0) (p1 := p1) (p2 := p2) (rg := rg) (sl := 3) (hs.le hl02) (hmv.le hl02) h0 h1 h2 hr (by omega)) ?_
  rintro _ g3 ⟨uc, C, fc, rfl, M, -⟩
  have c2 : (mcheckM (madeP p0) (mR rg) (mS (madeP p0) 3) C).1 = 0 := by rw [M.check hP hR hS hN]
  have n2 : NB C := fun b hb x hx => ((M.ok b hb).2.1 x hx).2.2
  have hl3 := M.kept.le_nil
  have hl03 := hl02.trans hl3
  refine ⟨[.int .i64 (madeP p0), .int .i64 (mR rg), .int .i64 (mS (madeP p0) 3), uc], ⟨⟨_, rfl⟩, ⟨_, rfl⟩, ⟨_, rfl⟩, (OwnBlks.at M.own).fit, trivial⟩, rfl, ?_⟩
  simp only [List.cons_append, List.nil_append]
  refine h_call0 (s21 (p := madeP p0) (r := mR rg) (s := mS (madeP p0) 3) (OwnBlks.at M.own) (mcheckM_good c2) n2) ?_
  rintro y g4 ⟨hl4, oy⟩
  have hl04 := hl03.trans hl4
  refine ⟨[y], ⟨oy.at.fit, trivial⟩, rfl, ?_⟩
  simp only [List.cons_append, List.nil_append]
  have hyl := (encC_len (p := madeP p0) (r := mR rg) (s := mS (madeP p0) 3) ((mcheckM_good c2).fine n2)).2
  generalize encF (madeP p0) (madeV p0 p1) (madeB p0 p1 p2 l) = X at ox hxl
  generalize encC (madeP p0) (mR rg) (mS (madeP p0) 3) C = Y at oy hyl
  have hx4 := ox.at.le (hl3.trans hl4)
  have hy4 := oy.at
  refine h_call0 (s24 hx4 (ha.le hl04) (ht.le hl04) (by omega)) ?_
  rintro w1 g5 ⟨hl5, k1, hw1, hk1'⟩
  have hl05 := hl04.trans hl5
  refine ⟨[w1], ⟨hw1.fit, trivial⟩, rfl, ?_⟩
  simp only [List.cons_append, List.nil_append]
  refine h_call0 (s24 (hy4.le hl5) (ha.le hl05) (ht.le hl05) (by omega)) ?_
  rintro w2 g6 ⟨hl6, k2, hw2, hk2'⟩
  have hl06 := hl05.trans hl6
  refine ⟨[w2], ⟨hw2.fit, trivial⟩, rfl, ?_⟩
  simp only [List.cons_append, List.nil_append]
  have hx6 := hx4.le (hl5.trans hl6)
  have hy6 := hy4.le (hl5.trans hl6)
  refine copy_own hx6 rfl (by simp) rfl (by omega) fun v0 v7 g7 hl7 o7 => ?_
  simp only [List.cons_append, List.nil_append]
  refine ⟨bl.map (.int .u8), bl.length, ⟨by simp, by simp [Value.oneCell'], ?_⟩, ?_⟩
  · exact (hb.le (hl06.trans hl7)).src
  show AppSpec _ _ _ _ _ v7 _ _ _
  refine app_own o7 hl7 rfl rfl hb.inB (by omega) fun v8 g8 o8 hl8 => ?_
  simp only [List.cons_append, List.nil_append]
  intro b9 hb9
  obtain ⟨g9, e9⟩ : ∃ g9, g9 = g8.put b9 (.cells ([bv, x, y, w1, w2, v8]).toArray 25 (0, 0)) := ⟨_, rfl⟩
  have hl9 : g8.le g9 := by rw [e9]; exact H.le_put hb9
  show holds _ _ _ _ _ (g8.put b9 (.cells ([bv, x, y, w1, w2, v8]).toArray 25 (0, 0)))
  rw [← e9]
  have hl69 := hl8.trans hl9
  have hl09 := hl06.trans hl69
  have it : ∀ i : Nat, i < 6 → ∃ z m, Reads g9 ((⟨b9, 0, none⟩ : Addr).add (i * 1)) [z] ∧ BytesAt g9 z m ∧ m.length ≤ 200000000 := by
    intro i hi
    have : i = 0 ∨ i = 1 ∨ i = 2 ∨ i = 3 ∨ i = 4 ∨ i = 5 := by omega
    rcases this with rfl | rfl | rfl | rfl | rfl | rfl
    · exact ⟨bv, bl, by rw [e9]; exact row_at (A := []) (C := [x, y, w1, w2, v8]) rfl rfl, hb.le hl09, by omega⟩
    · exact ⟨x, X, by rw [e9]; exact row_at (A := [bv]) (C := [y, w1, w2, v8]) rfl rfl, hx6.le hl69, by omega⟩
    · exact ⟨y, Y, by rw [e9]; exact row_at (A := [bv, x]) (C := [w1, w2, v8]) rfl rfl, hy6.le hl69, by omega⟩
    · exact ⟨w1, k1, by rw [e9]; exact row_at (A := [bv, x, y]) (C := [w2, v8]) rfl rfl, hw1.le (hl6.trans hl69), by omega⟩
    · exact ⟨w2, k2, by rw [e9]; exact row_at (A := [bv, x, y, w1]) (C := [v8]) rfl rfl, hw2.le hl69, by omega⟩
    · exact ⟨v8, X ++ bl, by rw [e9]; exact row_at (A := [bv, x, y, w1, w2]) (C := []) rfl rfl, o8.at.le hl9, by rw [List.length_append]; omega⟩
  refine h_loop (fun xs h' => ∃ i : Nat, xs = [.int .i64 (i : Int)] ∧ i ≤ 6 ∧ g9.le h') (fun xs h' => 6 - (vi (gv xs 0)).toNat) ⟨0, rfl, by omega, H.le_refl _⟩ ?_
  rintro xs q0 J - ⟨i, rfl, hi, ql0⟩ hJ
  simp only [List.cons_append, List.nil_append]
  refine h_ite (fun hc => ?_) (fun hc => ⟨rfl, hl09.trans ql0, rfl⟩)
  replace hc : cmpOp .lss (i : Int) 6 = true := hc
  have hc' := hc
  rw [cmp_lss, decide_eq_true_eq] at hc
  obtain ⟨z, m, hrd, hz, hm⟩ := it i (by omega)
  have mB := hz.inB
  refine ⟨fun _ => ⟨nat_ge0 i, hc', trivial⟩, h_load [z] ⟨hz.fit, trivial⟩ (fun _ => hrd.le ql0) ?_⟩
  simp only [List.cons_append, List.nil_append]
  refine h_call0 (s28 (hz.le ql0) (by omega)) ?_
  rintro _ q1 ⟨ql1, a1, fa, rfl, ka, -, -⟩
  refine ⟨[.int .i64 (readF m).1.1, .int .i64 (readF m).1.2.1, a1, .int .i64 (readF m).2], ⟨⟨_, rfl⟩, ⟨_, rfl⟩, (OwnBlks.at ka).fit, ⟨_, rfl⟩, trivial⟩, rfl, ?_⟩
  simp only [List.cons_append, List.nil_append]
  refine h_call0 (s29 (hz.le (ql0.trans ql1)) (by omega)) ?_
  rintro _ q2 ⟨ql2, a2, rfl, ka2⟩
  refine ⟨[.int .i64 (readF m).1.1, .int .i64 (readF m).1.2.1, a2, .int .i64 (readF m).2], ⟨⟨_, rfl⟩, ⟨_, rfl⟩, ka2.fit, ⟨_, rfl⟩, trivial⟩, rfl, iteT ?_ ?_⟩
  · show (!(cmpOp .neq (readF m).2 (readF m).2)) = true
    rw [cmp_neq]; simp
  simp only [List.cons_append, List.nil_append]
  refine h_call0 (s17g (p := (readF m).1.1) (n := (readF m).1.2.1) (p' := (readF m).1.1) (n' := (readF m).1.2.1) (SlAt.le blkC_mono ql2 (OwnBlks.at ka)) ka2 (readF_okay mB)) ?_
  rintro _ q3 ⟨e3, r3, rfl, hr3⟩
  have e3' := e3.symm
  subst e3'
  obtain rfl : r3 = true := hr3.2 ⟨rfl, rfl, rfl⟩
  refine ⟨[.bool true], ⟨⟨_, rfl⟩, trivial⟩, rfl, iteF rfl ?_⟩
  simp only [List.cons_append, List.nil_append]
  have ql02 := (ql0.trans ql1).trans ql2
  refine h_call0 (s30 (hz.le ql02) (by omega)) ?_
  rintro _ q4 ⟨ql4, b1, fb, rfl, kb, -, -⟩
  refine ⟨[.int .i64 (readC m).1.1, .int .i64 (readC m).1.2.1, .int .i64 (readC m).1.2.2.1, b1, .int .i64 (readC m).2], ⟨⟨_, rfl⟩, ⟨_, rfl⟩, ⟨_, rfl⟩, (OwnBlks.at kb).fit, ⟨_, rfl⟩, trivial⟩, rfl, ?_⟩
  simp only [List.cons_append, List.nil_append]
  refine h_call0 (s31 (hz.le (ql02.trans ql4)) (by omega)) ?_
  rintro _ q5 ⟨ql5, b2, rfl, kb2⟩
  refine ⟨[.int .i64 (readC m).1.1, .int .i64 (readC m).1.2.1, .int .i64 (readC m).1.2.2.1, b2, .int .i64 (readC m).2], ⟨⟨_, rfl⟩, ⟨_, rfl⟩, ⟨_, rfl⟩, kb2.fit, ⟨_, rfl⟩, trivial⟩, rfl, iteT ?_ ?_⟩
  · show (!(cmpOp .neq (readC m).2 (readC m).2)) = true
    rw [cmp_neq]; simp
  simp only [List.cons_append, List.nil_append]
  refine h_call0 (s32g (p := (readC m).1.1) (r := (readC m).1.2.1) (s := (readC m).1.2.2.1) (p' := (readC m).1.1) (r' := (readC m).1.2.1) (s' := (readC m).1.2.2.1) (SlAt.le blkC_mono ql5 (OwnBlks.at kb)) kb2 (readC_okay mB)) ?_
  rintro _ q6 ⟨e6, r6, rfl, hr6⟩
  have e6' := e6.symm
  subst e6'
  obtain rfl : r6 = true := hr6.2 ⟨rfl, rfl, rfl, rfl⟩
  refine ⟨[.bool true], ⟨⟨_, rfl⟩, trivial⟩, rfl, iteF rfl ?_⟩
  show J [.int .i64 (intOp .add .i64 (i : Int) 1)] _
  rw [int_add_one (n := 6) (by omega) (by omega)]
  refine hJ _ _ ⟨i + 1, rfl, by omega, (ql02.trans ql4).trans ql5⟩ ?_
  simp only [gv_zero, vi_int]; omega
namespace wireReads
theorem own : ownKnob Try.prog.godebug = none := by kernel_rfl
set_option maxRecDepth 100000 in
theorem laidOut : laidOutB Try.prog = true := by kernel_rfl
set_option maxRecDepth 100000 in
theorem contract (H : Type) (enc : TypeId × Value → H) (W : World) (base : Nat) (args : Array Value) (ds gs : List (DataW H)) (before : List MemPlace)
    (hval : ∀ (j : Nat) t v, Try.f7.params[j]? = some t → args[j]? = some v → Value.okWide Try.prog W .any base t v)
    (hW : DataW.Whole enc Try.prog Try.f7.params.toList Rows.wireReadsSpec.vars false W args.toList ds gs before) :
    Calls Try.prog 7 args W fun e W' => ∃ v, e = .returned v ∧ Rows.wireReadsSpec.post enc Try.prog Try.f7 false true false false W args v W' := by
  have hW' := hW
  obtain ⟨p, q, hA, hV, rfl, hfz, hnd⟩ := hW
  rw [Try.params7] at hA hval
  obtain ⟨v0, vs0, d0, ds0, p0, q0, hargs, rfl, rfl, h0, r0⟩ := trodAll_cons hA
  obtain ⟨v1, vs1, d1, ds1, p1, q1, rfl, rfl, rfl, h1, r1⟩ := trodAll_cons r0
  obtain ⟨v2, vs2, d2, ds2, p2, q2, rfl, rfl, rfl, h2, r2⟩ := trodAll_cons r1
  obtain ⟨v3, vs3, d3, ds3, p3, q3, rfl, rfl, rfl, h3, r3⟩ := trodAll_cons r2
  obtain ⟨v4, vs4, d4, ds4, p4, q4, rfl, rfl, rfl, h4, r4⟩ := trodAll_cons r3
  obtain ⟨v5, vs5, d5, ds5, p5, q5, rfl, rfl, rfl, h5, r5⟩ := trodAll_cons r4
  obtain ⟨rfl, rfl, rfl⟩ := trodAll_nil r5
  obtain rfl : args = #[v0, v1, v2, v3, v4, v5] := by cases args; simp_all
  obtain ⟨a0, n0, c0, rfl⟩ := okWide_slice Try.underlying25 (hval 0 25 v0 rfl rfl)
  obtain ⟨bv, bl, he0, hbv, -⟩ := rd_bytes (Rd.of h0)
  obtain rfl : Value.slice a0 n0 c0 = bv := by simpa [Value.cells] using he0
  obtain ⟨cs1, rfl, -⟩ := okWide_struct Try.underlying27 (hval 1 27 v1 rfl rfl)
  obtain ⟨p0, p1, p2, vs, l, he1, g0, g1, g2, hs⟩ := rd_spec (Rd.of h1)
  obtain rfl : cs1 = ([Value.int .u8 p0, .int .u8 p1, .int .u8 p2, vs]).toArray := by rw [← he1]; simp [Value.cells]
  obtain ⟨rg, rfl, -, -, wf2⟩ := open_int Try.underlying5 (hval 2 5 v2 rfl rfl) h2
  obtain ⟨a3, n3, c3, rfl⟩ := okWide_slice Try.underlying25 (hval 3 25 v3 rfl rfl)
  obtain ⟨mv, ml, he3, hmv, -⟩ := rd_bytes (Rd.of h3)
  obtain rfl : Value.slice a3 n3 c3 = mv := by simpa [Value.cells] using he3
  obtain ⟨a4, n4, c4, rfl⟩ := okWide_slice Try.underlying52 (hval 4 52 v4 rfl rfl)
  obtain ⟨av, al, he4, hav⟩ := rd_nums (Rd.of h4)
  obtain rfl : Value.slice a4 n4 c4 = av := by simpa [Value.cells] using he4
  obtain ⟨a5, n5, c5, rfl⟩ := okWide_slice Try.underlying25 (hval 5 25 v5 rfl rfl)
  obtain ⟨tv, tl, he5, htv, -⟩ := rd_bytes (Rd.of h5)
  obtain rfl : Value.slice a5 n5 c5 = tv := by simpa [Value.cells] using he5
  refine (law_calls (f := 7) (args := [.slice a0 n0 c0, .agg ([Value.int .u8 p0, .int .u8 p1, .int .u8 p2, vs]).toArray, .int .u8 rg, .slice a3 n3 c3, .slice a4 n4 c4, .slice a5 n5 c5]) (s7 hbv hs g0 g1 g2 (u8r wf2) hmv hav htv)).mono ?_
  rintro e' W' ⟨rfl, bel⟩
  exact ⟨_, rfl, law_post laidOut hW' rfl (of_decide_eq_true (by kernel_rfl)) rfl Try.underlying4 rfl bel⟩
set_option maxRecDepth 100000 in
theorem lifted (os : Os) (started : os.Started) (H : Type) (enc : TypeId × Value → H) :
    ReturnsInHanded {} Try.checked os 7 .any (Rows.wireReadsSpec.pre6 enc Try.prog Try.f7 Rows.wireReadsRow.domain false) (Rows.wireReadsSpec.post enc Try.prog Try.f7 false true false false) := by
  refine returnsInHanded_of_change (C := Try.checked) own started (by kernel_rfl) Try.func7
    (ChangeSpec.witness6 (enc := enc) (C := Try.checked) false ⟨#[], #[.slice none 0 0, .agg #[.int .u8 0, .int .u8 0, .int .u8 0, .slice none 0 0], .int .u8 0, .slice none 0 0, .slice none 0 0, .slice none 0 0], []⟩ 8 (by kernel_rfl) (by kernel_rfl) (by kernel_rfl) (by kernel_rfl)) ?_
  intro W base args ds gs before hval hW _ _
  exact contract H enc W base args ds gs before hval hW
set_option maxRecDepth 100000 in
theorem proved : Rows.WireReadsSaid :=
  OpenClaim.holds_of_wide 7 Try.f7 rfl rfl rfl rfl rfl rfl rfl ⟨rfl, rfl, rfl, rfl, rfl⟩ rfl rfl rfl rfl rfl (by kernel_rfl) Try.func7 (by kernel_rfl)
    (of_decide_eq_true (by kernel_rfl)) (by unfold Func.isWrapper; first | (rw [if_pos (by decide +kernel)]; kernel_rfl) | (rw [if_neg (by decide +kernel)]; exact ⟨rfl, rfl⟩))
    (fun os started H enc _ => lifted os started H enc)
end wireReads
/-- The row, under a short name, for the claim. -/
theorem wireReadsHolds : Rows.WireReadsSaid := wireReads.proved
#print axioms wireReadsHolds
end Go.Proofs.Ythnoplfjcdkacaa
