/-
  The law IrChecks answers true. Conditions: none.
-/
import Derived.Test.YtibdneedfopcoaaR1J
import Derived.Test.YtibdneedfopcoaaR1Rd
import Derived.Test.YtibdneedfopcoaaRows
set_option linter.unusedVariables false
set_option linter.unusedSimpArgs false
namespace Go.Proofs.Ytibdneedfopcoaa
open Go Go.ChangeShapes Go.WideShapes Go.ChangeAt Go.RowKit

theorem s3 {h : H} {v vs : Value} {p n m : Int} {bs : List Blk} {p0 p1 p2 b k fd : Int} {l : List Int} (hv : BlksAt h v bs) (hs : BytesAt h vs l) (h0 : 0 ≤ p0) (h1 : 0 ≤ p1) (h2 : 0 ≤ p2) (hb : 0 ≤ b ∧ b ≤ 255) (hk : 0 ≤ k ∧ k ≤ 255) :
    CallsA Try.prog 3 (fun _ => [.agg #[.int .i64 p, .int .i64 n, v], .agg #[.int .u8 p0, .int .u8 p1, .int .u8 p2, vs], .int .u8 b, .int .u8 k, .int .u8 fd, .int .i64 m]) [] h (Ret fun r h' => h.le h' ∧ r = .bool true) := by
  refine c3 (G := [.int .i64 p, .int .i64 n, v, .int .u8 p0, .int .u8 p1, .int .u8 p2, vs, .int .u8 b, .int .u8 k, .int .u8 fd, .int .i64 m]) ⟨⟨_, rfl⟩, ⟨_, rfl⟩, hv.fit, ⟨_, rfl⟩, ⟨_, rfl⟩, ⟨_, rfl⟩, hs.fit, ⟨_, rfl⟩, ⟨_, rfl⟩, ⟨_, rfl⟩, ⟨_, rfl⟩, trivial⟩ ?_
  have hB := hs.inB
  have a := madeP_range h0
  have bb := madeV_range h0 h1
  have c := madeN_range h2
  have hBl := madeB_len (p0 := p0) (p1 := p1) (l := l) h2
  refine h_call0 s13 ?_
  rintro _ h3 ⟨hl3, rfl⟩
  refine ⟨[.bool true], ⟨⟨_, rfl⟩, trivial⟩, rfl, h_ite (fun hc => by cases hc) (fun _ => h_call0 (s14 (SlAt.le blkC_mono hl3 hv)) ?_)⟩
  rintro _ _ ⟨rfl, bl, rfl, -⟩
  refine ⟨[.bool bl], ⟨⟨_, rfl⟩, trivial⟩, rfl, h_ite (fun _ => ⟨rfl, hl3, rfl⟩) (fun _ => ?_)⟩
  refine h_call0 (s15 (p0 := p0) (p1 := p1) (p2 := p2) (hs.le hl3) h0 h1 h2) ?_
  rintro _ h4 ⟨hk4, u, fp, rfl, hu, hf, hnd⟩
  have hl4 := hl3.trans hk4.le_nil
  refine ⟨[.int .i64 (madeP p0), .int .i64 (madeV p0 p1), u], ⟨⟨_, rfl⟩, ⟨_, rfl⟩, hu.at.fit, trivial⟩, rfl, ?_⟩
  simp only [List.cons_append, List.nil_append]
  refine two_checks rfl rfl rfl (by simp) (by simp) (by simp) (SlAt.le blkC_mono hl4 hv) fun h5 hl5 => ?_
  have hu5 := hu.agree blkF_good (le_agree hl5 (hu.live blkF_good))
  refine h_ite (fun _ => ?_) (fun hc => absurd (hc.symm.trans (same3 (f := checkM p n bs) rfl rfl rfl rfl rfl rfl)) (by simp))
  simp only [List.cons_append, List.nil_append, faultG]
  refine h_call0 (Q := fun r h' => h5.le h' ∧ r = faultV (0, 0, 0)) ?_ ?_
  · have := s16 (h := h5) (madeP p0) (madeV p0 p1) u (madeB p0 p1 p2 l) (OwnBlks.at hu5)
    rw [made_ok (w := madeV p0 p1) h0 h1 h2 hB (Int.le_refl _) (by omega) (fun b hb => hb) (by omega) (by omega)] at this
    exact this
  rintro _ h6 ⟨hl6, rfl⟩
  refine ⟨faultG (0, 0, 0), faultG_fit _, rfl, h_ite (fun hc => by cases hc) (fun _ => ?_)⟩
  have hl46 := hl5.trans hl6
  have hu6 := hu.agree blkF_good (le_agree hl46 (hu.live blkF_good))
  simp only [List.cons_append, List.nil_append, faultG]
  refine h_call0 (Q := fun r h' => r = .tuple #[] ∧ ∃ bs' fp', OwnBlks h' u bs' fp' ∧ fp'.Nodup ∧ KeptH h6 h' fp ∧ ∀ b ∈ fp', b ∈ fp ∨ h6 b = none) (s18 hu6 hnd (madeB_small h0 h1 h2 hB) hb hk) ?_
  rintro _ h7 ⟨rfl, bs', fp', hu7, hnd7, hk7, hf7⟩
  have hl7 : h.le h7 := hk7.le (hl4.trans hl46) (fun b hb => H.le_none hl3 (hf b hb))
  refine ⟨[], trivial, rfl, ?_⟩
  simp only [List.append_nil]
  refine two_checks rfl rfl rfl (by simp) (by simp) (by simp) hu7.at fun h8 hl8 => ?_
  refine iteF (not_same3 (f := checkM (madeP p0) (madeV p0 p1) bs') rfl rfl rfl rfl rfl rfl) ?_
  simp only [List.cons_append, List.nil_append, faultG]
  have hl08 := hl7.trans hl8
  refine h_call0 (s15 (p0 := p0) (p1 := p1) (p2 := p2) (hs.le hl08) h0 h1 h2) ?_
  rintro _ h9 ⟨hk9, u2, fp2, rfl, hu9, hf9, hnd9⟩
  have hl9 := hl08.trans hk9.le_nil
  refine ⟨[.int .i64 (madeP p0), .int .i64 (madeV p0 p1), u2], ⟨⟨_, rfl⟩, ⟨_, rfl⟩, hu9.at.fit, trivial⟩, rfl, ?_⟩
  simp only [List.cons_append, List.nil_append]
  refine h_ite (fun _ => ?_) (fun _ => h_ite (fun _ => ?_) (fun _ => ?_))
  · refine two_checks rfl rfl rfl (by simp) (by simp) (by simp) hu9.at fun h10 hl10 => ⟨rfl, hl9.trans hl10, ?_⟩
    exact congrArg Value.bool (same3 (f := checkM m (madeV p0 p1) (madeB p0 p1 p2 l)) rfl rfl rfl rfl rfl rfl)
  · refine two_checks rfl rfl rfl (by simp) (by simp) (by simp) hu9.at fun h10 hl10 => ⟨rfl, hl9.trans hl10, ?_⟩
    exact congrArg Value.bool (same3 (f := checkM (madeP p0) m (madeB p0 p1 p2 l)) rfl rfl rfl rfl rfl rfl)
  have ht := tmod_range (a := b) (n := 40) hb.1 (by omega)
  refine h_loop (fun xs h' => ∃ (j : Nat) (cs : List Blk) (f : List Nat), xs = [.int .u8 (j : Int)] ∧ (j : Int) ≤ b.tmod 40 ∧ h.le h' ∧ OwnBlks h' u2 cs f ∧ f.Nodup ∧ Fresh h f ∧ 0 < cs.length ∧ ∀ x ∈ cs, x.ins.length ≤ 1000 + j)
    (fun xs h' => (b.tmod 40 - vi (gv xs 0)).toNat) ⟨0, _, fp2, rfl, by omega, hl9, hu9, hnd9, fun b hb => H.le_none hl08 (hf9 b hb), by omega, fun x hx => by have := ((madeB_small h0 h1 h2 hB).2 x hx).1; omega⟩ ?_
  rintro xs h10 J - ⟨j, cs, f, rfl, hj, hl10, hu10, hnd10, hf10, hc0, hlen⟩ hJ
  have hul := hu10.len (by omega)
  simp only [List.cons_append, List.nil_append]
  refine h_ite (fun hc => ?_) (fun hc => ?_)
  · replace hc : cmpOp .lss (j : Int) (intOp .rem .u8 b 40) = true := hc
    have e : intOp .rem .u8 b 40 = b.tmod 40 := by simp only [intOp]
    rw [e, cmp_lss, decide_eq_true_eq] at hc
    have n1 : cmpOp .lss 0 ((vlen u2 : Nat) : Int) = true := by rw [hul, cmp_lss, decide_eq_true_eq]; omega
    have hx : cs[0]? = some cs[0] := List.getElem?_eq_getElem hc0
    have hmem : cs[0] ∈ cs := List.getElem_mem _
    generalize cs[0] = x at hx hmem
    have hxl := hlen x hmem
    obtain ⟨c, f1, L1, L2, fr, K⟩ := hu10.lens hx
    obtain ⟨w, rfl, hw⟩ := K.rep
    have hwfit := (SlF.at (sz := 7) (Rep := InsC) (Nat.zero_lt_succ 6) insF_at hw).fit
    have hwr : Reads h10 (((vaddr u2).add (0 * 5)).add 0) [w] := by rw [add_add]; exact K.reads fun j u hj => by obtain ⟨rfl, rfl⟩ := get_one hj; rfl
    refine ⟨fun _ => ⟨rfl, n1, trivial⟩, h_load [w] ⟨hwfit, trivial⟩ (fun _ => hwr) ⟨fun _ => hwr, insC (kIns 1) (.slice none 0 0), 1, ⟨rfl, rfl⟩, ?_⟩⟩
    refine app_slF (x := kIns 1) (f := []) insF_good (by omega) hw rfl (kIns_own 1) (by simpa using K.nodup_in hnd10) zero46' (by omega) ?_
    intro w' h11 f' k1 k2 k3 k4
    have hf' : ∀ b ∈ f', b ∈ f1 ∨ h10 b = none := fun b hb => by rcases k4 b hb with e | e | e <;> simp_all
    obtain ⟨m1, fq, m2, m3, m4, m5⟩ := blk_ins hnd10 K k3 k1 hf' k2
    refine ⟨fun _ => ⟨rfl, n1, trivial⟩, h_store ((vaddr u2).add (0 * 5 + 0)) [w'] (by rw [← add_add]; rfl) rfl m1 ?_⟩
    refine again_of (xs := [.int .u8 ((j + 1 : Nat) : Int)]) (J := J) ?_ rfl (hJ _ _ ⟨j + 1, _, fq, rfl, by omega, m4.le hl10 hf10, m2, m3, fun b hb => ?_, by simpa using hc0, fun y hy => ?_⟩ ?_)
    · show [Value.int .u8 (intOp .add .u8 (j : Int) 1)] = _
      simp only [intOp]
      rw [wrap_u8 (by omega) (by omega)]; simp
    · rcases m5 b hb with e | e
      · exact hf10 b e
      · exact H.le_none hl10 e
    · rcases List.mem_or_eq_of_mem_set hy with e | e
      · have := hlen y e; omega
      · subst e; simp; omega
    · simp only [gv_zero, vi_int]; omega
  · refine two_checks rfl rfl rfl (by simp) (by simp) (by simp) hu10.at fun h11 hl11 => ⟨rfl, hl10.trans hl11, ?_⟩
    exact congrArg Value.bool (same3 (f := checkM (madeP p0) (madeV p0 p1) cs) rfl rfl rfl rfl rfl rfl)
namespace irChecks
theorem own : ownKnob Try.prog.godebug = none := by kernel_rfl
theorem laidOut : laidOutB Try.prog = true := by kernel_rfl
theorem contract (H : Type) (enc : TypeId × Value → H) (W : World) (base : Nat) (args : Array Value) (ds gs : List (DataW H)) (before : List MemPlace)
    (hval : ∀ (j : Nat) t v, Try.f3.params[j]? = some t → args[j]? = some v → Value.okWide Try.prog W .any base t v)
    (hW : DataW.Whole enc Try.prog Try.f3.params.toList Rows.irChecksSpec.vars false W args.toList ds gs before) :
    Calls Try.prog 3 args W fun e W' => ∃ v, e = .returned v ∧ Rows.irChecksSpec.post enc Try.prog Try.f3 false true false false W args v W' := by
  have hW' := hW
  obtain ⟨p, q, hA, hV, rfl, hfz, hnd⟩ := hW
  rw [Try.params3] at hA hval
  obtain ⟨v0, vs0, d0, ds0, p0, q0, hargs, rfl, rfl, h0, r0⟩ := trodAll_cons hA
  obtain ⟨v1, vs1, d1, ds1, p1, q1, rfl, rfl, rfl, h1, r1⟩ := trodAll_cons r0
  obtain ⟨v2, vs2, d2, ds2, p2, q2, rfl, rfl, rfl, h2, r2⟩ := trodAll_cons r1
  obtain ⟨v3, vs3, d3, ds3, p3, q3, rfl, rfl, rfl, h3, r3⟩ := trodAll_cons r2
  obtain ⟨v4, vs4, d4, ds4, p4, q4, rfl, rfl, rfl, h4, r4⟩ := trodAll_cons r3
  obtain ⟨v5, vs5, d5, ds5, p5, q5, rfl, rfl, rfl, h5, r5⟩ := trodAll_cons r4
  obtain ⟨rfl, rfl, rfl⟩ := trodAll_nil r5
  obtain rfl : args = #[v0, v1, v2, v3, v4, v5] := by cases args; simp_all
  obtain ⟨cs0, rfl, -⟩ := okWide_struct Try.underlying24 (hval 0 24 v0 rfl rfl)
  obtain ⟨p, n, v, bs, he0, hv⟩ := rd_func (Rd.of h0)
  obtain rfl : cs0 = ([Value.int .i64 p, .int .i64 n, v]).toArray := by rw [← he0]; simp [Value.cells]
  obtain ⟨cs1, rfl, -⟩ := okWide_struct Try.underlying27 (hval 1 27 v1 rfl rfl)
  obtain ⟨p0, p1, p2, vs, l, he1, g0, g1, g2, hs⟩ := rd_spec (Rd.of h1)
  obtain rfl : cs1 = ([Value.int .u8 p0, .int .u8 p1, .int .u8 p2, vs]).toArray := by rw [← he1]; simp [Value.cells]
  obtain ⟨b, rfl, -, -, wf2⟩ := open_int Try.underlying5 (hval 2 5 v2 rfl rfl) h2
  obtain ⟨k, rfl, -, -, wf3⟩ := open_int Try.underlying5 (hval 3 5 v3 rfl rfl) h3
  obtain ⟨fd, rfl, -, -, wf4⟩ := open_int Try.underlying5 (hval 4 5 v4 rfl rfl) h4
  obtain ⟨m, rfl, -, -, wf5⟩ := open_int Try.underlying3 (hval 5 3 v5 rfl rfl) h5
  refine (law_calls (f := 3) (args := [.agg ([Value.int .i64 p, .int .i64 n, v]).toArray, .agg ([Value.int .u8 p0, .int .u8 p1, .int .u8 p2, vs]).toArray, .int .u8 b, .int .u8 k, .int .u8 fd, .int .i64 m]) (s3 hv hs g0 g1 g2 (u8r wf2) (u8r wf3))).mono ?_
  rintro e' W' ⟨rfl, bel⟩
  exact ⟨_, rfl, law_post laidOut hW' rfl (of_decide_eq_true (by kernel_rfl)) rfl Try.underlying4 rfl bel⟩
set_option maxRecDepth 100000 in
theorem lifted (os : Os) (started : os.Started) (H : Type) (enc : TypeId × Value → H) :
    ReturnsInHanded {} Try.checked os 3 .any (Rows.irChecksSpec.pre6 enc Try.prog Try.f3 Rows.irChecksRow.domain false) (Rows.irChecksSpec.post enc Try.prog Try.f3 false true false false) := by
  refine returnsInHanded_of_change (C := Try.checked) own started (by kernel_rfl) Try.func3
    (ChangeSpec.witness6 (enc := enc) (C := Try.checked) false ⟨#[], #[.agg #[.int .i64 0, .int .i64 0, .slice none 0 0], .agg #[.int .u8 0, .int .u8 0, .int .u8 0, .slice none 0 0], .int .u8 0, .int .u8 0, .int .u8 0, .int .i64 0], []⟩ 8 (by kernel_rfl) (by kernel_rfl) (by kernel_rfl) (by kernel_rfl)) ?_
  intro W base args ds gs before hval hW _ _
  exact contract H enc W base args ds gs before hval hW
theorem proved : Rows.IrChecksSaid :=
  OpenClaim.holds_of_wide 3 Try.f3 rfl rfl rfl rfl rfl rfl rfl ⟨rfl, rfl, rfl, rfl, rfl⟩ rfl rfl rfl rfl rfl (by kernel_rfl) Try.func3 (by kernel_rfl)
    (of_decide_eq_true (by kernel_rfl)) (by unfold Func.isWrapper; first | (rw [if_pos (by decide +kernel)]; kernel_rfl) | (rw [if_neg (by decide +kernel)]; exact ⟨rfl, rfl⟩))
    (fun os started H enc _ => lifted os started H enc)
end irChecks
/-- The row, under a short name, for the claim. -/
theorem irChecksHolds : Rows.IrChecksSaid := irChecks.proved
#print axioms irChecksHolds
end Go.Proofs.Ytibdneedfopcoaa
