/-
  The law MachChecks answers true. Conditions: none.
-/
import Derived.Test.YtibdneedfopcoaaR1Mm
import Derived.Test.YtibdneedfopcoaaR1Rd
import Derived.Test.YtibdneedfopcoaaRows
set_option linter.unusedVariables false
set_option linter.unusedSimpArgs false
namespace Go.Proofs.Ytibdneedfopcoaa
open Go Go.ChangeShapes Go.WideShapes Go.ChangeAt Go.RowKit

/-- Two parts more. -/
theorem app_two {h : H} {w : Value} {l : List Ins} {f : List Nat} {x y : Ins} (hx : x.args = []) (hy : y.args = []) (hw : SlF 46 7 InsF h w l f) (hnd : f.Nodup) (hb : l.length ≤ 100000) {K : Value → H → Prop}
    (HK : ∀ w' h' f', SlF 46 7 InsF h' w' (l ++ [x, y]) f' → f'.Nodup → KeptH h h' f → (∀ b ∈ f', b ∈ f ∨ h b = none) → K w' h') :
    AppSpec h 46 7 64 ((zeroCells Try.prog 46).getD []) w (insC x (.slice none 0 0) ++ insC y (.slice none 0 0)) 2 K := by
  have hlen := hw.len (by omega)
  obtain ⟨L, fr, rfl, rfl, h4, h5⟩ := hw
  have hlive := h5.live insF_good
  refine app_rowF h4 rfl zero46' (by rw [hlen]; omega) fun w' h' fr' k1 k2 k3 k4 => ?_
  obtain ⟨n1, n2, n3⟩ := List.nodup_append.1 hnd
  have ha : Agree h h' (fpE L) := k3.agree hlive fun b hb hf => n3 b hf b hb rfl
  refine HK w' h' (fr' ++ fpE L) ⟨L ++ [⟨insC x (.slice none 0 0), x, []⟩, ⟨insC y (.slice none 0 0), y, []⟩], fr', by simp, by simp [fpE], ?_, fun t ht => ?_⟩ ?_ (k3.mono fun b hb => List.mem_append_left _ hb) ?_
  · have : cellsE (L ++ [⟨insC x (.slice none 0 0), x, []⟩, ⟨insC y (.slice none 0 0), y, []⟩]) = cellsE L ++ (insC x (.slice none 0 0) ++ insC y (.slice none 0 0)) := by simp [cellsE]
    rw [this]; exact k1
  · rcases List.mem_append.1 ht with ht | ht
    · exact (h5.agree insF_good ha) t ht
    · simp only [List.mem_cons, List.not_mem_nil, or_false] at ht
      rcases ht with rfl | rfl
      · exact ⟨rfl, _, rfl, by rw [hx]; exact .inl ⟨rfl, rfl, rfl⟩⟩
      · exact ⟨rfl, _, rfl, by rw [hy]; exact .inl ⟨rfl, rfl, rfl⟩⟩
  · rcases k4 with rfl | ⟨b, rfl, hb⟩
    · exact hnd
    · refine nodup_app (by simp) n2 fun q hq hq' => ?_
      rw [List.mem_singleton] at hq; subst hq
      have := hlive q hq'; rw [hb] at this; cases this
  · intro b hb
    rcases List.mem_append.1 hb with hb | hb
    · rcases k4 with rfl | ⟨b', rfl, hb'⟩
      · exact .inl (List.mem_append_left _ hb)
      · rw [List.mem_singleton] at hb; subst hb; exact .inr hb'
    · exact .inl (List.mem_append_right _ hb)
theorem s9 {h : H} {v vs mv : Value} {p r s m : Int} {bs : List Blk} {p0 p1 p2 rg sl b k fd : Int} {l ml : List Int} (hv : BlksAt h v bs) (hs : BytesAt h vs l) (hmv : BytesAt h mv ml) (h0 : 0 ≤ p0) (h1 : 0 ≤ p1) (h2 : 0 ≤ p2) (hr : 0 ≤ rg ∧ rg ≤ 255) (hsl : 0 ≤ sl ∧ sl ≤ 255) (hb : 0 ≤ b ∧ b ≤ 255) (hk : 0 ≤ k ∧ k ≤ 255) :
    CallsA Try.prog 9 (fun _ => [.agg #[.int .i64 p, .int .i64 r, .int .i64 s, v], .agg #[.int .u8 p0, .int .u8 p1, .int .u8 p2, vs], .int .u8 rg, .int .u8 sl, mv, .int .u8 b, .int .u8 k, .int .u8 fd, .int .i64 m]) [] h (Ret fun r h' => h.le h' ∧ r = .bool true) := by
  refine c9 (G := [.int .i64 p, .int .i64 r, .int .i64 s, v, .int .u8 p0, .int .u8 p1, .int .u8 p2, vs, .int .u8 rg, .int .u8 sl, mv, .int .u8 b, .int .u8 k, .int .u8 fd, .int .i64 m]) ⟨⟨_, rfl⟩, ⟨_, rfl⟩, ⟨_, rfl⟩, hv.fit, ⟨_, rfl⟩, ⟨_, rfl⟩, ⟨_, rfl⟩, hs.fit, ⟨_, rfl⟩, ⟨_, rfl⟩, hmv.fit, ⟨_, rfl⟩, ⟨_, rfl⟩, ⟨_, rfl⟩, ⟨_, rfl⟩, trivial⟩ ?_
  have a := madeP_range h0
  have hN := madeN_range h2
  have hR := mR_range hr.1
  have hS := mS_range a hsl.1
  refine h_call0 s32 ?_
  rintro _ h3 ⟨hl3, rfl⟩
  refine ⟨[.bool true], ⟨⟨_, rfl⟩, trivial⟩, rfl, h_ite (fun hc => by cases hc) (fun _ => h_call0 (s14 (SlAt.le blkC_mono hl3 hv)) ?_)⟩
  rintro _ _ ⟨rfl, bl, rfl, -⟩
  refine ⟨[.bool bl], ⟨⟨_, rfl⟩, trivial⟩, rfl, h_ite (fun _ => ⟨rfl, hl3, rfl⟩) (fun _ => ?_)⟩
  refine h_call0 (s33 (p0 := p0) (p1 := p1) (p2 := p2) (rg := rg) (sl := sl) (hs.le hl3) (hmv.le hl3) h0 h1 h2 hr hsl) ?_
  rintro _ h4 ⟨u, ds, fp, rfl, M, -⟩
  have hck := M.check a hR hS hN
  have hSm := M.small hN
  generalize madeP p0 = pp at *
  generalize mR rg = R at *
  generalize mS pp sl = S at *
  generalize madeN p2 = N at *
  have hl4 := hl3.trans M.kept.le_nil
  have hlen := M.len
  refine ⟨[.int .i64 pp, .int .i64 R, .int .i64 S, u], ⟨⟨_, rfl⟩, ⟨_, rfl⟩, ⟨_, rfl⟩, M.own.at.fit, trivial⟩, rfl, ?_⟩
  simp only [List.cons_append, List.nil_append]
  refine two_checksM rfl rfl rfl rfl (by simp) (by simp) (by simp) (by simp) (SlAt.le blkC_mono hl4 hv) fun h5 hl5 => ?_
  have hu5 := M.own.agree blkF_good (le_agree hl5 (M.own.live blkF_good))
  refine h_ite (fun _ => ?_) (fun hc => absurd (hc.symm.trans (same3 (f := mcheckM p r s bs) rfl rfl rfl rfl rfl rfl)) (by simp))
  simp only [List.cons_append, List.nil_append, faultG]
  refine h_call0 (Q := fun r h' => h5.le h' ∧ r = faultV (0, 0, 0)) ?_ ?_
  · have := s34 (h := h5) pp R S u ds (OwnBlks.at hu5)
    rw [hck] at this
    exact this
  rintro _ h6 ⟨hl6, rfl⟩
  refine ⟨faultG (0, 0, 0), faultG_fit _, rfl, h_ite (fun hc => by cases hc) (fun _ => ?_)⟩
  have hl46 := hl5.trans hl6
  have hu6 := M.own.agree blkF_good (le_agree hl46 (M.own.live blkF_good))
  simp only [List.cons_append, List.nil_append, faultG]
  refine h_call0 (Q := fun r h' => r = .tuple #[] ∧ ∃ bs' fp', OwnBlks h' u bs' fp' ∧ fp'.Nodup ∧ KeptH h6 h' fp ∧ (∀ b ∈ fp', b ∈ fp ∨ h6 b = none) ∧ Sized ds bs') (s18b hu6 M.nd hSm hb hk) ?_
  rintro _ h7 ⟨rfl, bs', fp', hu7, hnd7, hk7, hf7, hsz⟩
  have hl7 : h.le h7 := hk7.le (hl4.trans hl46) (fun b hb => H.le_none hl3 (M.fresh b hb))
  have hfr7 : Fresh h fp' := fun b hb => by
    rcases hf7 b hb with e | e
    · exact H.le_none hl3 (M.fresh b e)
    · exact H.le_none (hl4.trans hl46) e
  refine ⟨[], trivial, rfl, ?_⟩
  simp only [List.append_nil]
  refine two_checksM rfl rfl rfl rfl (by simp) (by simp) (by simp) (by simp) hu7.at fun h8 hl8 => ?_
  have hu8 := hu7.agree blkF_good (le_agree hl8 (hu7.live blkF_good))
  refine iteF (not_same3 (f := mcheckM pp R S bs') rfl rfl rfl rfl rfl rfl) ?_
  simp only [List.cons_append, List.nil_append, faultG]
  have hl08 := hl7.trans hl8
  refine h_ite (fun _ => ?_) (fun _ => h_ite (fun _ => ?_) (fun _ => h_ite (fun _ => ?_) (fun _ => ?_)))
  · refine two_checksM rfl rfl rfl rfl (by simp) (by simp) (by simp) (by simp) (OwnBlks.at hu8) fun h10 hl10 => ⟨rfl, hl08.trans hl10, ?_⟩
    exact congrArg Value.bool (same3 (f := mcheckM pp m S bs') rfl rfl rfl rfl rfl rfl)
  · refine two_checksM rfl rfl rfl rfl (by simp) (by simp) (by simp) (by simp) (OwnBlks.at hu8) fun h10 hl10 => ⟨rfl, hl08.trans hl10, ?_⟩
    exact congrArg Value.bool (same3 (f := mcheckM pp R m bs') rfl rfl rfl rfl rfl rfl)
  · refine two_checksM rfl rfl rfl rfl (by simp) (by simp) (by simp) (by simp) (OwnBlks.at hu8) fun h10 hl10 => ⟨rfl, hl08.trans hl10, ?_⟩
    exact congrArg Value.bool (same3 (f := mcheckM m R S bs') rfl rfl rfl rfl rfl rfl)
  have hbl := hsz.length
  refine h_loop (fun xs h' => ∃ (j : Nat) (cs : List Blk) (f : List Nat), xs = [.int .u8 (j : Int)] ∧ (j : Int) ≤ b ∧ h.le h' ∧ OwnBlks h' u cs f ∧ f.Nodup ∧ Fresh h f ∧ 0 < cs.length ∧ ∀ x ∈ cs, x.ins.length ≤ 1000 + 2 * j)
    (fun xs h' => (b - vi (gv xs 0)).toNat) ⟨0, bs', fp', rfl, by omega, hl08, hu8, hnd7, hfr7, by omega, fun x hx => by obtain ⟨c, hc, e⟩ := hsz.mem hx; have := (hSm.2 c hc).1; omega⟩ ?_
  rintro xs h10 J - ⟨j, cs, f, rfl, hj, hl10, hu10, hnd10, hf10, hc0, hlen⟩ hJ
  have hul := hu10.len (by omega)
  simp only [List.cons_append, List.nil_append]
  refine h_ite (fun hc => ?_) (fun hc => ?_)
  · replace hc : cmpOp .lss (j : Int) b = true := hc
    rw [cmp_lss, decide_eq_true_eq] at hc
    have n1 : cmpOp .lss 0 ((vlen u : Nat) : Int) = true := by rw [hul, cmp_lss, decide_eq_true_eq]; omega
    have hx : cs[0]? = some cs[0] := List.getElem?_eq_getElem hc0
    have hmem : cs[0] ∈ cs := List.getElem_mem _
    generalize cs[0] = x at hx hmem
    have hxl := hlen x hmem
    obtain ⟨c, f1, L1, L2, fr, K⟩ := hu10.lens hx
    obtain ⟨w, rfl, hw⟩ := K.rep
    have hwfit := (SlF.at (sz := 7) (Rep := InsC) (Nat.zero_lt_succ 6) insF_at hw).fit
    have hwr : Reads h10 (((vaddr u).add (0 * 5)).add 0) [w] := by rw [add_add]; exact K.reads fun j u hj => by obtain ⟨rfl, rfl⟩ := get_one hj; rfl
    refine ⟨fun _ => ⟨rfl, n1, trivial⟩, h_load [w] ⟨hwfit, trivial⟩ (fun _ => hwr) ⟨fun _ => hwr, insC (kIns 8) (.slice none 0 0) ++ insC (kIns 1) (.slice none 0 0), 2, ⟨rfl, rfl⟩, ?_⟩⟩
    refine app_two rfl rfl hw (K.nodup_in hnd10) (by omega) ?_
    intro w' h11 f' k1 k2 k3 k4
    obtain ⟨m1, fq, m2, m3, m4, m5⟩ := blk_ins hnd10 K k3 k1 k4 k2
    refine ⟨fun _ => ⟨rfl, n1, trivial⟩, h_store ((vaddr u).add (0 * 5 + 0)) [w'] (by rw [← add_add]; rfl) rfl m1 ?_⟩
    refine again_of (xs := [.int .u8 ((j + 1 : Nat) : Int)]) (J := J) ?_ rfl (hJ _ _ ⟨j + 1, _, fq, rfl, by omega, m4.le hl10 hf10, m2, m3, fun b hb => ?_, by simpa using hc0, fun y hy => ?_⟩ ?_)
    · show [Value.int .u8 (intOp .add .u8 (j : Int) 1)] = _
      simp only [intOp]
      rw [wrap_u8 (by omega) (by omega)]; simp
    · rcases m5 b hb with e | e
      · exact hf10 b e
      · exact H.le_none hl10 e
    · rcases List.mem_or_eq_of_mem_set hy with e | e
      · have := hlen y e; omega
      · subst e; simp; omega
    · simp only [gv_zero, vi_int]; omega
  · refine two_checksM rfl rfl rfl rfl (by simp) (by simp) (by simp) (by simp) hu10.at fun h11 hl11 => ⟨rfl, hl10.trans hl11, ?_⟩
    exact congrArg Value.bool (same3 (f := mcheckM pp R S cs) rfl rfl rfl rfl rfl rfl)
namespace machChecks
theorem own : ownKnob Try.prog.godebug = none := by kernel_rfl
theorem laidOut : laidOutB Try.prog = true := by kernel_rfl
theorem contract (H : Type) (enc : TypeId × Value → H) (W : World) (base : Nat) (args : Array Value) (ds gs : List (DataW H)) (before : List MemPlace)
    (hval : ∀ (j : Nat) t v, Try.f9.params[j]? = some t → args[j]? = some v → Value.okWide Try.prog W .any base t v)
    (hW : DataW.Whole enc Try.prog Try.f9.params.toList Rows.machChecksSpec.vars false W args.toList ds gs before) :
    Calls Try.prog 9 args W fun e W' => ∃ v, e = .returned v ∧ Rows.machChecksSpec.post enc Try.prog Try.f9 false true false false W args v W' := by
  have hW' := hW
  obtain ⟨p, q, hA, hV, rfl, hfz, hnd⟩ := hW
  rw [Try.params9] at hA hval
  obtain ⟨v0, vs0, d0, ds0, p0, q0, hargs, rfl, rfl, h0, r0⟩ := trodAll_cons hA
  obtain ⟨v1, vs1, d1, ds1, p1, q1, rfl, rfl, rfl, h1, r1⟩ := trodAll_cons r0
  obtain ⟨v2, vs2, d2, ds2, p2, q2, rfl, rfl, rfl, h2, r2⟩ := trodAll_cons r1
  obtain ⟨v3, vs3, d3, ds3, p3, q3, rfl, rfl, rfl, h3, r3⟩ := trodAll_cons r2
  obtain ⟨v4, vs4, d4, ds4, p4, q4, rfl, rfl, rfl, h4, r4⟩ := trodAll_cons r3
  obtain ⟨v5, vs5, d5, ds5, p5, q5, rfl, rfl, rfl, h5, r5⟩ := trodAll_cons r4
  obtain ⟨v6, vs6, d6, ds6, p6, q6, rfl, rfl, rfl, h6, r6⟩ := trodAll_cons r5
  obtain ⟨v7, vs7, d7, ds7, p7, q7, rfl, rfl, rfl, h7, r7⟩ := trodAll_cons r6
  obtain ⟨v8, vs8, d8, ds8, p8, q8, rfl, rfl, rfl, h8, r8⟩ := trodAll_cons r7
  obtain ⟨rfl, rfl, rfl⟩ := trodAll_nil r8
  obtain rfl : args = #[v0, v1, v2, v3, v4, v5, v6, v7, v8] := by cases args; simp_all
  obtain ⟨cs0, rfl, -⟩ := okWide_struct Try.underlying67 (hval 0 67 v0 rfl rfl)
  obtain ⟨p, r, s, v, bs, he0, hv⟩ := rd_code (Rd.of h0)
  obtain rfl : cs0 = ([Value.int .i64 p, .int .i64 r, .int .i64 s, v]).toArray := by rw [← he0]; simp [Value.cells]
  obtain ⟨cs1, rfl, -⟩ := okWide_struct Try.underlying27 (hval 1 27 v1 rfl rfl)
  obtain ⟨p0, p1, p2, vs, l, he1, g0, g1, g2, hs⟩ := rd_spec (Rd.of h1)
  obtain rfl : cs1 = ([Value.int .u8 p0, .int .u8 p1, .int .u8 p2, vs]).toArray := by rw [← he1]; simp [Value.cells]
  obtain ⟨rg, rfl, -, -, wf2⟩ := open_int Try.underlying5 (hval 2 5 v2 rfl rfl) h2
  obtain ⟨sl, rfl, -, -, wf3⟩ := open_int Try.underlying5 (hval 3 5 v3 rfl rfl) h3
  obtain ⟨a4, n4, c4, rfl⟩ := okWide_slice Try.underlying25 (hval 4 25 v4 rfl rfl)
  obtain ⟨mv, ml, he4, hmv, -⟩ := rd_bytes (Rd.of h4)
  obtain rfl : Value.slice a4 n4 c4 = mv := by simpa [Value.cells] using he4
  obtain ⟨b, rfl, -, -, wf5⟩ := open_int Try.underlying5 (hval 5 5 v5 rfl rfl) h5
  obtain ⟨k, rfl, -, -, wf6⟩ := open_int Try.underlying5 (hval 6 5 v6 rfl rfl) h6
  obtain ⟨fd, rfl, -, -, wf7⟩ := open_int Try.underlying5 (hval 7 5 v7 rfl rfl) h7
  obtain ⟨m, rfl, -, -, wf8⟩ := open_int Try.underlying3 (hval 8 3 v8 rfl rfl) h8
  refine (law_calls (f := 9) (args := [.agg ([Value.int .i64 p, .int .i64 r, .int .i64 s, v]).toArray, .agg ([Value.int .u8 p0, .int .u8 p1, .int .u8 p2, vs]).toArray, .int .u8 rg, .int .u8 sl, .slice a4 n4 c4, .int .u8 b, .int .u8 k, .int .u8 fd, .int .i64 m]) (s9 hv hs hmv g0 g1 g2 (u8r wf2) (u8r wf3) (u8r wf5) (u8r wf6))).mono ?_
  rintro e' W' ⟨rfl, bel⟩
  exact ⟨_, rfl, law_post laidOut hW' rfl (of_decide_eq_true (by kernel_rfl)) rfl Try.underlying4 rfl bel⟩
set_option maxRecDepth 100000 in
theorem lifted (os : Os) (started : os.Started) (H : Type) (enc : TypeId × Value → H) :
    ReturnsInHanded {} Try.checked os 9 .any (Rows.machChecksSpec.pre6 enc Try.prog Try.f9 Rows.machChecksRow.domain false) (Rows.machChecksSpec.post enc Try.prog Try.f9 false true false false) := by
  refine returnsInHanded_of_change (C := Try.checked) own started (by kernel_rfl) Try.func9
    (ChangeSpec.witness6 (enc := enc) (C := Try.checked) false ⟨#[], #[.agg #[.int .i64 0, .int .i64 0, .int .i64 0, .slice none 0 0], .agg #[.int .u8 0, .int .u8 0, .int .u8 0, .slice none 0 0], .int .u8 0, .int .u8 0, .slice none 0 0, .int .u8 0, .int .u8 0, .int .u8 0, .int .i64 0], []⟩ 8 (by kernel_rfl) (by kernel_rfl) (by kernel_rfl) (by kernel_rfl)) ?_
  intro W base args ds gs before hval hW _ _
  exact contract H enc W base args ds gs before hval hW
theorem proved : Rows.MachChecksSaid :=
  OpenClaim.holds_of_wide 9 Try.f9 rfl rfl rfl rfl rfl rfl rfl ⟨rfl, rfl, rfl, rfl, rfl⟩ rfl rfl rfl rfl rfl (by kernel_rfl) Try.func9 (by kernel_rfl)
    (of_decide_eq_true (by kernel_rfl)) (by unfold Func.isWrapper; first | (rw [if_pos (by decide +kernel)]; kernel_rfl) | (rw [if_neg (by decide +kernel)]; exact ⟨rfl, rfl⟩))
    (fun os started H enc _ => lifted os started H enc)
end machChecks
/-- The row, under a short name, for the claim. -/
theorem machChecksHolds : Rows.MachChecksSaid := machChecks.proved
#print axioms machChecksHolds
end Go.Proofs.Ytibdneedfopcoaa
