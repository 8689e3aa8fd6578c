/-
  The law WireCodes answers true. Conditions: none.
-/
import Derived.Test.YthnoplfjcdkacaaR3E
import Derived.Test.YthnoplfjcdkacaaR1Mm
import Derived.Test.YthnoplfjcdkacaaRows
set_option linter.unusedVariables false
set_option linter.unusedSimpArgs false
namespace Go.Proofs.Ythnoplfjcdkacaa
open Go Go.ChangeShapes Go.WideShapes Go.ChangeAt Go.RowKit

set_option maxRecDepth 8000 in
theorem s5 {h : H} {v vs' mv : Value} {p r s m : Int} {bs : List Blk} {p0 p1 p2 b k fd : Int} {l ml : List Int} (hv : BlksAt h v bs) (hnb : NB bs) (hs : BytesAt h vs' l) (hmv : BytesAt h mv ml) (h0 : 0 ≤ p0) (h1 : 0 ≤ p1) (h2 : 0 ≤ p2) (hb : 0 ≤ b ∧ b ≤ 255) (hk : 0 ≤ k ∧ k ≤ 255) (hm : N64 m) :
    CallsA Try.prog 5 (fun _ => [.agg #[.int .i64 p, .int .i64 r, .int .i64 s, v], .agg #[.int .u8 p0, .int .u8 p1, .int .u8 p2, vs'], mv, .int .u8 b, .int .u8 k, .int .u8 fd, .int .i64 m]) [] h (Ret fun r h' => h.le h' ∧ r = .bool true) := by
  refine c5 (G := [.int .i64 p, .int .i64 r, .int .i64 s, v, .int .u8 p0, .int .u8 p1, .int .u8 p2, vs', mv, .int .u8 b, .int .u8 k, .int .u8 fd, .int .i64 m]) ⟨⟨_, rfl⟩, ⟨_, rfl⟩, ⟨_, rfl⟩, hv.fit, ⟨_, rfl⟩, ⟨_, rfl⟩, ⟨_, rfl⟩, hs.fit, hmv.fit, ⟨_, rfl⟩, ⟨_, rfl⟩, ⟨_, rfl⟩, ⟨_, rfl⟩, trivial⟩ ?_
  refine h_call0 s10 ?_
  rintro _ h3 ⟨hl3, rfl⟩
  refine ⟨[.bool true], ⟨⟨_, rfl⟩, trivial⟩, rfl, h_ite (fun hc => by cases hc) (fun _ => h_call0 (s11 (SlAt.le blkC_mono hl3 hv)) ?_)⟩
  rintro _ _ ⟨rfl, bl, rfl, -⟩
  refine ⟨[.bool bl], ⟨⟨_, rfl⟩, trivial⟩, rfl, h_ite (fun _ => ⟨rfl, hl3, rfl⟩) (fun _ => ?_)⟩
  have hN := madeN_range h2
  refine h_call0 (s18 (p0 := p0) (p1 := p1) (p2 := p2) (rg := b) (sl := k) (hs.le hl3) (hmv.le hl3) h0 h1 h2 hb hk) ?_
  rintro _ h4 ⟨u, bs1, fp, rfl, M, -⟩
  have hl4 := hl3.trans M.kept.le_nil
  refine ⟨[.int .i64 (madeP p0), .int .i64 (mR b), .int .i64 (mS (madeP p0) k), u], ⟨⟨_, rfl⟩, ⟨_, rfl⟩, ⟨_, rfl⟩, M.own.at.fit, trivial⟩, rfl, ?_⟩
  simp only [List.cons_append, List.nil_append]
  refine h_call0 (Q := fun r h' => r = .tuple #[] ∧ ∃ bs' fp', OwnBlks h' u bs' fp' ∧ fp'.Nodup ∧ KeptH h4 h' fp ∧ (∀ b ∈ fp', b ∈ fp ∨ h4 b = none) ∧ Sized bs1 bs' ∧ (N64 m → NB bs1 → NB bs')) (s13kb M.own M.nd (M.small hN) hb hk) ?_
  rintro _ h5 ⟨rfl, bt, fpt, hu5, hnd5, hk5, hf5, -, hnt⟩
  have hl5 : h.le h5 := hk5.le hl4 (fun b hb => H.le_none hl3 (M.fresh b hb))
  refine ⟨[], trivial, rfl, ?_⟩
  simp only [List.append_nil]
  refine h_call0 (s18 (p0 := p0) (p1 := p1) (p2 := p2) (rg := b) (sl := k) (hs.le hl5) (hmv.le hl5) h0 h1 h2 hb hk) ?_
  rintro _ h6 ⟨u2, bs2, fp2, rfl, M2, -⟩
  have hl56 := M2.kept.le_nil
  have hl6 := hl5.trans hl56
  have nb1 : NB bs1 := fun b hb x hx => ((M.ok b hb).2.1 x hx).2.2
  have nb2 : NB bs2 := fun b hb x hx => ((M2.ok b hb).2.1 x hx).2.2
  refine ⟨[.int .i64 (madeP p0), .int .i64 (mR b), .int .i64 (mS (madeP p0) k), u2], ⟨⟨_, rfl⟩, ⟨_, rfl⟩, ⟨_, rfl⟩, M2.own.at.fit, trivial⟩, rfl, ?_⟩
  simp only [List.cons_append, List.nil_append]
  intro b7 hb7
  obtain ⟨h7, e7⟩ : ∃ h7, h7 = h6.put b7 (.cells (SV.denL [Value.int .i64 p, .int .i64 r, .int .i64 s, v, .int .u8 p0, .int .u8 p1, .int .u8 p2, vs', mv, .int .u8 b, .int .u8 k, .int .u8 fd, .int .i64 m, .bool true, .bool bl, .int .i64 (madeP p0), .int .i64 (mR b), .int .i64 (mS (madeP p0) k), u, .int .i64 (madeP p0), .int .i64 (mR b), .int .i64 (mS (madeP p0) k), u2] dE [(.int .i64 (.var 0)), (.int .i64 (.var 1)), (.int .i64 (.var 2)), (.val 3), (.int .i64 (.var 15)), (.int .i64 (.var 16)), (.int .i64 (.var 17)), (.val 18), (.int .i64 (.var 19)), (.int .i64 (.var 20)), (.int .i64 (.var 21)), (.val 22)]).toArray 44 (0, 0)) := ⟨_, rfl⟩
  have hl7 : h6.le h7 := by rw [e7]; exact H.le_put hb7
  rw [← e7]
  have hl07 := hl6.trans hl7
  -- the three
  have it : ∀ i : Nat, i < 3 → ∃ (P N S : Int) (w : Value) (cs : List Blk), Reads h7 ((⟨b7, 0, none⟩ : Addr).add (i * 4)) [.int .i64 P, .int .i64 N, .int .i64 S, w] ∧ BlksAt h7 w cs ∧ NB cs := by
    intro i hi
    have : i = 0 ∨ i = 1 ∨ i = 2 := by omega
    rcases this with rfl | rfl | rfl
    · exact ⟨p, r, s, v, bs, by rw [e7]; exact row_at (A := []) (C := [.int .i64 (madeP p0), .int .i64 (mR b), .int .i64 (mS (madeP p0) k), u, .int .i64 (madeP p0), .int .i64 (mR b), .int .i64 (mS (madeP p0) k), u2]) rfl rfl, SlAt.le blkC_mono hl07 hv, hnb⟩
    · exact ⟨madeP p0, mR b, mS (madeP p0) k, u, bt, by rw [e7]; exact row_at (A := [.int .i64 p, .int .i64 r, .int .i64 s, v]) (C := [.int .i64 (madeP p0), .int .i64 (mR b), .int .i64 (mS (madeP p0) k), u2]) rfl rfl, SlAt.le blkC_mono (hl56.trans hl7) hu5.at, hnt hm nb1⟩
    · exact ⟨madeP p0, mR b, mS (madeP p0) k, u2, bs2, by rw [e7]; exact row_at (A := [.int .i64 p, .int .i64 r, .int .i64 s, v, .int .i64 (madeP p0), .int .i64 (mR b), .int .i64 (mS (madeP p0) k), u]) (C := []) rfl rfl, SlAt.le blkC_mono hl7 M2.own.at, nb2⟩
  refine h_loop (fun xs h' => ∃ i : Nat, xs = [.int .i64 (i : Int)] ∧ i ≤ 3 ∧ h7.le h') (fun xs h' => 3 - (vi (gv xs 0)).toNat) ⟨0, rfl, by omega, H.le_refl _⟩ ?_
  rintro xs h8 J - ⟨i, rfl, hi, hl8⟩ hJ
  simp only [List.cons_append, List.nil_append]
  have hl08 := hl07.trans hl8
  refine h_ite (fun hc => ?_) (fun hc => ⟨rfl, hl08, rfl⟩)
  replace hc : cmpOp .lss (i : Int) 3 = true := hc
  have hc' := hc
  rw [cmp_lss, decide_eq_true_eq] at hc
  have hi3 : i < 3 := by omega
  obtain ⟨P, N, S, w, cs, hr, hw, hn⟩ := it i hi3
  refine ⟨fun _ => ⟨nat_ge0 i, hc', trivial⟩, h_load [.int .i64 P, .int .i64 N, .int .i64 S, w] ⟨⟨_, rfl⟩, ⟨_, rfl⟩, ⟨_, rfl⟩, hw.fit, trivial⟩ (fun _ => hr.le hl8) ?_⟩
  simp only [List.cons_append, List.nil_append]
  have nxt : ∀ {h' : H}, h8.le h' → J [.int .i64 (intOp .add .i64 (i : Int) 1)] h' := fun g => by
    rw [int_add_one (n := 3) (by omega) (by omega)]
    refine hJ _ _ ⟨i + 1, rfl, by omega, hl8.trans g⟩ ?_
    show 3 - ((((i + 1 : Nat) : Nat) : Int)).toNat < 3 - ((i : Int)).toNat
    omega
  have hw8 := SlAt.le blkC_mono hl8 hw
  refine h_call0 (s19 (p := P) (r := N) (s := S) hw8 hn) ?_
  rintro _ h9 ⟨hl9, hor⟩
  have refF : ∀ h', h9.le h' → CallsA Try.prog 20 (fun _ => [.agg #[.int .i64 P, .int .i64 N, .int .i64 S, w]]) [] h' (Ret fun r h'' => h'.le h'' ∧ r = faultV (mcheckM P N S cs)) := fun h' hl => s20 P N S w cs (SlAt.le blkC_mono (hl9.trans hl) hw8)
  rcases hor with ⟨hc2, rfl⟩ | ⟨hc2, g, rfl, o⟩
  · refine ⟨[.slice none 0 0, .int .i64 30], ⟨fits_nil, ⟨_, rfl⟩, trivial⟩, rfl, ?_⟩
    simp only [List.cons_append, List.nil_append]
    refine h_call0 (refF h9 (H.le_refl _)) ?_
    rintro _ h10 ⟨hl10, rfl⟩
    refine ⟨faultG (mcheckM P N S cs), faultG_fit _, rfl, ?_⟩
    simp only [faultG, List.cons_append, List.nil_append]
    refine iteT ?_ (iteF rfl (nxt (hl9.trans hl10)))
    show cmpOp .neq (mcheckM P N S cs).1 0 = true
    rw [cmp_neq, decide_eq_true_eq]; exact hc2
  · refine ⟨[g, .int .i64 0], ⟨o.at.fit, ⟨_, rfl⟩, trivial⟩, rfl, ?_⟩
    simp only [List.cons_append, List.nil_append]
    refine h_call0 (refF h9 (H.le_refl _)) ?_
    rintro _ h10 ⟨hl10, rfl⟩
    refine ⟨faultG (mcheckM P N S cs), faultG_fit _, rfl, ?_⟩
    simp only [faultG, List.cons_append, List.nil_append]
    have hl810 := hl9.trans hl10
    have o10 := o.at.le hl10
    have fb := s21 (p := P) (r := N) (s := S) (SlAt.le blkC_mono hl810 hw8) (mcheckM_good hc2) hn
    have same : ∀ z : List Int, ((strOfNums z).toList == (strOfNums z).toList) = true := fun z => beq_self_eq_true _
    have ns : ∀ (z : List Int), vb (Value.bool (!((strOfNums z).toList == (strOfNums z).toList))) = false := fun z => by rw [same]; rfl
    refine iteF ?_ ⟨iteT rfl ⟨_, o10.bin, ?_⟩, iteT rfl (h_call0 fb ?_)⟩
    · show cmpOp .neq (mcheckM P N S cs).1 0 = false
      rw [cmp_neq, decide_eq_false_iff_not, Decidable.not_not]; exact hc2
    · simp only [List.cons_append, List.nil_append]
      refine h_call0 fb ?_
      rintro r h11 ⟨hl11, o11⟩
      refine ⟨[r], ⟨o11.at.fit, trivial⟩, rfl, ⟨_, o11.at.bin, iteF (ns _) (nxt (hl810.trans hl11))⟩⟩
    · rintro r h11 ⟨hl11, o11⟩
      refine ⟨[r], ⟨o11.at.fit, trivial⟩, rfl, ?_⟩
      simp only [List.cons_append, List.nil_append]
      exact ⟨⟨_, (o10.le hl11).bin, _, o11.at.bin, iteF (ns _) (nxt (hl810.trans hl11))⟩, _, o11.at.bin, _, (o10.le hl11).bin, iteF (ns _) (nxt (hl810.trans hl11))⟩
namespace wireCodes
theorem own : ownKnob Try.prog.godebug = none := by kernel_rfl
set_option maxRecDepth 100000 in
theorem laidOut : laidOutB Try.prog = true := by kernel_rfl
set_option maxRecDepth 100000 in
theorem contract (H : Type) (enc : TypeId × Value → H) (W : World) (base : Nat) (args : Array Value) (ds gs : List (DataW H)) (before : List MemPlace)
    (hval : ∀ (j : Nat) t v, Try.f5.params[j]? = some t → args[j]? = some v → Value.okWide Try.prog W .any base t v)
    (hW : DataW.Whole enc Try.prog Try.f5.params.toList Rows.wireCodesSpec.vars false W args.toList ds gs before) :
    Calls Try.prog 5 args W fun e W' => ∃ v, e = .returned v ∧ Rows.wireCodesSpec.post enc Try.prog Try.f5 false true false false W args v W' := by
  have hW' := hW
  obtain ⟨p, q, hA, hV, rfl, hfz, hnd⟩ := hW
  rw [Try.params5] at hA hval
  obtain ⟨v0, vs0, d0, ds0, p0, q0, hargs, rfl, rfl, h0, r0⟩ := trodAll_cons hA
  obtain ⟨v1, vs1, d1, ds1, p1, q1, rfl, rfl, rfl, h1, r1⟩ := trodAll_cons r0
  obtain ⟨v2, vs2, d2, ds2, p2, q2, rfl, rfl, rfl, h2, r2⟩ := trodAll_cons r1
  obtain ⟨v3, vs3, d3, ds3, p3, q3, rfl, rfl, rfl, h3, r3⟩ := trodAll_cons r2
  obtain ⟨v4, vs4, d4, ds4, p4, q4, rfl, rfl, rfl, h4, r4⟩ := trodAll_cons r3
  obtain ⟨v5, vs5, d5, ds5, p5, q5, rfl, rfl, rfl, h5, r5⟩ := trodAll_cons r4
  obtain ⟨v6, vs6, d6, ds6, p6, q6, rfl, rfl, rfl, h6, r6⟩ := trodAll_cons r5
  obtain ⟨rfl, rfl, rfl⟩ := trodAll_nil r6
  obtain rfl : args = #[v0, v1, v2, v3, v4, v5, v6] := by cases args; simp_all
  obtain ⟨cs0, rfl, -⟩ := okWide_struct Try.underlying44 (hval 0 44 v0 rfl rfl)
  obtain ⟨cp, cr, cs', fv, fbs, he0, hfv, hnb⟩ := rd_codeN (Rd.of h0)
  obtain rfl : cs0 = ([Value.int .i64 cp, .int .i64 cr, .int .i64 cs', fv]).toArray := by rw [← he0]; simp [Value.cells]
  obtain ⟨cs1, rfl, -⟩ := okWide_struct Try.underlying27 (hval 1 27 v1 rfl rfl)
  obtain ⟨p0, p1, p2, vs, l, he1, g0, g1, g2, hs⟩ := rd_spec (Rd.of h1)
  obtain rfl : cs1 = ([Value.int .u8 p0, .int .u8 p1, .int .u8 p2, vs]).toArray := by rw [← he1]; simp [Value.cells]
  obtain ⟨a2, n2, c2, rfl⟩ := okWide_slice Try.underlying25 (hval 2 25 v2 rfl rfl)
  obtain ⟨mv, ml, he2, hmv, -⟩ := rd_bytes (Rd.of h2)
  obtain rfl : Value.slice a2 n2 c2 = mv := by simpa [Value.cells] using he2
  obtain ⟨bb, rfl, -, -, wf3⟩ := open_int Try.underlying5 (hval 3 5 v3 rfl rfl) h3
  obtain ⟨kk, rfl, -, -, wf4⟩ := open_int Try.underlying5 (hval 4 5 v4 rfl rfl) h4
  obtain ⟨fd, rfl, -, -, wf5⟩ := open_int Try.underlying5 (hval 5 5 v5 rfl rfl) h5
  obtain ⟨mm, rfl, -, -, wf6⟩ := open_int Try.underlying3 (hval 6 3 v6 rfl rfl) h6
  refine (law_calls (f := 5) (args := [.agg ([Value.int .i64 cp, .int .i64 cr, .int .i64 cs', fv]).toArray, .agg ([Value.int .u8 p0, .int .u8 p1, .int .u8 p2, vs]).toArray, .slice a2 n2 c2, .int .u8 bb, .int .u8 kk, .int .u8 fd, .int .i64 mm]) (s5 hfv hnb hs hmv g0 g1 g2 (u8r wf3) (u8r wf4) (i64r wf6))).mono ?_
  rintro e' W' ⟨rfl, bel⟩
  exact ⟨_, rfl, law_post laidOut hW' rfl (of_decide_eq_true (by kernel_rfl)) rfl Try.underlying4 rfl bel⟩
set_option maxRecDepth 100000 in
theorem lifted (os : Os) (started : os.Started) (H : Type) (enc : TypeId × Value → H) :
    ReturnsInHanded {} Try.checked os 5 .any (Rows.wireCodesSpec.pre6 enc Try.prog Try.f5 Rows.wireCodesRow.domain false) (Rows.wireCodesSpec.post enc Try.prog Try.f5 false true false false) := by
  refine returnsInHanded_of_change (C := Try.checked) own started (by kernel_rfl) Try.func5
    (ChangeSpec.witness6 (enc := enc) (C := Try.checked) false ⟨#[], #[.agg #[.int .i64 0, .int .i64 0, .int .i64 0, .slice none 0 0], .agg #[.int .u8 0, .int .u8 0, .int .u8 0, .slice none 0 0], .slice none 0 0, .int .u8 0, .int .u8 0, .int .u8 0, .int .i64 0], []⟩ 8 (by kernel_rfl) (by kernel_rfl) (by kernel_rfl) (by kernel_rfl)) ?_
  intro W base args ds gs before hval hW _ _
  exact contract H enc W base args ds gs before hval hW
set_option maxRecDepth 100000 in
theorem proved : Rows.WireCodesSaid :=
  OpenClaim.holds_of_wide 5 Try.f5 rfl rfl rfl rfl rfl rfl rfl ⟨rfl, rfl, rfl, rfl, rfl⟩ rfl rfl rfl rfl rfl (by kernel_rfl) Try.func5 (by kernel_rfl)
    (of_decide_eq_true (by kernel_rfl)) (by unfold Func.isWrapper; first | (rw [if_pos (by decide +kernel)]; kernel_rfl) | (rw [if_neg (by decide +kernel)]; exact ⟨rfl, rfl⟩))
    (fun os started H enc _ => lifted os started H enc)
end wireCodes
/-- The row, under a short name, for the claim. -/
theorem wireCodesHolds : Rows.WireCodesSaid := wireCodes.proved
#print axioms wireCodesHolds
end Go.Proofs.Ythnoplfjcdkacaa
