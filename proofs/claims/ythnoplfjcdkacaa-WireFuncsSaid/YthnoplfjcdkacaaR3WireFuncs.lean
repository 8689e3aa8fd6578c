/-
  The law WireFuncs answers true. Conditions: none.
-/
import Derived.Test.YthnoplfjcdkacaaR3E
import Derived.Test.YthnoplfjcdkacaaRows
set_option linter.unusedVariables false
set_option linter.unusedSimpArgs false
namespace Go.Proofs.Ythnoplfjcdkacaa
open Go Go.ChangeShapes Go.WideShapes Go.ChangeAt Go.RowKit

set_option maxRecDepth 8000 in
theorem s3 {h : H} {v vs' : Value} {p n m : Int} {bs : List Blk} {p0 p1 p2 b k fd : Int} {l : List Int} (hv : BlksAt h v bs) (hnb : NB bs) (hs : BytesAt h vs' l) (h0 : 0 ≤ p0) (h1 : 0 ≤ p1) (h2 : 0 ≤ p2) (hb : 0 ≤ b ∧ b ≤ 255) (hk : 0 ≤ k ∧ k ≤ 255) (hm : N64 m) :
    CallsA Try.prog 3 (fun _ => [.agg #[.int .i64 p, .int .i64 n, v], .agg #[.int .u8 p0, .int .u8 p1, .int .u8 p2, vs'], .int .u8 b, .int .u8 k, .int .u8 fd, .int .i64 m]) [] h (Ret fun r h' => h.le h' ∧ r = .bool true) := by
  refine c3 (G := [.int .i64 p, .int .i64 n, v, .int .u8 p0, .int .u8 p1, .int .u8 p2, vs', .int .u8 b, .int .u8 k, .int .u8 fd, .int .i64 m]) ⟨⟨_, rfl⟩, ⟨_, rfl⟩, hv.fit, ⟨_, rfl⟩, ⟨_, rfl⟩, ⟨_, rfl⟩, hs.fit, ⟨_, rfl⟩, ⟨_, rfl⟩, ⟨_, rfl⟩, ⟨_, rfl⟩, trivial⟩ ?_
  have hB := hs.inB
  have nbB := madeB_n (p0 := p0) (p1 := p1) (p2 := p2) hB
  refine h_call0 s10 ?_
  rintro _ h3 ⟨hl3, rfl⟩
  refine ⟨[.bool true], ⟨⟨_, rfl⟩, trivial⟩, rfl, h_ite (fun hc => by cases hc) (fun _ => h_call0 (s11 (SlAt.le blkC_mono hl3 hv)) ?_)⟩
  rintro _ _ ⟨rfl, bl, rfl, -⟩
  refine ⟨[.bool bl], ⟨⟨_, rfl⟩, trivial⟩, rfl, h_ite (fun _ => ⟨rfl, hl3, rfl⟩) (fun _ => ?_)⟩
  refine h_call0 (s12 (p0 := p0) (p1 := p1) (p2 := p2) (hs.le hl3) h0 h1 h2) ?_
  rintro _ h4 ⟨hk4, u, fp, rfl, hu, hf, hnd⟩
  have hl4 := hl3.trans hk4.le_nil
  refine ⟨[.int .i64 (madeP p0), .int .i64 (madeV p0 p1), u], ⟨⟨_, rfl⟩, ⟨_, rfl⟩, hu.at.fit, trivial⟩, rfl, ?_⟩
  simp only [List.cons_append, List.nil_append]
  refine h_call0 (Q := fun r h' => r = .tuple #[] ∧ ∃ bs' fp', OwnBlks h' u bs' fp' ∧ fp'.Nodup ∧ KeptH h4 h' fp ∧ (∀ b ∈ fp', b ∈ fp ∨ h4 b = none) ∧ Sized (madeB p0 p1 p2 l) bs' ∧ (N64 m → NB (madeB p0 p1 p2 l) → NB bs')) (s13kb hu hnd (madeB_small h0 h1 h2 hB) hb hk) ?_
  rintro _ h5 ⟨rfl, bt, fpt, hu5, hnd5, hk5, hf5, -, hnt⟩
  have hl5 : h.le h5 := hk5.le hl4 (fun b hb => H.le_none hl3 (hf b hb))
  refine ⟨[], trivial, rfl, ?_⟩
  simp only [List.append_nil]
  refine h_call0 (s12 (p0 := p0) (p1 := p1) (p2 := p2) (hs.le hl5) h0 h1 h2) ?_
  rintro _ h6 ⟨hk6, u2, fp2, rfl, hu6, hf6, hnd6⟩
  have hl56 := hk6.le_nil
  have hl6 := hl5.trans hl56
  refine ⟨[.int .i64 (madeP p0), .int .i64 (madeV p0 p1), u2], ⟨⟨_, rfl⟩, ⟨_, rfl⟩, hu6.at.fit, trivial⟩, rfl, ?_⟩
  simp only [List.cons_append, List.nil_append]
  intro b7 hb7
  have hl7 := H.le_put (o := .cells (SV.denL [Value.int .i64 p, .int .i64 n, v, .int .u8 p0, .int .u8 p1, .int .u8 p2, vs', .int .u8 b, .int .u8 k, .int .u8 fd, .int .i64 m, .bool true, .bool bl, .int .i64 (madeP p0), .int .i64 (madeV p0 p1), u, .int .i64 (madeP p0), .int .i64 (madeV p0 p1), u2] dE [(.int .i64 (.var 0)), (.int .i64 (.var 1)), (.val 2), (.int .i64 (.var 13)), (.int .i64 (.var 14)), (.val 15), (.int .i64 (.var 16)), (.int .i64 (.var 17)), (.val 18)]).toArray 24 (0, 0)) hb7
  obtain ⟨h7, e7⟩ : ∃ h7, h7 = h6.put b7 (.cells (SV.denL [Value.int .i64 p, .int .i64 n, v, .int .u8 p0, .int .u8 p1, .int .u8 p2, vs', .int .u8 b, .int .u8 k, .int .u8 fd, .int .i64 m, .bool true, .bool bl, .int .i64 (madeP p0), .int .i64 (madeV p0 p1), u, .int .i64 (madeP p0), .int .i64 (madeV p0 p1), u2] dE [(.int .i64 (.var 0)), (.int .i64 (.var 1)), (.val 2), (.int .i64 (.var 13)), (.int .i64 (.var 14)), (.val 15), (.int .i64 (.var 16)), (.int .i64 (.var 17)), (.val 18)]).toArray 24 (0, 0)) := ⟨_, rfl⟩
  rw [← e7] at hl7 ⊢
  have hl07 := hl6.trans hl7
  -- the three
  have it : ∀ i : Nat, i < 3 → ∃ (P N : Int) (w : Value) (cs : List Blk), Reads h7 ((⟨b7, 0, none⟩ : Addr).add (i * 3)) [.int .i64 P, .int .i64 N, w] ∧ BlksAt h7 w cs ∧ NB cs := by
    intro i hi
    have : i = 0 ∨ i = 1 ∨ i = 2 := by omega
    rcases this with rfl | rfl | rfl
    · exact ⟨p, n, v, bs, by rw [e7]; exact row_at (A := []) (C := [.int .i64 (madeP p0), .int .i64 (madeV p0 p1), u, .int .i64 (madeP p0), .int .i64 (madeV p0 p1), u2]) rfl rfl, SlAt.le blkC_mono hl07 hv, hnb⟩
    · exact ⟨madeP p0, madeV p0 p1, u, bt, by rw [e7]; exact row_at (A := [.int .i64 p, .int .i64 n, v]) (C := [.int .i64 (madeP p0), .int .i64 (madeV p0 p1), u2]) rfl rfl, SlAt.le blkC_mono (hl56.trans hl7) hu5.at, hnt hm nbB⟩
    · exact ⟨madeP p0, madeV p0 p1, u2, madeB p0 p1 p2 l, by rw [e7]; exact row_at (A := [.int .i64 p, .int .i64 n, v, .int .i64 (madeP p0), .int .i64 (madeV p0 p1), u]) (C := []) rfl rfl, SlAt.le blkC_mono hl7 hu6.at, nbB⟩
  refine h_loop (fun xs h' => ∃ i : Nat, xs = [.int .i64 (i : Int)] ∧ i ≤ 3 ∧ h7.le h') (fun xs h' => 3 - (vi (gv xs 0)).toNat) ⟨0, rfl, by omega, H.le_refl _⟩ ?_
  rintro xs h8 J - ⟨i, rfl, hi, hl8⟩ hJ
  simp only [List.cons_append, List.nil_append]
  have hl08 := hl07.trans hl8
  refine h_ite (fun hc => ?_) (fun hc => ⟨rfl, hl08, rfl⟩)
  replace hc : cmpOp .lss (i : Int) 3 = true := hc
  have hc' := hc
  rw [cmp_lss, decide_eq_true_eq] at hc
  have hi3 : i < 3 := by omega
  obtain ⟨P, N, w, cs, hr, hw, hn⟩ := it i hi3
  refine ⟨fun _ => ⟨nat_ge0 i, hc', trivial⟩, h_load [.int .i64 P, .int .i64 N, w] ⟨⟨_, rfl⟩, ⟨_, rfl⟩, hw.fit, trivial⟩ (fun _ => hr.le hl8) ?_⟩
  simp only [List.cons_append, List.nil_append]
  have nxt : ∀ {h' : H}, h8.le h' → J [.int .i64 (intOp .add .i64 (i : Int) 1)] h' := fun g => by
    rw [int_add_one (n := 3) (by omega) (by omega)]
    refine hJ _ _ ⟨i + 1, rfl, by omega, hl8.trans g⟩ ?_
    show 3 - ((((i + 1 : Nat) : Nat) : Int)).toNat < 3 - ((i : Int)).toNat
    omega
  have hw8 := SlAt.le blkC_mono hl8 hw
  refine h_call0 (s14 (p := P) (n := N) hw8 hn) ?_
  rintro _ h9 ⟨hl9, hor⟩
  have refF : ∀ h', h9.le h' → CallsA Try.prog 15 (fun _ => [.agg #[.int .i64 P, .int .i64 N, w]]) [] h' (Ret fun r h'' => h'.le h'' ∧ r = faultV (checkM P N cs)) := fun h' hl => s15 P N w cs (SlAt.le blkC_mono (hl9.trans hl) hw8)
  rcases hor with ⟨hc2, rfl⟩ | ⟨hc2, g, rfl, o⟩
  · refine ⟨[.slice none 0 0, .int .i64 30], ⟨fits_nil, ⟨_, rfl⟩, trivial⟩, rfl, ?_⟩
    simp only [List.cons_append, List.nil_append]
    refine h_call0 (refF h9 (H.le_refl _)) ?_
    rintro _ h10 ⟨hl10, rfl⟩
    refine ⟨faultG (checkM P N cs), faultG_fit _, rfl, ?_⟩
    simp only [faultG, List.cons_append, List.nil_append]
    refine iteT ?_ (iteF rfl (nxt (hl9.trans hl10)))
    show cmpOp .neq (checkM P N cs).1 0 = true
    rw [cmp_neq, decide_eq_true_eq]; exact hc2
  · refine ⟨[g, .int .i64 0], ⟨o.at.fit, ⟨_, rfl⟩, trivial⟩, rfl, ?_⟩
    simp only [List.cons_append, List.nil_append]
    refine h_call0 (refF h9 (H.le_refl _)) ?_
    rintro _ h10 ⟨hl10, rfl⟩
    refine ⟨faultG (checkM P N cs), faultG_fit _, rfl, ?_⟩
    simp only [faultG, List.cons_append, List.nil_append]
    have hl810 := hl9.trans hl10
    have o10 := o.at.le hl10
    have fb := s16 (p := P) (n := N) (SlAt.le blkC_mono hl810 hw8) (checkM_good hc2) hn
    have same : ∀ z : List Int, ((strOfNums z).toList == (strOfNums z).toList) = true := fun z => beq_self_eq_true _
    have ns : ∀ (z : List Int), vb (Value.bool (!((strOfNums z).toList == (strOfNums z).toList))) = false := fun z => by rw [same]; rfl
    refine iteF ?_ ⟨iteT rfl ⟨_, o10.bin, ?_⟩, iteT rfl (h_call0 fb ?_)⟩
    · show cmpOp .neq (checkM P N cs).1 0 = false
      rw [cmp_neq, decide_eq_false_iff_not, Decidable.not_not]; exact hc2
    · simp only [List.cons_append, List.nil_append]
      refine h_call0 fb ?_
      rintro r h11 ⟨hl11, o11⟩
      refine ⟨[r], ⟨o11.at.fit, trivial⟩, rfl, ⟨_, o11.at.bin, iteF (ns _) (nxt (hl810.trans hl11))⟩⟩
    · rintro r h11 ⟨hl11, o11⟩
      refine ⟨[r], ⟨o11.at.fit, trivial⟩, rfl, ?_⟩
      simp only [List.cons_append, List.nil_append]
      exact ⟨⟨_, (o10.le hl11).bin, _, o11.at.bin, iteF (ns _) (nxt (hl810.trans hl11))⟩, _, o11.at.bin, _, (o10.le hl11).bin, iteF (ns _) (nxt (hl810.trans hl11))⟩
namespace wireFuncs
theorem own : ownKnob Try.prog.godebug = none := by kernel_rfl
set_option maxRecDepth 100000 in
theorem laidOut : laidOutB Try.prog = true := by kernel_rfl
set_option maxRecDepth 100000 in
theorem contract (H : Type) (enc : TypeId × Value → H) (W : World) (base : Nat) (args : Array Value) (ds gs : List (DataW H)) (before : List MemPlace)
    (hval : ∀ (j : Nat) t v, Try.f3.params[j]? = some t → args[j]? = some v → Value.okWide Try.prog W .any base t v)
    (hW : DataW.Whole enc Try.prog Try.f3.params.toList Rows.wireFuncsSpec.vars false W args.toList ds gs before) :
    Calls Try.prog 3 args W fun e W' => ∃ v, e = .returned v ∧ Rows.wireFuncsSpec.post enc Try.prog Try.f3 false true false false W args v W' := by
  have hW' := hW
  obtain ⟨p, q, hA, hV, rfl, hfz, hnd⟩ := hW
  rw [Try.params3] at hA hval
  obtain ⟨v0, vs0, d0, ds0, p0, q0, hargs, rfl, rfl, h0, r0⟩ := trodAll_cons hA
  obtain ⟨v1, vs1, d1, ds1, p1, q1, rfl, rfl, rfl, h1, r1⟩ := trodAll_cons r0
  obtain ⟨v2, vs2, d2, ds2, p2, q2, rfl, rfl, rfl, h2, r2⟩ := trodAll_cons r1
  obtain ⟨v3, vs3, d3, ds3, p3, q3, rfl, rfl, rfl, h3, r3⟩ := trodAll_cons r2
  obtain ⟨v4, vs4, d4, ds4, p4, q4, rfl, rfl, rfl, h4, r4⟩ := trodAll_cons r3
  obtain ⟨v5, vs5, d5, ds5, p5, q5, rfl, rfl, rfl, h5, r5⟩ := trodAll_cons r4
  obtain ⟨rfl, rfl, rfl⟩ := trodAll_nil r5
  obtain rfl : args = #[v0, v1, v2, v3, v4, v5] := by cases args; simp_all
  obtain ⟨cs0, rfl, -⟩ := okWide_struct Try.underlying24 (hval 0 24 v0 rfl rfl)
  obtain ⟨fp, fn, fv, fbs, he0, hfv, hnb⟩ := rd_funcN (Rd.of h0)
  obtain rfl : cs0 = ([Value.int .i64 fp, .int .i64 fn, fv]).toArray := by rw [← he0]; simp [Value.cells]
  obtain ⟨cs1, rfl, -⟩ := okWide_struct Try.underlying27 (hval 1 27 v1 rfl rfl)
  obtain ⟨p0, p1, p2, vs, l, he1, g0, g1, g2, hs⟩ := rd_spec (Rd.of h1)
  obtain rfl : cs1 = ([Value.int .u8 p0, .int .u8 p1, .int .u8 p2, vs]).toArray := by rw [← he1]; simp [Value.cells]
  obtain ⟨bb, rfl, -, -, wf2⟩ := open_int Try.underlying5 (hval 2 5 v2 rfl rfl) h2
  obtain ⟨kk, rfl, -, -, wf3⟩ := open_int Try.underlying5 (hval 3 5 v3 rfl rfl) h3
  obtain ⟨fd, rfl, -, -, wf4⟩ := open_int Try.underlying5 (hval 4 5 v4 rfl rfl) h4
  obtain ⟨mm, rfl, -, -, wf5⟩ := open_int Try.underlying3 (hval 5 3 v5 rfl rfl) h5
  refine (law_calls (f := 3) (args := [.agg ([Value.int .i64 fp, .int .i64 fn, fv]).toArray, .agg ([Value.int .u8 p0, .int .u8 p1, .int .u8 p2, vs]).toArray, .int .u8 bb, .int .u8 kk, .int .u8 fd, .int .i64 mm]) (s3 hfv hnb hs g0 g1 g2 (u8r wf2) (u8r wf3) (i64r wf5))).mono ?_
  rintro e' W' ⟨rfl, bel⟩
  exact ⟨_, rfl, law_post laidOut hW' rfl (of_decide_eq_true (by kernel_rfl)) rfl Try.underlying4 rfl bel⟩
set_option maxRecDepth 100000 in
theorem lifted (os : Os) (started : os.Started) (H : Type) (enc : TypeId × Value → H) :
    ReturnsInHanded {} Try.checked os 3 .any (Rows.wireFuncsSpec.pre6 enc Try.prog Try.f3 Rows.wireFuncsRow.domain false) (Rows.wireFuncsSpec.post enc Try.prog Try.f3 false true false false) := by
  refine returnsInHanded_of_change (C := Try.checked) own started (by kernel_rfl) Try.func3
    (ChangeSpec.witness6 (enc := enc) (C := Try.checked) false ⟨#[], #[.agg #[.int .i64 0, .int .i64 0, .slice none 0 0], .agg #[.int .u8 0, .int .u8 0, .int .u8 0, .slice none 0 0], .int .u8 0, .int .u8 0, .int .u8 0, .int .i64 0], []⟩ 8 (by kernel_rfl) (by kernel_rfl) (by kernel_rfl) (by kernel_rfl)) ?_
  intro W base args ds gs before hval hW _ _
  exact contract H enc W base args ds gs before hval hW
set_option maxRecDepth 100000 in
theorem proved : Rows.WireFuncsSaid :=
  OpenClaim.holds_of_wide 3 Try.f3 rfl rfl rfl rfl rfl rfl rfl ⟨rfl, rfl, rfl, rfl, rfl⟩ rfl rfl rfl rfl rfl (by kernel_rfl) Try.func3 (by kernel_rfl)
    (of_decide_eq_true (by kernel_rfl)) (by unfold Func.isWrapper; first | (rw [if_pos (by decide +kernel)]; kernel_rfl) | (rw [if_neg (by decide +kernel)]; exact ⟨rfl, rfl⟩))
    (fun os started H enc _ => lifted os started H enc)
end wireFuncs
/-- The row, under a short name, for the claim. -/
theorem wireFuncsHolds : Rows.WireFuncsSaid := wireFuncs.proved
#print axioms wireFuncsHolds
end Go.Proofs.Ythnoplfjcdkacaa
