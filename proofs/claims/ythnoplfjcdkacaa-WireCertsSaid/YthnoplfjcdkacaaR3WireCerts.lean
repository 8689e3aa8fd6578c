/-
  The law WireCerts answers true. Conditions: none.
-/
import Derived.Test.YthnoplfjcdkacaaR3S
import Derived.Test.YthnoplfjcdkacaaR3M
import Derived.Test.YthnoplfjcdkacaaR3E
import Derived.Test.YthnoplfjcdkacaaR3Lc
import Derived.Test.YthnoplfjcdkacaaRows
set_option linter.unusedVariables false
set_option linter.unusedSimpArgs false
namespace Go.Proofs.Ythnoplfjcdkacaa
open Go Go.ChangeShapes Go.WideShapes Go.ChangeAt Go.RowKit

theorem readCt_slim (l : List Int) : Slim (readCt l).1 ∧ (readCt l).1.length ≤ 100000 := by
  have hr := belowR_range 17 (l, 0)
  obtain ⟨h1, h2, h3⟩ := certsR_len (belowR 17 (l, 0)).1.toNat (belowR 17 (l, 0)).2
  unfold readCt
  simp only
  split
  · exact ⟨(fun _ h => by cases h), by simp⟩
  · exact ⟨fun x hx => by have := h3 x hx; omega, by simp only; omega⟩
/-- What is written, as bytes at hand. -/
theorem certR_bytes {h h' : H} {c : List (List Pr)} {r : Value} (hq : h.le h' ∧ ((certM c ≠ 0 ∧ r = .tuple #[.slice none 0 0, .int .i64 (certM c)]) ∨ (certM c = 0 ∧ ∃ x, r = .tuple #[x, .int .i64 0] ∧ OwnB h h' x (encCt c)))) :
    h.le h' ∧ ∃ x, r = .tuple #[x, .int .i64 (certM c)] ∧ BytesAt h' x (if certM c = 0 then encCt c else []) := by
  obtain ⟨hl, ⟨h0, rfl⟩ | ⟨h0, x, rfl, hx⟩⟩ := hq
  · exact ⟨hl, _, rfl, by rw [if_neg h0]; exact SlAt.nil⟩
  · exact ⟨hl, x, by rw [h0], by rw [if_pos h0]; exact hx.at⟩
theorem s6 {h : H} {cv bv av tv : Value} {c : List (List Pr)} {bl al tl : List Int} (hc : CertAt h cv c) (hb : BytesAt h bv bl) (ha : IntsAt h av al) (ht : BytesAt h tv tl) :
    CallsA Try.prog 6 (fun _ => [cv, bv, av, tv]) [] h (Ret fun r h' => h.le h' ∧ r = .bool true) := by
  refine c6 (G := [cv, bv, av, tv]) ⟨hc.fit, hb.fit, ha.fit, ht.fit, trivial⟩ ?_
  have hcl := hc.len
  have hbl := hb.len
  refine h_call0 s10 ?_
  rintro _ g ⟨hl, rfl⟩
  refine ⟨[.bool true], ⟨⟨_, rfl⟩, trivial⟩, rfl, iteF rfl (h_ite (fun _ => ⟨rfl, hl, rfl⟩) (fun hq => ?_))⟩
  have hsm : c.length ≤ 100 ∧ bl.length ≤ 3000 := by
    simp only [X.den, List.cons_append, List.nil_append, gv_succ, gv_zero, vi_int, vb_bool, vb_ite, cmp_gtr, hcl, hbl, decide_eq_true_eq] at hq
    grind
  simp only [List.cons_append, List.nil_append]
  refine h_loop (fun xs h' => ∃ i : Nat, xs = [.int .i64 (i : Int)] ∧ i ≤ c.length ∧ h' = g ∧ ∀ x ∈ c.take i, x.length ≤ 500) (fun xs h' => c.length - (vi (gv xs 0)).toNat) ⟨0, rfl, Nat.zero_le _, rfl, by simp⟩ ?_
  rintro xs g1 J - ⟨i, rfl, hi, e1, hS⟩ hJ
  have e1' := e1.symm
  subst e1'
  simp only [List.cons_append, List.nil_append]
  refine h_ite (fun hq => ?_) (fun hq => ?_)
  · replace hq : cmpOp .lss (i : Int) ((vlen cv : Nat) : Int) = true := hq
    have hq' := hq
    rw [hcl, cmp_lss, decide_eq_true_eq] at hq
    have hil : i < c.length := by omega
    have hx := List.getElem?_eq_getElem hil
    generalize c[i] = x at hx
    obtain ⟨_, ⟨w, rfl, kw⟩, hr⟩ := (SlAt.le pairsC_mono hl hc).get i x hx
    have hwl := kw.len
    refine ⟨fun _ => ⟨nat_ge0 i, hq', trivial⟩, h_load [w] ⟨kw.fit, trivial⟩ (fun _ => hr) (h_ite (fun _ => ⟨rfl, hl, rfl⟩) (fun hq2 => ?_))⟩
    replace hq2 : cmpOp .gtr ((vlen w : Nat) : Int) 500 = false := hq2
    rw [hwl, cmp_gtr, decide_eq_false_iff_not] at hq2
    show J [.int .i64 (intOp .add .i64 (i : Int) 1)] _
    rw [int_add_one (n := 1000) (by omega) (by omega)]
    refine hJ _ _ ⟨i + 1, rfl, by omega, rfl, fun y hy => ?_⟩ ?_
    · rw [List.take_add_one, hx, List.mem_append] at hy
      rcases hy with q | q
      · exact hS y q
      · simp at q; subst q; omega
    · simp only [gv_zero, vi_int]; omega
  replace hq : cmpOp .lss (i : Int) ((vlen cv : Nat) : Int) = false := hq
  rw [hcl, cmp_lss, decide_eq_false_iff_not] at hq
  have : i = c.length := by omega
  subst this
  rw [List.take_length] at hS
  have slim : Slim c := fun x hx => by have := hS x hx; omega
  refine h_call0 (s22 (SlAt.le pairsC_mono hl hc) slim) ?_
  rintro _ g2 hq2
  obtain ⟨hl2, x, rfl, hx⟩ := certR_bytes hq2
  refine ⟨[x, .int .i64 (certM c)], ⟨hx.fit, ⟨_, rfl⟩, trivial⟩, rfl, ?_⟩
  simp only [List.cons_append, List.nil_append]
  refine h_call0 (s23 (SlAt.le pairsC_mono (hl.trans hl2) hc) slim) ?_
  rintro _ g3 hq3
  obtain ⟨hl3, y, rfl, hy⟩ := certR_bytes hq3
  refine ⟨[y, .int .i64 (certM c)], ⟨hy.fit, ⟨_, rfl⟩, trivial⟩, rfl, iteT ?_ ?_⟩
  · show (!(cmpOp .neq (certM c) (certM c))) = true
    rw [cmp_neq]; simp
  simp only [List.cons_append, List.nil_append]
  have hx3 := hx.le hl3
  generalize hz : (if certM c = 0 then encCt c else []) = z at hx hx3 hy
  have hzl : z.length ≤ 100000000 := by
    rw [← hz]
    split
    · rename_i h0
      have h16 : c.length ≤ 16 := by
        unfold certM at h0
        split at h0
        · omega
        · omega
      have := encCt_len slim
      have := lebI_len c.length
      unfold encCt; rw [List.length_append]; omega
    · simp
  refine ⟨z, hx3.bin, z, hy.bin, iteF ?_ ?_⟩
  · simp [X.den, gv, vs]
  simp only [List.cons_append, List.nil_append]
  have hl03 := (hl.trans hl2).trans hl3
  refine h_call0 (s24 hx3 (ha.le hl03) (ht.le hl03) hzl) ?_
  rintro w g4 ⟨hl4, lw, hw, hlw⟩
  refine ⟨[w], ⟨hw.fit, trivial⟩, rfl, ?_⟩
  simp only [List.cons_append, List.nil_append]
  have hl04 := hl03.trans hl4
  intro b5 hb5
  obtain ⟨g5, e5⟩ : ∃ g5, g5 = g4.put b5 (.cells ([bv, x, w]).toArray 25 (0, 0)) := ⟨_, rfl⟩
  have hl5 : g4.le g5 := by rw [e5]; exact H.le_put hb5
  show holds _ _ _ _ _ (g4.put b5 (.cells ([bv, x, w]).toArray 25 (0, 0)))
  rw [← e5]
  have hl05 := hl04.trans hl5
  have it : ∀ i : Nat, i < 3 → ∃ z m, Reads g5 ((⟨b5, 0, none⟩ : Addr).add (i * 1)) [z] ∧ BytesAt g5 z m ∧ m.length ≤ 100000000 := by
    intro i hi
    have : i = 0 ∨ i = 1 ∨ i = 2 := by omega
    rcases this with rfl | rfl | rfl
    · exact ⟨bv, bl, by rw [e5]; exact row_at (A := []) (C := [x, w]) rfl rfl, hb.le hl05, by omega⟩
    · exact ⟨x, z, by rw [e5]; exact row_at (A := [bv]) (C := [w]) rfl rfl, hx3.le (hl4.trans hl5), hzl⟩
    · exact ⟨w, lw, by rw [e5]; exact row_at (A := [bv, x]) (C := []) rfl rfl, hw.le hl5, by omega⟩
  refine h_loop (fun xs h' => ∃ i : Nat, xs = [.int .i64 (i : Int)] ∧ i ≤ 3 ∧ g5.le h') (fun xs h' => 3 - (vi (gv xs 0)).toNat) ⟨0, rfl, by omega, H.le_refl _⟩ ?_
  rintro xs h8 J - ⟨i, rfl, hi, hl8⟩ hJ
  simp only [List.cons_append, List.nil_append]
  have hl08 := hl05.trans hl8
  refine h_ite (fun hc => ?_) (fun hc => ⟨rfl, hl08, rfl⟩)
  replace hc : cmpOp .lss (i : Int) 3 = true := hc
  have hc' := hc
  rw [cmp_lss, decide_eq_true_eq] at hc
  obtain ⟨z, m, hr, hz, hm⟩ := it i (by omega)
  refine ⟨fun _ => ⟨nat_ge0 i, hc', trivial⟩, h_load [z] ⟨hz.fit, trivial⟩ (fun _ => hr.le hl8) ?_⟩
  simp only [List.cons_append, List.nil_append]
  refine h_call0 (s25 (hz.le hl8) (by omega)) ?_
  rintro _ h9 ⟨hl9, u, rfl, hu⟩
  refine ⟨[u, .int .i64 (readCt m).2], ⟨hu.fit, ⟨_, rfl⟩, trivial⟩, rfl, ?_⟩
  simp only [List.cons_append, List.nil_append]
  refine h_call0 (s26 (hz.le (hl8.trans hl9)) (by omega)) ?_
  rintro _ h10 ⟨hl10, u', rfl, hu'⟩
  refine ⟨[u', .int .i64 (readCt m).2], ⟨hu'.fit, ⟨_, rfl⟩, trivial⟩, rfl, iteT ?_ ?_⟩
  · show (!(cmpOp .neq (readCt m).2 (readCt m).2)) = true
    rw [cmp_neq]; simp
  simp only [List.cons_append, List.nil_append]
  obtain ⟨s1, s2⟩ := readCt_slim m
  refine h_call0 (s27 (SlAt.le pairsC_mono hl10 hu) hu' s2 s1) ?_
  rintro _ h11 ⟨e11, rfl⟩
  have e11' := e11.symm
  subst e11'
  refine ⟨[.bool (decide ((readCt m).1 = (readCt m).1))], ⟨⟨_, rfl⟩, trivial⟩, rfl, iteF ?_ ?_⟩
  · show (!(decide ((readCt m).1 = (readCt m).1))) = false
    simp
  show J [.int .i64 (intOp .add .i64 (i : Int) 1)] _
  rw [int_add_one (n := 3) (by omega) (by omega)]
  refine hJ _ _ ⟨i + 1, rfl, by omega, (hl8.trans hl9).trans hl10⟩ ?_
  simp only [gv_zero, vi_int]; omega
section
variable {Hh : Type} {enc : TypeId × Value → Hh} {W : World}
theorem rd_pairs {cs : List Value} (h : Rd enc Try.prog W 53 cs) : ∃ l, PairsC (hOf W) cs l := by
  obtain ⟨v, l, rfl, hv, -⟩ := h.slice (Rep := PairC) Try.underlying53 (by kernel_rfl) fun cs' hr => by
    obtain ⟨a0, _, rfl, r0, a1, _, rfl, r1, rfl⟩ := hr.parts Try.underlying106 (by kernel_rfl)
    obtain ⟨n0, rfl, _⟩ := r0.int Try.underlying3
    obtain ⟨n1, rfl, _⟩ := r1.int Try.underlying3
    exact ⟨(n0, n1), rfl⟩
  exact ⟨l, v, rfl, hv⟩
theorem rd_cert {cs : List Value} (h : Rd enc Try.prog W 51 cs) : ∃ v l, cs = [v] ∧ CertAt (hOf W) v l ∧ vcap v ≤ maxLen :=
  h.slice Try.underlying51 (by kernel_rfl) fun cs' hr => rd_pairs hr
end
namespace wireCerts
theorem own : ownKnob Try.prog.godebug = none := by kernel_rfl
set_option maxRecDepth 100000 in
theorem laidOut : laidOutB Try.prog = true := by kernel_rfl
set_option maxRecDepth 100000 in
theorem contract (H : Type) (enc : TypeId × Value → H) (W : World) (base : Nat) (args : Array Value) (ds gs : List (DataW H)) (before : List MemPlace)
    (hval : ∀ (j : Nat) t v, Try.f6.params[j]? = some t → args[j]? = some v → Value.okWide Try.prog W .any base t v)
    (hW : DataW.Whole enc Try.prog Try.f6.params.toList Rows.wireCertsSpec.vars false W args.toList ds gs before) :
    Calls Try.prog 6 args W fun e W' => ∃ v, e = .returned v ∧ Rows.wireCertsSpec.post enc Try.prog Try.f6 false true false false W args v W' := by
  have hW' := hW
  obtain ⟨p, q, hA, hV, rfl, hfz, hnd⟩ := hW
  rw [Try.params6] at hA hval
  obtain ⟨v0, vs0, d0, ds0, p0, q0, hargs, rfl, rfl, h0, r0⟩ := trodAll_cons hA
  obtain ⟨v1, vs1, d1, ds1, p1, q1, rfl, rfl, rfl, h1, r1⟩ := trodAll_cons r0
  obtain ⟨v2, vs2, d2, ds2, p2, q2, rfl, rfl, rfl, h2, r2⟩ := trodAll_cons r1
  obtain ⟨v3, vs3, d3, ds3, p3, q3, rfl, rfl, rfl, h3, r3⟩ := trodAll_cons r2
  obtain ⟨rfl, rfl, rfl⟩ := trodAll_nil r3
  obtain rfl : args = #[v0, v1, v2, v3] := by cases args; simp_all
  obtain ⟨a0, n0, c0, rfl⟩ := okWide_slice Try.underlying51 (hval 0 51 v0 rfl rfl)
  obtain ⟨cv, c, he0, hcv, -⟩ := rd_cert (Rd.of h0)
  obtain rfl : Value.slice a0 n0 c0 = cv := by simpa [Value.cells] using he0
  obtain ⟨a1, n1, c1, rfl⟩ := okWide_slice Try.underlying25 (hval 1 25 v1 rfl rfl)
  obtain ⟨bv, bl, he1, hbv, -⟩ := rd_bytes (Rd.of h1)
  obtain rfl : Value.slice a1 n1 c1 = bv := by simpa [Value.cells] using he1
  obtain ⟨a2, n2, c2, rfl⟩ := okWide_slice Try.underlying52 (hval 2 52 v2 rfl rfl)
  obtain ⟨av, al, he2, hav⟩ := rd_nums (Rd.of h2)
  obtain rfl : Value.slice a2 n2 c2 = av := by simpa [Value.cells] using he2
  obtain ⟨a3, n3, c3, rfl⟩ := okWide_slice Try.underlying25 (hval 3 25 v3 rfl rfl)
  obtain ⟨tv, tl, he3, htv, -⟩ := rd_bytes (Rd.of h3)
  obtain rfl : Value.slice a3 n3 c3 = tv := by simpa [Value.cells] using he3
  refine (law_calls (f := 6) (args := [.slice a0 n0 c0, .slice a1 n1 c1, .slice a2 n2 c2, .slice a3 n3 c3]) (s6 hcv hbv hav htv)).mono ?_
  rintro e' W' ⟨rfl, bel⟩
  exact ⟨_, rfl, law_post laidOut hW' rfl (of_decide_eq_true (by kernel_rfl)) rfl Try.underlying4 rfl bel⟩
set_option maxRecDepth 100000 in
theorem lifted (os : Os) (started : os.Started) (H : Type) (enc : TypeId × Value → H) :
    ReturnsInHanded {} Try.checked os 6 .any (Rows.wireCertsSpec.pre6 enc Try.prog Try.f6 Rows.wireCertsRow.domain false) (Rows.wireCertsSpec.post enc Try.prog Try.f6 false true false false) := by
  refine returnsInHanded_of_change (C := Try.checked) own started (by kernel_rfl) Try.func6
    (ChangeSpec.witness6 (enc := enc) (C := Try.checked) false ⟨#[], #[.slice none 0 0, .slice none 0 0, .slice none 0 0, .slice none 0 0], []⟩ 8 (by kernel_rfl) (by kernel_rfl) (by kernel_rfl) (by kernel_rfl)) ?_
  intro W base args ds gs before hval hW _ _
  exact contract H enc W base args ds gs before hval hW
set_option maxRecDepth 100000 in
theorem proved : Rows.WireCertsSaid :=
  OpenClaim.holds_of_wide 6 Try.f6 rfl rfl rfl rfl rfl rfl rfl ⟨rfl, rfl, rfl, rfl, rfl⟩ rfl rfl rfl rfl rfl (by kernel_rfl) Try.func6 (by kernel_rfl)
    (of_decide_eq_true (by kernel_rfl)) (by unfold Func.isWrapper; first | (rw [if_pos (by decide +kernel)]; kernel_rfl) | (rw [if_neg (by decide +kernel)]; exact ⟨rfl, rfl⟩))
    (fun os started H enc _ => lifted os started H enc)
end wireCerts
/-- The row, under a short name, for the claim. -/
theorem wireCertsHolds : Rows.WireCertsSaid := wireCerts.proved
#print axioms wireCertsHolds
end Go.Proofs.Ythnoplfjcdkacaa
