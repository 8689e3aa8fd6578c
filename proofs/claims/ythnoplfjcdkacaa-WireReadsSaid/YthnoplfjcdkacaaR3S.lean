/-
  Certificates read by the document's answer; whether two are the same. Conditions: as each contract says.
-/
import Derived.Test.YthnoplfjcdkacaaR3R
set_option linter.unusedVariables false
set_option linter.unusedSimpArgs false
namespace Go.Proofs.Ythnoplfjcdkacaa
open Go

theorem certsR_stop {s : RS} {i : Nat} (h : (certsR i s).2.2 ≠ 0) : ∀ j, (certsR (i + j) s).2 = (certsR i s).2
  | 0 => rfl
  | j + 1 => by
    rw [← Nat.add_assoc, certsR_snoc, certsR_stop h j, onePs_bad h]
theorem endS_ne {s : RS} (h : s.2 ≠ 0) : endS s ≠ 0 := by
  unfold endS
  split
  · unfold failR; rw [if_neg h]; exact h
  · exact h
set_option maxRecDepth 4000 in
theorem s26 {h : H} {v : Value} {l : List Int} (hv : BytesAt h v l) (hl : l.length ≤ 1000000000) :
    CallsA Try.prog 26 (fun _ => [v]) [] h (Ret fun r h' => h.le h' ∧ ∃ u, r = .tuple #[u, .int .i64 (readCt l).2] ∧ CertAt h' u (readCt l).1) := by
  refine c26 (G := [v]) ⟨hv.fit, trivial⟩ ?_
  have bl := fun n s => belowR_len n s
  have t0 : ((l, 0) : RS).1.length = l.length := rfl
  refine rd_step (s := (l, 0)) (n := 17) (v := v) rfl rfl rfl (by omega) (by omega) hv hl fun v1 hv1 => ?_
  replace hv1 := hv1 h hv
  obtain ⟨n, hn⟩ : ∃ n, n = (belowR 17 (l, 0)).1 := ⟨_, rfl⟩
  obtain ⟨s1, hs1⟩ : ∃ s1, s1 = (belowR 17 (l, 0)).2 := ⟨_, rfl⟩
  have hr := belowR_range 17 (l, 0)
  have hls : s1.1.length ≤ 1000000000 := by rw [hs1]; have := bl 17 (l, 0); omega
  rw [← hn] at hr ⊢
  rw [← hs1] at hv1 ⊢
  obtain ⟨m, rfl⟩ : ∃ m : Nat, n = (m : Int) := ⟨n.toNat, by omega⟩
  have eR : readCt l = if endS (certsR m s1).2 ≠ 0 then ([], endS (certsR m s1).2) else ((certsR m s1).1, 0) := by
    unfold readCt; simp only [← hn, ← hs1, Int.toNat_natCast]
  have hm17 : m < 17 := by omega
  simp only [List.cons_append, List.nil_append]
  refine h_loop (fun xs h' => ∃ (i : Nat) (out w : Value) (fp : List Nat), xs = [out, .int .i64 (i : Int), w, .int .i64 (certsR i s1).2.2] ∧ i ≤ m ∧ BytesAt h w (certsR i s1).2.1 ∧ OwnCert h' out (certsR i s1).1 fp ∧ Fresh h fp ∧ fp.Nodup ∧ h.le h')
    (fun xs h' => m - (vi (gv xs 1)).toNat) ⟨0, .slice none 0 0, v1, [], rfl, Nat.zero_le _, hv1, SlF.nil, (fun b hb => by cases hb), List.nodup_nil, H.le_refl _⟩ ?_
  rintro xs h3 J - ⟨i, out, w, fp, rfl, hi, hw, ho, hf, hnd, hl3⟩ hJ
  simp only [List.cons_append, List.nil_append]
  obtain ⟨cl1, cl2, cl3⟩ := certsR_len i s1
  have hcond : vb ((X.ite (.cmp .lss (.var 5) (.var 3)) (.cmp .eql (.var 7) (.lit 0)) (.tt false)).den [v, v1, .int .i64 s1.2, .int .i64 (m : Int), out, .int .i64 (i : Int), w, .int .i64 (certsR i s1).2.2]) = decide (i < m ∧ (certsR i s1).2.2 = 0) := by
    simp only [X.den, gv_succ, gv_zero, vi_int, vb_bool, vb_ite, cmp_eql, cmp_lss, decide_eq_true_eq]
    by_cases h1 : i < m
    · rw [if_pos (by omega)]; simp [h1]
    · rw [if_neg (by omega)]; simp [h1]
  refine h_ite (fun hc => ?_) (fun hc => ?_)
  · rw [hcond, decide_eq_true_eq] at hc
    obtain ⟨him, hci⟩ := hc
    obtain ⟨si, hsi⟩ : ∃ si, si = (certsR i s1).2 := ⟨_, rfl⟩
    have hsnoc := certsR_snoc i s1
    rw [← hsi] at hw hsnoc cl1 hci ⊢
    refine rd_step (s := si) (n := 65536) (v := w) rfl rfl rfl (by omega) (by omega) (hw.le hl3) (by omega) fun v4 hv4 => ?_
    replace hv4 := hv4 h hw
    obtain ⟨c, hcd⟩ : ∃ c, c = (belowR 65536 si).1 := ⟨_, rfl⟩
    obtain ⟨s2, hs2⟩ : ∃ s2, s2 = (belowR 65536 si).2 := ⟨_, rfl⟩
    have hrc := belowR_range 65536 si
    have hl2 : s2.1.length ≤ s1.1.length := by rw [hs2]; have := bl 65536 si; omega
    rw [← hcd] at hrc ⊢
    rw [← hs2] at hv4 ⊢
    obtain ⟨cn, rfl⟩ : ∃ cn : Nat, c = (cn : Int) := ⟨c.toNat, by omega⟩
    have eO : onePs si = pairsR cn s2 := by unfold onePs; rw [← hcd, ← hs2, Int.toNat_natCast]
    rw [eO] at hsnoc
    simp only [List.cons_append, List.nil_append]
    refine h_loop (fun xs h' => ∃ (j : Nat) (q w : Value) (fq : List Nat), xs = [q, .int .i64 (j : Int), w, .int .i64 (pairsR j s2).2.2] ∧ j ≤ cn ∧ BytesAt h w (pairsR j s2).2.1 ∧ SlF 106 2 PairF h' q (pairsR j s2).1 fq ∧ OwnCert h' out (certsR i s1).1 fp ∧ Fresh h fq ∧ (fp ++ fq).Nodup ∧ h.le h')
      (fun xs h' => cn - (vi (gv xs 1)).toNat) ⟨0, .slice none 0 0, v4, [], rfl, Nat.zero_le _, hv4, SlF.nil, ho, (fun b hb => by cases hb), by simpa using hnd, hl3⟩ ?_
    rintro xs h5 J2 - ⟨j, q, w5, fq, rfl, hj, hw5, hL, ho5, hfq, hnq, hl5⟩ hJ2
    simp only [List.cons_append, List.nil_append]
    have hil := pairsR_len j s2
    have nx : intOp .add .i64 (j : Int) 1 = ((j + 1 : Nat) : Int) := int_add_one (n := 1000000000) (by omega) (by omega)
    have hnq2 := List.nodup_append.1 hnq
    have hcond2 : vb ((X.ite (.cmp .lss (.var 12) (.var 10)) (.cmp .eql (.var 14) (.lit 0)) (.tt false)).den [v, v1, .int .i64 s1.2, .int .i64 (m : Int), out, .int .i64 (i : Int), w, .int .i64 si.2, v4, .int .i64 s2.2, .int .i64 (cn : Int), q, .int .i64 (j : Int), w5, .int .i64 (pairsR j s2).2.2]) = decide (j < cn ∧ (pairsR j s2).2.2 = 0) := by
      simp only [X.den, gv_succ, gv_zero, vi_int, vb_bool, vb_ite, cmp_eql, cmp_lss, decide_eq_true_eq]
      by_cases h1 : j < cn
      · rw [if_pos (by omega)]; simp [h1]
      · rw [if_neg (by omega)]; simp [h1]
    refine h_ite (fun hc2 => ?_) (fun hc2 => ?_)
    · rw [hcond2, decide_eq_true_eq] at hc2
      obtain ⟨hjc, hcj⟩ := hc2
      have hsn := pairsR_snoc j s2
      rw [if_neg (by simpa using hcj)] at hsn
      refine rd_step (s := (pairsR j s2).2) (n := 4096) (v := w5) rfl rfl rfl (by omega) (by omega) (hw5.le hl5) (by omega) fun v6 hv6 => ?_
      simp only [List.cons_append, List.nil_append]
      refine rd_step (s := (belowR 4096 (pairsR j s2).2).2) (n := 4096) (v := v6) rfl rfl rfl (by omega) (by omega) (hv6 _ (hw5.le hl5)) (by have := bl 4096 (pairsR j s2).2; omega) fun v7 hv7 => ?_
      simp only [List.cons_append, List.nil_append]
      have hw7 : BytesAt h v7 (pairR (pairsR j s2).2).2.1 := hv7 _ (hv6 _ hw5)
      refine ⟨pairV (pairR (pairsR j s2).2).1, 1, ⟨rfl, rfl⟩, app_slF pairF_good (x := (pairR (pairsR j s2).2).1) (f := []) (by omega) hL rfl ⟨rfl, rfl⟩ (by simpa using hnq2.2.1) zeroP (by omega) fun v' h8 fr g1 g2 g3 g4 => ?_⟩
      have hfr : Fresh h fr := fun y hy => by
        rcases g4 y hy with e | e | e
        · exact hfq y e
        · cases e
        · exact H.le_none hl5 e
      show J2 [v', .int .i64 (intOp .add .i64 (j : Int) 1), v7, .int .i64 (pairR (pairsR j s2).2).2.2] h8
      rw [nx]
      refine hJ2 _ _ ⟨j + 1, v', v7, fr, by rw [hsn], by omega, by rw [hsn]; exact hw7, by rw [hsn]; exact g1, ?_, hfr, ?_, g3.le hl5 hfq⟩ ?_
      · exact ho5.agree pairsF_good (g3.agree (ho5.live pairsF_good) (fun y hy hyq => hnq2.2.2 y hy y hyq rfl))
      · refine nodup_app hnd g2 fun y hy hyr => ?_
        rcases g4 y hyr with e | e | e
        · exact hnq2.2.2 y hy y e rfl
        · cases e
        · have := ho5.live pairsF_good y hy; rw [e] at this; cases this
      · show cn - ((((j + 1 : Nat) : Nat) : Int)).toNat < cn - ((j : Int)).toNat
        omega
    · rw [hcond2, decide_eq_false_iff_not] at hc2
      have eP : pairsR cn s2 = pairsR j s2 := by
        by_cases e : j = cn
        · rw [e]
        · have hbad : (pairsR j s2).2.2 ≠ 0 := fun q => hc2 ⟨by omega, q⟩
          have stop : ∀ k, pairsR (j + k) s2 = pairsR j s2 := fun k => by
            induction k with
            | zero => rfl
            | succ k ih => rw [← Nat.add_assoc, pairsR_snoc, ih, if_pos hbad]
          have := stop (cn - j)
          rwa [show j + (cn - j) = cn by omega] at this
      rw [eP] at hsnoc
      refine ⟨[q], 1, ⟨rfl, rfl⟩, app_slF pairsF_good (x := (pairsR j s2).1) (f := fq) (by omega) ho5 rfl ⟨q, rfl, hL⟩ hnq zeroPs (by omega) fun v' h6 fr g1 g2 g3 g4 => ?_⟩
      have hfr : Fresh h fr := fun y hy => by
        rcases g4 y hy with e | e | e
        · exact hf y e
        · exact hfq y e
        · exact H.le_none hl5 e
      show J [v', .int .i64 (intOp .add .i64 (i : Int) 1), w5, .int .i64 (pairsR j s2).2.2] h6
      rw [int_add_one (n := 100) (by omega) (by omega)]
      refine hJ _ _ ⟨i + 1, v', w5, fr, by rw [hsnoc], by omega, by rw [hsnoc]; exact hw5, by rw [hsnoc]; exact g1, hfr, g2, g3.le hl5 hf⟩ ?_
      show m - ((((i + 1 : Nat) : Nat) : Int)).toNat < m - ((i : Int)).toNat
      omega
  · rw [hcond, decide_eq_false_iff_not] at hc
    have eP : (certsR m s1).2 = (certsR i s1).2 ∧ ((certsR i s1).2.2 = 0 → (certsR m s1).1 = (certsR i s1).1) := by
      by_cases e : i = m
      · rw [e]; exact ⟨rfl, fun _ => rfl⟩
      · have hbad : (certsR i s1).2.2 ≠ 0 := fun q => hc ⟨by omega, q⟩
        have := certsR_stop hbad (m - i)
        rw [show i + (m - i) = m by omega] at this
        exact ⟨this, fun q => absurd q hbad⟩
    rw [eP.1] at eR
    refine h_call1 (s49k (s := (certsR i s1).2) (hw.le hl3)) ?_
    rintro _ _ h4 ⟨e4, rfl, c1, c2, rfl, hc1⟩
    have e4' := e4.symm
    subst e4'
    refine ⟨⟨hc1, ⟨_, rfl⟩, trivial⟩, [.int .i64 (endS (certsR i s1).2)], ⟨⟨_, rfl⟩, trivial⟩, rfl, h_ite (fun hc2 => ?_) (fun hc2 => ?_)⟩
    · replace hc2 : cmpOp .neq (endS (certsR i s1).2) 0 = true := hc2
      rw [cmp_neq, decide_eq_true_eq] at hc2
      rw [if_pos hc2] at eR
      rw [eR]
      exact ⟨rfl, hl3, .slice none 0 0, rfl, SlAt.nil⟩
    · replace hc2 : cmpOp .neq (endS (certsR i s1).2) 0 = false := hc2
      rw [cmp_neq, decide_eq_false_iff_not, Decidable.not_not] at hc2
      have h0 : (certsR i s1).2.2 = 0 := Decidable.byContradiction fun q => endS_ne q hc2
      rw [if_neg (by simpa using hc2), eP.2 h0] at eR
      rw [eR]
      exact ⟨rfl, hl3, out, rfl, cert_at ho⟩
theorem s50 {h : H} {u v : Value} {a b : List Pr} (hu : SlAt 2 PairC h u a) (hv : SlAt 2 PairC h v b) (hl : a.length ≤ 100000) :
    CallsA Try.prog 50 (fun _ => [u, v]) [] h (Ret fun r h' => h' = h ∧ r = .bool (decide (a = b))) := by
  refine c50 (G := [u, v]) ⟨hu.fit, hv.fit, trivial⟩ ?_
  have hul := hu.len
  have hvl := hv.len
  refine h_ite (fun hc => ?_) (fun hc => ?_)
  · replace hc : cmpOp .neq ((vlen u : Nat) : Int) ((vlen v : Nat) : Int) = true := hc
    rw [hul, hvl, cmp_neq, decide_eq_true_eq] at hc
    exact ⟨rfl, rfl, by rw [decide_eq_false fun e => hc (by rw [e])]; rfl⟩
  replace hc : cmpOp .neq ((vlen u : Nat) : Int) ((vlen v : Nat) : Int) = false := hc
  rw [hul, hvl, cmp_neq, decide_eq_false_iff_not, Decidable.not_not] at hc
  have hab : a.length = b.length := by omega
  refine h_range (n := a.length) (fun i h' => h' = h ∧ a.take i = b.take i) hul (by omega) rfl (by omega) ⟨rfl, by simp⟩ ?_ ?_
  · rintro i h' J hi ⟨rfl, hI⟩ hJ
    have hx := List.getElem?_eq_getElem hi
    have hy := List.getElem?_eq_getElem (l := b) (i := i) (by omega)
    generalize a[i] = x at hx
    generalize b[i] = y at hy
    obtain ⟨_, rfl, r1⟩ := hu.get i x hx
    obtain ⟨_, rfl, r2⟩ := hv.get i y hy
    have m1 : cmpOp .geq (i : Int) 0 = true := nat_ge0 i
    have m2 : cmpOp .lss (i : Int) ((vlen v : Nat) : Int) = true := by rw [hvl, cmp_lss, decide_eq_true_eq]; omega
    refine h_load (pairV x) ⟨⟨_, rfl⟩, ⟨_, rfl⟩, trivial⟩ (fun _ => r1) ⟨fun _ => ⟨m1, m2, trivial⟩, h_load (pairV y) ⟨⟨_, rfl⟩, ⟨_, rfl⟩, trivial⟩ (fun _ => r2) ?_⟩
    have hcond : vb ((X.not (.and (.cmp .eql (.var 3) (.var 5)) (.cmp .eql (.var 4) (.var 6)))).den ([u, v, Value.int .i64 (i : Int)] ++ pairV x ++ pairV y)) = !decide (x = y) := by
      obtain ⟨x1, x2⟩ := x
      obtain ⟨y1, y2⟩ := y
      simp only [pairV, X.den, List.cons_append, List.nil_append, gv_succ, gv_zero, vi_int, vb_bool, cmp_eql]
      by_cases h1 : x1 = y1 <;> by_cases h2 : x2 = y2 <;> simp [h1, h2]
    refine h_ite (fun hc2 => ?_) (fun hc2 => ?_)
    · replace hc2 := hcond.symm.trans hc2
      have hne : x ≠ y := by simpa using hc2
      refine ⟨rfl, rfl, ?_⟩
      have : a ≠ b := fun e => by rw [e, hy] at hx; cases hx; exact hne rfl
      rw [decide_eq_false this]; rfl
    · replace hc2 := hcond.symm.trans hc2
      have heq : x = y := by simpa using hc2
      subst heq
      show J [.int .i64 (intOp .add .i64 (i : Int) 1)] h'
      exact hJ h' ⟨rfl, by rw [List.take_add_one, List.take_add_one, hI, hx, hy]⟩
  · rintro h' J ⟨rfl, hI⟩
    rw [List.take_length, hab, List.take_length] at hI
    subst hI
    exact ⟨rfl, rfl, by simp; rfl⟩
theorem s27 {h : H} {u v : Value} {a b : List (List Pr)} (hu : CertAt h u a) (hv : CertAt h v b) (hl : a.length ≤ 100000) (hs : Slim a) :
    CallsA Try.prog 27 (fun _ => [u, v]) [] h (Ret fun r h' => h' = h ∧ r = .bool (decide (a = b))) := by
  refine c27 (G := [u, v]) ⟨hu.fit, hv.fit, trivial⟩ ?_
  have hul := hu.len
  have hvl := hv.len
  refine h_ite (fun hc => ?_) (fun hc => ?_)
  · replace hc : cmpOp .neq ((vlen u : Nat) : Int) ((vlen v : Nat) : Int) = true := hc
    rw [hul, hvl, cmp_neq, decide_eq_true_eq] at hc
    exact ⟨rfl, rfl, by rw [decide_eq_false fun e => hc (by rw [e])]; rfl⟩
  replace hc : cmpOp .neq ((vlen u : Nat) : Int) ((vlen v : Nat) : Int) = false := hc
  rw [hul, hvl, cmp_neq, decide_eq_false_iff_not, Decidable.not_not] at hc
  have hab : a.length = b.length := by omega
  refine h_range (n := a.length) (fun i h' => h' = h ∧ a.take i = b.take i) hul (by omega) rfl (by omega) ⟨rfl, by simp⟩ ?_ ?_
  · rintro i h' J hi ⟨rfl, hI⟩ hJ
    have hx := List.getElem?_eq_getElem hi
    have hxm := List.getElem_mem hi
    have hy := List.getElem?_eq_getElem (l := b) (i := i) (by omega)
    generalize a[i] = x at hx hxm
    generalize b[i] = y at hy
    obtain ⟨_, ⟨w1, rfl, k1⟩, r1⟩ := hu.get i x hx
    obtain ⟨_, ⟨w2, rfl, k2⟩, r2⟩ := hv.get i y hy
    have m1 : cmpOp .geq (i : Int) 0 = true := nat_ge0 i
    have m2 : cmpOp .lss (i : Int) ((vlen v : Nat) : Int) = true := by rw [hvl, cmp_lss, decide_eq_true_eq]; omega
    refine h_load [w1] ⟨k1.fit, trivial⟩ (fun _ => r1) ⟨fun _ => ⟨m1, m2, trivial⟩, h_load [w2] ⟨k2.fit, trivial⟩ (fun _ => r2) ?_⟩
    simp only [List.cons_append, List.nil_append]
    refine h_call0 (s50 k1 k2 (hs x hxm)) ?_
    rintro _ g ⟨eg, rfl⟩
    have eg' := eg.symm
    subst eg'
    refine ⟨[.bool (decide (x = y))], ⟨⟨_, rfl⟩, trivial⟩, rfl, h_ite (fun hc2 => ?_) (fun hc2 => ?_)⟩
    · replace hc2 : (!decide (x = y)) = true := hc2
      have hne : x ≠ y := by simpa using hc2
      refine ⟨rfl, rfl, ?_⟩
      have : a ≠ b := fun e => by rw [e, hy] at hx; cases hx; exact hne rfl
      rw [decide_eq_false this]; rfl
    · replace hc2 : (!decide (x = y)) = false := hc2
      have heq : x = y := by simpa using hc2
      subst heq
      show J [.int .i64 (intOp .add .i64 (i : Int) 1)] _
      exact hJ _ ⟨rfl, by rw [List.take_add_one, List.take_add_one, hI, hx, hy]⟩
  · rintro h' J ⟨rfl, hI⟩
    rw [List.take_length, hab, List.take_length] at hI
    subst hI
    exact ⟨rfl, rfl, by simp; rfl⟩
end Go.Proofs.Ythnoplfjcdkacaa
