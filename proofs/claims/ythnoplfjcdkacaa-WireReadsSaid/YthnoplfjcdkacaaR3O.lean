/-
  Certificates read by the program. Conditions: as each contract says.
-/
import Derived.Test.YthnoplfjcdkacaaR3N
import Derived.Test.YthnoplfjcdkacaaR3Tc
set_option linter.unusedVariables false
set_option linter.unusedSimpArgs false
namespace Go.Proofs.Ythnoplfjcdkacaa
open Go

def pairR (s : RS) : Pr × RS := (((belowR 4096 s).1, (belowR 4096 (belowR 4096 s).2).1), (belowR 4096 (belowR 4096 s).2).2)
def pairsR : Nat → RS → List Pr × RS
  | 0, s => ([], s)
  | k + 1, s => if s.2 ≠ 0 then ([], s) else ((pairR s).1 :: (pairsR k (pairR s).2).1, (pairsR k (pairR s).2).2)
def onePs (s : RS) : List Pr × RS := pairsR (belowR 65536 s).1.toNat (belowR 65536 s).2
def certsR : Nat → RS → List (List Pr) × RS
  | 0, s => ([], s)
  | k + 1, s => ((onePs s).1 :: (certsR k (onePs s).2).1, (certsR k (onePs s).2).2)
def readCt (l : List Int) : List (List Pr) × Int :=
  let n := belowR 17 (l, 0)
  let r := certsR n.1.toNat n.2
  if endS r.2 ≠ 0 then ([], endS r.2) else (r.1, 0)
theorem pairR_bad {s : RS} (h : s.2 ≠ 0) : (pairR s).2 = s := by unfold pairR; rw [belowR_bad h]; simp only; rw [belowR_bad h]
theorem pairsR_bad {s : RS} (h : s.2 ≠ 0) : ∀ k, (pairsR k s) = ([], s)
  | 0 => rfl
  | k + 1 => by rw [pairsR, if_pos h]
theorem onePs_bad {s : RS} (h : s.2 ≠ 0) : onePs s = ([], s) := by unfold onePs; rw [belowR_bad h]; exact pairsR_bad h _
theorem certsR_bad {s : RS} (h : s.2 ≠ 0) : ∀ k, (certsR k s).2 = s
  | 0 => rfl
  | k + 1 => by rw [certsR, onePs_bad h]; exact certsR_bad h k
theorem pairR_len (s : RS) : (pairR s).2.1.length ≤ s.1.length := by
  have h1 := belowR_len 4096 s
  have h2 := belowR_len 4096 (belowR 4096 s).2
  unfold pairR; simp only; omega
theorem pairsR_len : ∀ (k : Nat) (s : RS), (pairsR k s).2.1.length ≤ s.1.length ∧ (pairsR k s).1.length ≤ k
  | 0, s => ⟨Nat.le_refl _, Nat.le_refl _⟩
  | k + 1, s => by
    have h1 := pairsR_len k (pairR s).2
    have h2 := pairR_len s
    rw [pairsR]
    split
    · simp
    · simp only [List.length_cons]; omega
theorem onePs_len (s : RS) : (onePs s).2.1.length ≤ s.1.length ∧ (onePs s).1.length ≤ 65535 := by
  have h1 := belowR_len 65536 s
  have h2 := pairsR_len (belowR 65536 s).1.toNat (belowR 65536 s).2
  have h3 := belowR_range 65536 s
  unfold onePs; omega
theorem certsR_len : ∀ (k : Nat) (s : RS), (certsR k s).2.1.length ≤ s.1.length ∧ (certsR k s).1.length = k ∧ ∀ l ∈ (certsR k s).1, l.length ≤ 65535
  | 0, s => ⟨Nat.le_refl _, rfl, fun l h => by cases h⟩
  | k + 1, s => by
    obtain ⟨h1, h2, h3⟩ := certsR_len k (onePs s).2
    obtain ⟨h4, h5⟩ := onePs_len s
    rw [certsR]
    refine ⟨by simp only; omega, by simp [h2], fun l hl => ?_⟩
    rcases List.mem_cons.1 hl with rfl | hl
    · exact h5
    · exact h3 l hl
theorem pairsR_snoc : ∀ (k : Nat) (s : RS), pairsR (k + 1) s = if (pairsR k s).2.2 ≠ 0 then pairsR k s else ((pairsR k s).1 ++ [(pairR (pairsR k s).2).1], (pairR (pairsR k s).2).2)
  | 0, s => by by_cases h : s.2 = 0 <;> simp [pairsR, h]
  | k + 1, s => by
    by_cases h : s.2 ≠ 0
    · rw [pairsR, if_pos h, pairsR, if_pos h, if_pos h]
    · have e : pairsR (k + 2) s = ((pairR s).1 :: (pairsR (k + 1) (pairR s).2).1, (pairsR (k + 1) (pairR s).2).2) := by rw [pairsR, if_neg h]
      have e' : pairsR (k + 1) s = ((pairR s).1 :: (pairsR k (pairR s).2).1, (pairsR k (pairR s).2).2) := by rw [pairsR, if_neg h]
      rw [e, pairsR_snoc k, e']
      simp only
      split <;> rfl
theorem certsR_snoc : ∀ (k : Nat) (s : RS), certsR (k + 1) s = ((certsR k s).1 ++ [(onePs (certsR k s).2).1], (onePs (certsR k s).2).2)
  | 0, s => by simp [certsR]
  | k + 1, s => by
    rw [certsR, certsR_snoc k]
    simp only [certsR, List.cons_append]
set_option maxRecDepth 4000 in
theorem s25 {h : H} {v : Value} {l : List Int} (hv : BytesAt h v l) (hl : l.length ≤ 1000000000) :
    CallsA Try.prog 25 (fun _ => [v]) [] h (Ret fun r h' => h.le h' ∧ ∃ u, r = .tuple #[u, .int .i64 (readCt l).2] ∧ CertAt h' u (readCt l).1) := by
  refine c25 (G := [v]) ⟨hv.fit, trivial⟩ ?_
  have bl := fun n s => belowR_len n s
  refine h_call0 (s44 hv hl) ?_
  rintro _ h1 ⟨b, g, rfl, hlg, hb, k⟩
  have hl1 : h.le h1 := hlg.trans k.2.1
  refine ⟨[ptrB b], ⟨⟨_, rfl⟩, trivial⟩, rfl, ?_⟩
  simp only [List.cons_append, List.nil_append]
  refine below_step (n := 17) rfl rfl (by omega) (by omega) k hl fun h2 k2 hk2 => ?_
  obtain ⟨n, hn⟩ : ∃ n, n = (belowR 17 (l, 0)).1 := ⟨_, rfl⟩
  obtain ⟨s1, hs1⟩ : ∃ s1, s1 = (belowR 17 (l, 0)).2 := ⟨_, rfl⟩
  have hr := belowR_range 17 (l, 0)
  have t0 : ((l, 0) : RS).1.length = l.length := rfl
  have hls : s1.1.length ≤ 1000000000 := by rw [hs1]; have := bl 17 (l, 0); omega
  rw [← hn] at hr ⊢
  rw [← hs1] at k2
  obtain ⟨m, rfl⟩ : ∃ m : Nat, n = (m : Int) := ⟨n.toNat, by omega⟩
  have eR : readCt l = if endS (certsR m s1).2 ≠ 0 then ([], endS (certsR m s1).2) else ((certsR m s1).1, 0) := by
    unfold readCt; simp only [← hn, ← hs1, Int.toNat_natCast]
  have hm17 : m < 17 := by omega
  simp only [List.cons_append, List.nil_append]
  refine h_loop (fun xs h' => ∃ (i : Nat) (out : Value) (fp : List Nat), xs = [out, .int .i64 (i : Int)] ∧ i ≤ m ∧ Rdr g h' b (certsR i s1).2 ∧ OwnCert h' out (certsR i s1).1 fp ∧ Fresh h1 fp ∧ fp.Nodup ∧ KeptH h1 h' [b])
    (fun xs h' => m - (vi (gv xs 1)).toNat) ⟨0, .slice none 0 0, [], rfl, Nat.zero_le _, k2, SlF.nil, (fun b hb => by cases hb), List.nodup_nil, hk2⟩ ?_
  rintro xs h3 J - ⟨i, out, fp, rfl, hi, k3, ho, hf, hnd, hk3⟩ hJ
  simp only [List.cons_append, List.nil_append]
  obtain ⟨cl1, cl2, cl3⟩ := certsR_len i s1
  refine h_ite (fun hc => ?_) (fun hc => ?_)
  · replace hc : cmpOp .lss (i : Int) (m : Int) = true := hc
    rw [cmp_lss, decide_eq_true_eq] at hc
    have him : i < m := by omega
    obtain ⟨si, hsi⟩ : ∃ si, si = (certsR i s1).2 := ⟨_, rfl⟩
    have hsnoc := certsR_snoc i s1
    rw [← hsi] at k3 hsnoc cl1
    refine below_step (n := 65536) rfl rfl (by omega) (by omega) k3 (by omega) fun h4 k4 hk4 => ?_
    obtain ⟨c, hcd⟩ : ∃ c, c = (belowR 65536 si).1 := ⟨_, rfl⟩
    obtain ⟨s2, hs2⟩ : ∃ s2, s2 = (belowR 65536 si).2 := ⟨_, rfl⟩
    have hrc := belowR_range 65536 si
    have hl2 : s2.1.length ≤ s1.1.length := by rw [hs2]; have := bl 65536 si; omega
    rw [← hcd] at hrc ⊢
    rw [← hs2] at k4
    obtain ⟨cn, rfl⟩ : ∃ cn : Nat, c = (cn : Int) := ⟨c.toNat, by omega⟩
    have eO : onePs si = pairsR cn s2 := by unfold onePs; rw [← hcd, ← hs2, Int.toNat_natCast]
    rw [eO] at hsnoc
    simp only [List.cons_append, List.nil_append]
    have hk04 := hk3.trans hk4
    have ho4 := ho.agree pairsF_good (hk4.agree (ho.live pairsF_good) (notb k hf))
    refine h_loop (fun xs h' => ∃ (j : Nat) (w : Value) (fq : List Nat), xs = [w, .int .i64 (j : Int)] ∧ j ≤ cn ∧ Rdr g h' b (pairsR j s2).2 ∧ SlF 106 2 PairF h' w (pairsR j s2).1 fq ∧ OwnCert h' out (certsR i s1).1 fp ∧ Fresh h1 fq ∧ (fp ++ fq).Nodup ∧ KeptH h1 h' [b])
      (fun xs h' => cn - (vi (gv xs 1)).toNat) ⟨0, .slice none 0 0, [], rfl, Nat.zero_le _, k4, SlF.nil, ho4, (fun b hb => by cases hb), by simpa using hnd, hk04⟩ ?_
    rintro xs h5 J2 - ⟨j, w, fq, rfl, hj, k5, hL, ho5, hfq, hnq, hk5⟩ hJ2
    simp only [List.cons_append, List.nil_append]
    have hil := pairsR_len j s2
    have nx : intOp .add .i64 (j : Int) 1 = ((j + 1 : Nat) : Int) := int_add_one (n := 1000000000) (by omega) (by omega)
    have hnq2 := List.nodup_append.1 hnq
    refine h_ite (fun hc2 => ?_) (fun hc2 => ?_)
    · replace hc2 : cmpOp .lss (j : Int) (cn : Int) = true := hc2
      rw [cmp_lss, decide_eq_true_eq] at hc2
      refine h_call0 (s46 k5) ?_
      rintro _ _ ⟨e4, rfl⟩
      have e4' := e4.symm
      subst e4'
      refine ⟨[.int .i64 (pairsR j s2).2.2], ⟨⟨_, rfl⟩, trivial⟩, rfl, h_ite (fun hc3 => ?_) (fun hc3 => ?_)⟩
      · replace hc3 : cmpOp .eql (pairsR j s2).2.2 0 = true := hc3
        rw [cmp_eql, decide_eq_true_eq] at hc3
        have hsn := pairsR_snoc j s2
        rw [if_neg (by simpa using hc3)] at hsn
        simp only [List.cons_append, List.nil_append]
        refine below_step (n := 4096) rfl rfl (by omega) (by omega) k5 (by omega) fun h6 k6 hk6 => ?_
        simp only [List.cons_append, List.nil_append]
        refine below_step (n := 4096) rfl rfl (by omega) (by omega) k6 (by have := bl 4096 (pairsR j s2).2; omega) fun h7 k7 hk7 => ?_
        simp only [List.cons_append, List.nil_append]
        have hk57 := hk6.trans hk7
        have hL7 := hL.agree pairF_good (hk57.agree (hL.live pairF_good) (notb k hfq))
        have ho7 := ho5.agree pairsF_good (hk57.agree (ho5.live pairsF_good) (notb k hf))
        have hk07 := hk5.trans hk57
        refine ⟨pairV (pairR (pairsR j s2).2).1, 1, ⟨rfl, rfl⟩, app_slF pairF_good (x := (pairR (pairsR j s2).2).1) (f := []) (by omega) hL7 rfl ⟨rfl, rfl⟩ (by simpa using hnq2.2.1) zeroP (by omega) fun v' h8 fr g1 g2 g3 g4 => ?_⟩
        have hfr : Fresh h1 fr := fun y hy => by
          rcases g4 y hy with e | e | e
          · exact hfq y e
          · cases e
          · exact back hk07 k7.live e
        show J2 [v', .int .i64 (intOp .add .i64 (j : Int) 1)] h8
        rw [nx]
        refine hJ2 _ _ ⟨j + 1, v', fr, rfl, by omega, ?_, ?_, ?_, hfr, ?_, kept_fresh hk07 g3 hfq⟩ ?_
        · rw [hsn]; exact Rdr.app k k7 g3 hfq
        · rw [hsn]; exact g1
        · exact ho7.agree pairsF_good (g3.agree (ho7.live pairsF_good) (fun y hy hyq => hnq2.2.2 y hy y hyq rfl))
        · refine nodup_app hnd g2 fun y hy hyr => ?_
          rcases g4 y hyr with e | e | e
          · exact hnq2.2.2 y hy y e rfl
          · cases e
          · have := ho7.live pairsF_good y hy; rw [e] at this; cases this
        · show cn - ((((j + 1 : Nat) : Nat) : Int)).toNat < cn - ((j : Int)).toNat
          omega
      · replace hc3 : cmpOp .eql (pairsR j s2).2.2 0 = false := hc3
        rw [cmp_eql, decide_eq_false_iff_not] at hc3
        have hsn := pairsR_snoc j s2
        rw [if_pos hc3] at hsn
        show J2 [w, .int .i64 (intOp .add .i64 (j : Int) 1)] h5
        rw [nx]
        refine hJ2 _ _ ⟨j + 1, w, fq, rfl, by omega, by rw [hsn]; exact k5, by rw [hsn]; exact hL, ho5, hfq, hnq, hk5⟩ ?_
        show cn - ((((j + 1 : Nat) : Nat) : Int)).toNat < cn - ((j : Int)).toNat
        omega
    · replace hc2 : cmpOp .lss (j : Int) (cn : Int) = false := hc2
      rw [cmp_lss, decide_eq_false_iff_not] at hc2
      have : j = cn := by omega
      subst this
      refine ⟨[w], 1, ⟨rfl, rfl⟩, app_slF pairsF_good (x := (pairsR j s2).1) (f := fq) (by omega) ho5 rfl ⟨w, rfl, hL⟩ hnq zeroPs (by omega) fun v' h6 fr g1 g2 g3 g4 => ?_⟩
      have hfr : Fresh h1 fr := fun y hy => by
        rcases g4 y hy with e | e | e
        · exact hf y e
        · exact hfq y e
        · exact back hk5 k5.live e
      show J [v', .int .i64 (intOp .add .i64 (i : Int) 1)] h6
      rw [int_add_one (n := 100) (by omega) (by omega)]
      refine hJ _ _ ⟨i + 1, v', fr, rfl, by omega, ?_, ?_, hfr, g2, kept_fresh hk5 g3 hf⟩ ?_
      · rw [hsnoc]; exact Rdr.app k k5 g3 hf
      · rw [hsnoc]; exact g1
      · show m - ((((i + 1 : Nat) : Nat) : Int)).toNat < m - ((i : Int)).toNat
        omega
  · replace hc : cmpOp .lss (i : Int) (m : Int) = false := hc
    rw [cmp_lss, decide_eq_false_iff_not] at hc
    have : i = m := by omega
    subst this
    refine h_call0 (s47 k3) ?_
    rintro _ h4 ⟨rfl, hk4⟩
    have hl4 := kept_new hl1 hb (hk3.trans hk4)
    have ho4 := ho.agree pairsF_good (hk4.agree (ho.live pairsF_good) (notb k hf))
    refine ⟨[.int .i64 (endS (certsR i s1).2)], ⟨⟨_, rfl⟩, trivial⟩, rfl, h_ite (fun hc2 => ?_) (fun hc2 => ?_)⟩
    · replace hc2 : cmpOp .neq (endS (certsR i s1).2) 0 = true := hc2
      rw [cmp_neq, decide_eq_true_eq] at hc2
      rw [if_pos hc2] at eR
      rw [eR]
      exact ⟨rfl, hl4, .slice none 0 0, rfl, SlAt.nil⟩
    · replace hc2 : cmpOp .neq (endS (certsR i s1).2) 0 = false := hc2
      rw [cmp_neq, decide_eq_false_iff_not, Decidable.not_not] at hc2
      rw [if_neg (by simpa using hc2)] at eR
      rw [eR]
      exact ⟨rfl, hl4, out, rfl, cert_at ho4⟩
end Go.Proofs.Ythnoplfjcdkacaa
