/-
  The document's reader: numbers. Conditions: as each contract says.
-/
import Derived.Test.YthnoplfjcdkacaaR3Q
import Derived.Test.YthnoplfjcdkacaaR3Tq
set_option linter.unusedVariables false
set_option linter.unusedSimpArgs false
namespace Go.Proofs.Ythnoplfjcdkacaa
open Go

/-- A reader's cells. -/
def RdC (v : Value) (l : List Int) (c : List Value) (s : RS) : Prop := ∃ v', c = [v', .int .i64 s.2] ∧ ∀ g, BytesAt g v l → BytesAt g v' s.1
set_option maxRecDepth 8000 in
theorem s67k {h : H} {v : Value} {s : RS} (hv : BytesAt h v s.1) (hl : s.1.length ≤ 1000000000) :
    CallsA Try.prog 67 (fun e => [(e 0).ptr 0]) [[v, .int .i64 s.2]] h (RetC fun r c h' => h' = h ∧ r = .int .u64 ((numR s).1 : Int) ∧ RdC v s.1 c (numR s).2) := by
  obtain ⟨l, e⟩ := s
  simp only at hv hl ⊢
  refine c67k (G := [v, .int .i64 e]) ⟨hv.fit, ⟨_, rfl⟩, trivial⟩ ?_
  have hvl : vlen v = l.length := hv.len
  refine h_ite (fun hc => ?_) (fun hc => ?_)
  · replace hc : cmpOp .neq e 0 = true := hc
    rw [cmp_neq, decide_eq_true_eq] at hc
    have hn : numR (l, e) = (0, (l, e)) := by unfold numR; rw [if_pos hc]
    rw [hn]
    exact ⟨_, rfl, rfl, rfl, v, rfl, fun _ k => k⟩
  replace hc : cmpOp .neq e 0 = false := hc
  rw [cmp_neq, decide_eq_false_iff_not, Decidable.not_not] at hc
  subst hc
  have nr : ∀ {er : Int} {t : List Int}, numA 0 0 l = (er, 0, t) → er ≠ 0 → numR (l, 0) = (0, (l, er)) := fun {er t} a1 a2 => by
    unfold numR
    rw [if_neg (by simp)]
    simp only
    rw [a1, if_neg a2]
  refine h_loop (fun xs h' => ∃ n i : Nat, xs = [.int .u64 (n : Int), .int .u64 ((128 ^ i : Nat) : Int), .int .i64 (i : Int)] ∧ i ≤ l.length ∧ i ≤ 9 ∧ n < 128 ^ i ∧ numA 0 0 l = numA i n (l.drop i) ∧ h' = h)
    (fun xs h' => l.length - (vi (gv xs 2)).toNat) ⟨0, 0, rfl, Nat.zero_le _, by omega, by simp, rfl, rfl⟩ ?_
  rintro xs h1 J - ⟨n, i, rfl, hil, hi9, hn, hA, e1⟩ hJ
  have e1' := e1.symm
  subst e1'
  simp only [List.cons_append, List.nil_append]
  refine h_ite (fun hc => ?_) (fun hc => ?_)
  · replace hc : cmpOp .eql (i : Int) ((vlen v : Nat) : Int) = true := hc
    rw [hvl, cmp_eql, decide_eq_true_eq] at hc
    have := nr (er := 3) (t := []) (by rw [hA, List.drop_eq_nil_of_le (by omega), numA]) (by omega)
    rw [this]
    exact ⟨_, rfl, rfl, rfl, v, rfl, fun _ k => k⟩
  replace hc : cmpOp .eql (i : Int) ((vlen v : Nat) : Int) = false := hc
  rw [hvl, cmp_eql, decide_eq_false_iff_not] at hc
  have hlt : i < l.length := by omega
  have hci := lt_of_read hlt
  generalize l[i] = c at hci
  obtain ⟨hrd, hc0, hc255⟩ := hv.read hci
  have hst := numA_step (n := n) hci
  obtain ⟨cn, rfl⟩ : ∃ cn : Nat, c = (cn : Int) := ⟨c.toNat, by omega⟩
  refine ⟨fun _ => ⟨nat_ge0 i, by show cmpOp .lss (i : Int) ((vlen v : Nat) : Int) = true; rw [hvl, cmp_lss, decide_eq_true_eq]; omega, trivial⟩, h_load [.int .u8 (cn : Int)] ⟨⟨_, rfl⟩, trivial⟩ (fun _ => hrd) ?_⟩
  simp only [List.cons_append, List.nil_append]
  refine h_ite (fun hc2 => ?_) (fun hc2 => ?_)
  · have h9 : (i = 9 ∧ 1 < (cn : Int)) ∨ (0 < i ∧ (cn : Int) = 0) := by
      simp only [X.den, gv_succ, gv_zero, vi_int, vb_bool, vb_ite, cmp_eql, cmp_gtr, decide_eq_true_eq] at hc2
      grind
    have := nr (er := 8) (t := []) (by rw [hA, hst, if_pos h9]) (by omega)
    rw [this]
    exact ⟨_, rfl, rfl, rfl, v, rfl, fun _ k => k⟩
  have h9 : ¬ ((i = 9 ∧ 1 < (cn : Int)) ∨ (0 < i ∧ (cn : Int) = 0)) := by
    simp only [X.den, gv_succ, gv_zero, vi_int, vb_bool, vb_ite, cmp_eql, cmp_gtr, decide_eq_true_eq] at hc2
    grind
  rw [if_neg h9] at hst
  have hr8 : intOp .rem .u8 (cn : Int) 128 = ((cn % 128 : Nat) : Int) := by
    simp only [intOp]; rw [Int.tmod_eq_emod_of_nonneg (by omega)]; omega
  have hcv : IntKind.u64.wrap (intOp .rem .u8 (cn : Int) 128) = ((cn % 128 : Nat) : Int) := by rw [hr8]; exact u64_id (by omega) (by omega)
  have hp : (128 : Nat) ^ i ≤ 128 ^ 9 := Nat.pow_le_pow_right (by omega) hi9
  have hp9 : (128 : Nat) ^ 9 = 9223372036854775808 := by decide
  rw [hp9] at hp
  have hm : cn % 128 * 128 ^ i < 18446744073709551616 ∧ n + cn % 128 * 128 ^ i < 18446744073709551616 ∧ (i < 9 → n + cn % 128 * 128 ^ i < 128 ^ (i + 1) ∧ 128 ^ (i + 1) ≤ 9223372036854775808) := by
    by_cases h : i < 9
    · have h1 : cn % 128 * 128 ^ i ≤ 127 * 128 ^ i := Nat.mul_le_mul_right _ (by omega)
      have h2 : (128 : Nat) ^ (i + 1) ≤ 128 ^ 9 := Nat.pow_le_pow_right (by omega) h
      rw [hp9] at h2
      have h3 := Nat.pow_succ 128 i
      omega
    · have h' : i = 9 := by omega
      subst h'
      rw [hp9] at hn ⊢
      have : cn ≤ 1 := Decidable.byContradiction fun q => h9 (.inl ⟨rfl, by omega⟩)
      omega
  obtain ⟨m1, m2, m3⟩ := hm
  have hmul : intOp .mul .u64 ((cn % 128 : Nat) : Int) ((128 ^ i : Nat) : Int) = ((cn % 128 * 128 ^ i : Nat) : Int) := by
    simp only [intOp]
    rw [show ((cn % 128 : Nat) : Int) * ((128 ^ i : Nat) : Int) = ((cn % 128 * 128 ^ i : Nat) : Int) by simp]
    exact u64_id (by omega) (by omega)
  have hadd : intOp .add .u64 (n : Int) ((cn % 128 * 128 ^ i : Nat) : Int) = ((n + cn % 128 * 128 ^ i : Nat) : Int) := by
    simp only [intOp]
    rw [show (n : Int) + ((cn % 128 * 128 ^ i : Nat) : Int) = ((n + cn % 128 * 128 ^ i : Nat) : Int) by simp]
    exact u64_id (by omega) (by omega)
  have ei : intOp .add .i64 (i : Int) 1 = ((i + 1 : Nat) : Int) := int_add_one (n := 10) (by omega) (by omega)
  refine h_ite (fun hc4 => ?_) (fun hc4 => ?_)
  · replace hc4 : cmpOp .lss (cn : Int) 128 = true := hc4
    rw [cmp_lss, decide_eq_true_eq] at hc4
    rw [if_pos hc4] at hst
    refine ⟨fun _ => ⟨?_, ?_, trivial⟩, ?_⟩
    · show cmpOp .geq (intOp .add .i64 (i : Int) 1) 0 = true
      rw [ei]; exact nat_ge0 _
    · show cmpOp .leq (intOp .add .i64 (i : Int) 1) ((vlen v : Nat) : Int) = true
      rw [ei, hvl, cmp_leq, decide_eq_true_eq]; omega
    rintro w rfl
    have hsl : ∀ g, BytesAt g v l → BytesAt g (sliceV v (i + 1) l.length 1) (l.drop (i + 1)) := fun g hv => by
      have := SlAt.slice hv (lo := i + 1) (hi := l.length) (by omega) (Nat.le_refl _)
      rwa [List.take_of_length_le (by rw [List.length_drop]; omega)] at this
    have hR : numR (l, 0) = (n + cn % 128 * 128 ^ i, (l.drop (i + 1), 0)) := by
      unfold numR
      rw [if_neg (by simp)]
      simp only
      rw [hA, hst, show cn % 128 = cn by omega]; simp
    rw [hR]
    refine ⟨_, rfl, rfl, ?_, sliceV v (i + 1) l.length 1, ?_, hsl⟩
    · show Value.int .u64 (intOp .add .u64 (n : Int) (intOp .mul .u64 (IntKind.u64.wrap (intOp .rem .u8 (cn : Int) 128)) ((128 ^ i : Nat) : Int))) = _
      rw [hcv, hmul, hadd]
    · show [sliceV v (intOp .add .i64 (i : Int) 1).toNat (vlen v) 1, Value.int .i64 0] = _
      rw [ei, hvl, Int.toNat_natCast]
  · replace hc4 : cmpOp .lss (cn : Int) 128 = false := hc4
    rw [cmp_lss, decide_eq_false_iff_not] at hc4
    rw [if_neg hc4] at hst
    have hi8 : i < 9 := by
      rcases Nat.lt_or_ge i 9 with q | q
      · exact q
      · exact absurd (.inl ⟨by omega, by omega⟩) h9
    obtain ⟨m4, m5⟩ := m3 hi8
    show J [.int .u64 (intOp .add .u64 (n : Int) (intOp .mul .u64 (IntKind.u64.wrap (intOp .rem .u8 (cn : Int) 128)) ((128 ^ i : Nat) : Int))), .int .u64 (intOp .mul .u64 ((128 ^ i : Nat) : Int) 128), .int .i64 (intOp .add .i64 (i : Int) 1)] h
    have hu : intOp .mul .u64 ((128 ^ i : Nat) : Int) 128 = ((128 ^ (i + 1) : Nat) : Int) := by
      simp only [intOp]
      rw [show ((128 ^ i : Nat) : Int) * 128 = ((128 ^ (i + 1) : Nat) : Int) by rw [Nat.pow_succ]; simp]
      exact u64_id (by omega) (by omega)
    rw [hcv, hmul, hadd, ei, hu]
    refine hJ _ _ ⟨n + cn % 128 * 128 ^ i, i + 1, rfl, by omega, by omega, m4, ?_, rfl⟩ ?_
    · rw [hA, hst, show ((cn : Int) - 128).toNat = cn % 128 by omega]
    · simp only [gv_zero, gv_succ, vi_int]; omega
theorem s48k {h : H} {v : Value} {s : RS} (hv : BytesAt h v s.1) (hl : s.1.length ≤ 1000000000) (n : Nat) (h1 : 1 ≤ n) (h2 : n ≤ 1000000) :
    CallsA Try.prog 48 (fun e => [(e 0).ptr 0, .int .i64 (n : Int)]) [[v, .int .i64 s.2]] h (RetC fun r c h' => h' = h ∧ r = .int .i64 (belowR n s).1 ∧ RdC v s.1 c (belowR n s).2) := by
  refine c48k (G := [v, .int .i64 s.2, .int .i64 (n : Int)]) ⟨hv.fit, ⟨_, rfl⟩, ⟨_, rfl⟩, trivial⟩ ?_
  have hlt := numR_lt (s := s) hv.inB
  refine h_call1 (s67k hv hl) ?_
  rintro _ _ g ⟨eg, rfl, v', rfl, hv''⟩
  have eg' := eg.symm
  subst eg'
  have hv' := hv'' _ hv
  refine ⟨⟨hv'.fit, ⟨_, rfl⟩, trivial⟩, [.int .u64 ((numR s).1 : Int)], ⟨⟨_, rfl⟩, trivial⟩, rfl, ?_⟩
  simp only [List.cons_append, List.nil_append]
  have hw : IntKind.u64.wrap (n : Int) = (n : Int) := u64_id (by omega) (by omega)
  obtain ⟨ce, hce⟩ : ∃ ce : X, ce = (.ite (.ite (.cmp .eql (.var 4) (.lit 0)) (.ite (.cmp .leq (.var 2) (.lit 0)) (.tt true) (.cmp .geq (.var 5) (.conv .u64 (.var 2)))) (.tt false)) (.lit 2) (.var 4)) := ⟨_, rfl⟩
  have hv2 : vi (ce.den [v, .int .i64 s.2, .int .i64 (n : Int), v', .int .i64 (numR s).2.2, .int .u64 ((numR s).1 : Int)]) = (belowR n s).2.2 ∧ ((belowR n s).2.2 = 0 → (belowR n s).1 = ((numR s).1 : Int) ∧ (numR s).1 < n) ∧ ((belowR n s).2.2 ≠ 0 → (belowR n s).1 = 0) ∧ (belowR n s).2.1 = (numR s).2.1 := by
    subst hce
    simp only [X.den, gv_succ, gv_zero, vi_int, vb_bool, vb_ite, vi_ite, cmp_eql, cmp_leq, cmp_geq, hw, decide_eq_true_eq]
    unfold belowR
    by_cases c1 : (numR s).2.2 ≠ 0
    · rw [if_pos c1, if_neg c1]; simp [c1]
    · rw [if_neg c1]
      have c1' : (numR s).2.2 = 0 := by simpa using c1
      by_cases c2 : n ≤ (numR s).1
      · rw [if_pos c2]
        simp [c1', c2]
      · rw [if_neg c2]
        have : ¬ (n : Int) ≤ 0 := by omega
        simp [c1', c2, this]
        omega
  obtain ⟨q1, q2, q3, q4⟩ := hv2
  have hdone : ∀ r : Value, r = .int .i64 (belowR n s).1 → (RetC fun r c h' => h' = h ∧ r = .int .i64 (belowR n s).1 ∧ RdC v s.1 c (belowR n s).2) r [[v', .int .i64 (vi (ce.den [v, .int .i64 s.2, .int .i64 (n : Int), v', .int .i64 (numR s).2.2, .int .u64 ((numR s).1 : Int)]))]] h := fun r hr => by
    rw [q1]
    exact ⟨_, rfl, rfl, hr, v', rfl, by rw [q4]; exact hv''⟩
  refine h_ite (fun hc => ?_) (fun hc => ?_)
  · rw [← hce] at hc
    replace hc : cmpOp .neq (vi (ce.den [v, .int .i64 s.2, .int .i64 (n : Int), v', .int .i64 (numR s).2.2, .int .u64 ((numR s).1 : Int)])) 0 = true := hc
    rw [q1, cmp_neq, decide_eq_true_eq] at hc
    rw [← hce]
    exact hdone (.int .i64 0) (by rw [q3 hc])
  · rw [← hce] at hc
    replace hc : cmpOp .neq (vi (ce.den [v, .int .i64 s.2, .int .i64 (n : Int), v', .int .i64 (numR s).2.2, .int .u64 ((numR s).1 : Int)])) 0 = false := hc
    rw [q1, cmp_neq, decide_eq_false_iff_not, Decidable.not_not] at hc
    obtain ⟨q5, q6⟩ := q2 hc
    rw [← hce]
    refine hdone (.int .i64 (IntKind.i64.wrap ((numR s).1 : Int))) ?_
    rw [q5, wrap_i64 (by omega) (by omega)]
theorem s49k {h : H} {v : Value} {s : RS} (hv : BytesAt h v s.1) :
    CallsA Try.prog 49 (fun e => [(e 0).ptr 0]) [[v, .int .i64 s.2]] h (RetC fun r c h' => h' = h ∧ r = .int .i64 (endS s) ∧ ∃ c1 c2, c = [c1, .int .i64 c2] ∧ Fits .sl c1) := by
  refine c49k (G := [v, .int .i64 s.2]) ⟨hv.fit, ⟨_, rfl⟩, trivial⟩ ?_
  have hvl := hv.len
  refine ⟨_, rfl, rfl, ?_, v, _, rfl, hv.fit⟩
  simp only [SV.den, X.den, gv_succ, gv_zero, vi_int, vb_bool, vb_ite, vi_ite, cmp_eql, cmp_gtr, hvl, decide_eq_true_eq]
  congr 1
  unfold endS failR
  cases hs : s.1 with
  | nil => simp
  | cons a t =>
    by_cases h0 : s.2 = 0 <;> simp [h0]
theorem s70k {h : H} {v : Value} {s : RS} {c : Int} (hv : BytesAt h v s.1) :
    CallsA Try.prog 70 (fun e => [(e 0).ptr 0, .int .i64 c]) [[v, .int .i64 s.2]] h (RetC fun r c' h' => h' = h ∧ r = .tuple #[] ∧ RdC v s.1 c' (failR c s)) := by
  refine c70k (G := [v, .int .i64 s.2, .int .i64 c]) ⟨hv.fit, ⟨_, rfl⟩, ⟨_, rfl⟩, trivial⟩ ?_
  refine ⟨_, rfl, rfl, rfl, v, ?_, fun _ k => by rw [failR_len]; exact k⟩
  simp only [SV.denL, SV.den, X.den, gv_succ, gv_zero, vi_int, vb_bool, vi_ite, cmp_eql, decide_eq_true_eq]
  congr 3
  unfold failR; split <;> rfl
theorem s71 {h : H} {n : Nat} (hn : n < 18446744073709551616) : CallsA Try.prog 71 (fun _ => [.int .u64 (n : Int)]) [] h (Ret fun r h' => h' = h ∧ r = .int .i64 (zag n)) := by
  refine c71 (G := [.int .u64 (n : Int)]) ⟨⟨_, rfl⟩, trivial⟩ ?_
  have e1 : intOp .rem .u64 (n : Int) 2 = ((n % 2 : Nat) : Int) := by
    simp only [intOp]; rw [Int.tmod_eq_emod_of_nonneg (by omega)]; omega
  have e2 : IntKind.i64.wrap (intOp .quo .u64 (n : Int) 2) = ((n / 2 : Nat) : Int) := by
    have : intOp .quo .u64 (n : Int) 2 = ((n / 2 : Nat) : Int) := by
      simp only [intOp]; rw [Int.tdiv_eq_ediv_of_nonneg (by omega), show (n : Int) / 2 = ((n / 2 : Nat) : Int) by omega]; exact u64_id (by omega) (by omega)
    rw [this, wrap_i64 (by omega) (by omega)]
  refine h_ite (fun hc => ?_) (fun hc => ?_)
  · replace hc : cmpOp .eql (intOp .rem .u64 (n : Int) 2) 1 = true := hc
    rw [e1, cmp_eql, decide_eq_true_eq] at hc
    refine ⟨rfl, rfl, ?_⟩
    show Value.int .i64 (intOp .sub .i64 (intOp .sub .i64 0 (IntKind.i64.wrap (intOp .quo .u64 (n : Int) 2))) 1) = _
    rw [e2]
    unfold zag
    rw [if_pos (by omega)]
    simp only [intOp]
    rw [wrap_i64 (n := 0 - _) (by omega) (by omega), wrap_i64 (by omega) (by omega)]
    congr 1; omega
  · replace hc : cmpOp .eql (intOp .rem .u64 (n : Int) 2) 1 = false := hc
    rw [e1, cmp_eql, decide_eq_false_iff_not] at hc
    refine ⟨rfl, rfl, ?_⟩
    show Value.int .i64 (IntKind.i64.wrap (intOp .quo .u64 (n : Int) 2)) = _
    rw [e2]
    unfold zag
    rw [if_neg (by omega)]
/-- One number read, of a reader in a chunk. -/
theorem rd_step {R : Value → List (List Value) → H → Prop} {G : List Value} {L : Lv} {h : H} {k : Out} {key b n : Nat} {v : Value} {s : RS} {x y : X} (hb : gv G b = v) (hc : vi (y.den G) = s.2) (hx : vi (x.den G) = (n : Int)) (h1 : 1 ≤ n) (h2 : n ≤ 1000000) (hv : BytesAt h v s.1) (hl : s.1.length ≤ 1000000000)
    (HK : ∀ v', (∀ g, BytesAt g v s.1 → BytesAt g v' (belowR n s).2.1) → holds Try.prog R k (G ++ [v', .int .i64 (belowR n s).2.2, .int .i64 (belowR n s).1]) L h) :
    holds Try.prog R (.call 48 [(.loc key 0), (.int .i64 x)] [key] [[(.val b), (.int .i64 y)]] [[.sl, .int .i64]] [(false, [.int .i64])] k) G L h := by
  refine h_call1 (Q := fun r c h' => h' = h ∧ r = .int .i64 (belowR n s).1 ∧ RdC v s.1 c (belowR n s).2) ?_ ?_
  · have := s48k hv hl n h1 h2
    have hk : kIdx [key] key = 0 := by simp [kIdx]
    simp only [SV.denL, SV.den, X.den, hk, hb, hc, hx, vi_int]
    exact this
  · rintro _ _ g ⟨eg, rfl, v', rfl, hv'⟩
    have eg' := eg.symm
    subst eg'
    exact ⟨⟨(hv' _ hv).fit, ⟨_, rfl⟩, trivial⟩, [.int .i64 (belowR n s).1], ⟨⟨_, rfl⟩, trivial⟩, rfl, HK v' hv'⟩
end Go.Proofs.Ythnoplfjcdkacaa
