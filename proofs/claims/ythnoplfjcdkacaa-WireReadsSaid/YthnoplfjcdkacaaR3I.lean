/-
  What the program reads: an instruction, an end, blocks, a function, code. Conditions: as each contract says.
-/
import Derived.Test.YthnoplfjcdkacaaR3H
set_option linter.unusedVariables false
set_option linter.unusedSimpArgs false
namespace Go.Proofs.Ythnoplfjcdkacaa
open Go

/-! ### Reading, one thing behind the other -/
theorem intR_len (s : RS) : (intR s).2.1.length ≤ s.1.length := numR_len s
theorem argsR_snoc : ∀ (k : Nat) (s : RS), argsR (k + 1) s = ((argsR k s).1 ++ [(belowR 4096 (argsR k s).2).1], (belowR 4096 (argsR k s).2).2)
  | 0, s => rfl
  | k + 1, s => by
    rw [argsR, argsR_snoc k]
    simp only [argsR, List.cons_append]
theorem argsR_len : ∀ (k : Nat) (s : RS), (argsR k s).2.1.length ≤ s.1.length ∧ (argsR k s).1.length = k
  | 0, s => ⟨Nat.le_refl _, rfl⟩
  | k + 1, s => by
    have h1 := argsR_len k (belowR 4096 s).2
    have h2 := belowR_len 4096 s
    simp only [argsR, List.length_cons]
    omega
theorem failR_len (c : Int) (s : RS) : (failR c s).1 = s.1 := by unfold failR; split <;> rfl
theorem insR_len (s : RS) : (insR s).2.1.length ≤ s.1.length := by
  have b := fun n s => belowR_len n s
  unfold insR
  simp only
  have k0 := b 256 s
  split
  · have := b 4096 (belowR 256 s).2
    have := intR_len (belowR 4096 (belowR 256 s).2).2
    simp only; omega
  · split
    · have := b 4096 (belowR 256 s).2
      have := b 4096 (belowR 4096 (belowR 256 s).2).2
      simp only; omega
    · split
      · have := b 256 (belowR 256 s).2
        have := b 4096 (belowR 256 (belowR 256 s).2).2
        have := b 4096 (belowR 4096 (belowR 256 (belowR 256 s).2).2).2
        have := b 4096 (belowR 4096 (belowR 4096 (belowR 256 (belowR 256 s).2).2).2).2
        simp only; omega
      · split
        · have := b 4096 (belowR 256 s).2
          have := b 4096 (belowR 4096 (belowR 256 s).2).2
          simp only; omega
        · split
          · have := b 4096 (belowR 256 s).2
            have := intR_len (belowR 4096 (belowR 256 s).2).2
            have := b 4 (intR (belowR 4096 (belowR 256 s).2).2).2
            have := (argsR_len (belowR 4 (intR (belowR 4096 (belowR 256 s).2).2).2).1.toNat (belowR 4 (intR (belowR 4096 (belowR 256 s).2).2).2).2).1
            simp only; omega
          · simp only [failR_len]; omega
theorem endR_len (s : RS) : (endR s).2.1.length ≤ s.1.length := by
  have b := fun n s => belowR_len n s
  unfold endR
  simp only
  have k0 := b 256 s
  split
  · have := b 4096 (belowR 256 s).2
    simp only; omega
  · split
    · have := b 4096 (belowR 256 s).2
      have := b 4096 (belowR 4096 (belowR 256 s).2).2
      have := b 4096 (belowR 4096 (belowR 4096 (belowR 256 s).2).2).2
      simp only; omega
    · split
      · have := b 4096 (belowR 256 s).2
        simp only; omega
      · simp only [failR_len]; omega
theorem insLR_snoc : ∀ (k : Nat) (s : RS), insLR (k + 1) s = if (insLR k s).2.2 ≠ 0 then insLR k s else ((insLR k s).1 ++ [(insR (insLR k s).2).1], (insR (insLR k s).2).2)
  | 0, s => by by_cases h : s.2 = 0 <;> simp [insLR, h]
  | k + 1, s => by
    by_cases h : s.2 ≠ 0
    · rw [insLR, if_pos h, insLR, if_pos h, if_pos h]
    · have e : insLR (k + 2) s = ((insR s).1 :: (insLR (k + 1) (insR s).2).1, (insLR (k + 1) (insR s).2).2) := by rw [insLR, if_neg h]
      have e' : insLR (k + 1) s = ((insR s).1 :: (insLR k (insR s).2).1, (insLR k (insR s).2).2) := by rw [insLR, if_neg h]
      rw [e, insLR_snoc k, e']
      simp only
      split <;> rfl
theorem insLR_len : ∀ (k : Nat) (s : RS), (insLR k s).2.1.length ≤ s.1.length ∧ (insLR k s).1.length ≤ k
  | 0, s => ⟨Nat.le_refl _, Nat.le_refl _⟩
  | k + 1, s => by
    have h1 := insLR_len k (insR s).2
    have h2 := insR_len s
    rw [insLR]
    split
    · simp
    · simp only [List.length_cons]; omega
theorem blkR_len (most : Nat) (s : RS) : (blkR most s).2.1.length ≤ s.1.length := by
  unfold blkR
  simp only
  have h1 := belowR_len (most + 1) s
  have h2 := (insLR_len (belowR (most + 1) s).1.toNat (belowR (most + 1) s).2).1
  have h3 := endR_len (insLR (belowR (most + 1) s).1.toNat (belowR (most + 1) s).2).2
  omega
theorem blksR_snoc (most : Nat) : ∀ (k : Nat) (s : RS), s.2 = 0 → blksR most (k + 1) s = if (blksR most k s).2.2 ≠ 0 then ([], (blksR most k s).2) else if (blkR most (blksR most k s).2).2.2 ≠ 0 then ([], (blkR most (blksR most k s).2).2)
      else ((blksR most k s).1 ++ [(blkR most (blksR most k s).2).1], (blkR most (blksR most k s).2).2)
  | 0, s, h => by
    by_cases c1 : (blkR most s).2.2 = 0 <;> simp [blksR, h, c1]
  | k + 1, s, h => by
    have e : ∀ j, blksR most (j + 1) s = if (blkR most s).2.2 ≠ 0 then ([], (blkR most s).2) else if (blksR most j (blkR most s).2).2.2 ≠ 0 then ([], (blksR most j (blkR most s).2).2) else ((blkR most s).1 :: (blksR most j (blkR most s).2).1, (blksR most j (blkR most s).2).2) := fun j => rfl
    rw [e (k + 1), e k]
    by_cases c1 : (blkR most s).2.2 ≠ 0
    · simp only [if_pos c1]
    · simp only [if_neg c1]
      rw [blksR_snoc most k _ (by simpa using c1)]
      by_cases c2 : (blksR most k (blkR most s).2).2.2 ≠ 0
      · simp only [if_pos c2]
      · simp only [if_neg c2]
        by_cases c3 : (blkR most (blksR most k (blkR most s).2).2).2.2 ≠ 0
        · simp only [if_pos c3]
        · simp only [if_neg c3, List.cons_append]
theorem blksR_stop (most : Nat) {s : RS} (h : s.2 = 0) {m : Nat} (hm : (blksR most m s).2.2 ≠ 0) : ∀ j, blksR most (m + j) s = ([], (blksR most m s).2) ∨ j = 0
  | 0 => .inr rfl
  | j + 1 => by
    left
    rw [← Nat.add_assoc, blksR_snoc most _ s h]
    rcases blksR_stop most h hm j with e | rfl
    · rw [e, if_pos hm]
    · rw [Nat.add_zero, if_pos hm]
theorem blksR_len (most : Nat) {s : RS} (h : s.2 = 0) : ∀ k, (blksR most k s).2.1.length ≤ s.1.length ∧ (blksR most k s).1.length ≤ k
  | 0 => ⟨Nat.le_refl _, Nat.le_refl _⟩
  | k + 1 => by
    have h1 := blksR_len most h k
    have h2 := blkR_len most (blksR most k s).2
    rw [blksR_snoc most k s h]
    split
    · simp; omega
    · split
      · simp; omega
      · simp; omega

section
variable {g h : H} {b : Nat} {s : RS}
theorem kept_fresh {h h1 h2 : H} {b : Nat} {fp : List Nat} (a : KeptH h h1 [b]) (c : KeptH h1 h2 fp) (hf : Fresh h fp) : KeptH h h2 [b] := fun x hx hs => by
  have e := a x hx hs
  rw [c x (fun q => by rw [hf x q] at hs; cases hs) (by rw [e]; exact hs), e]
theorem s81k (k : Rdr g h b s) (hl : s.1.length ≤ 1000000000) :
    CallsA Try.prog 81 (fun e => [(e 0).ptr 0]) [[ptrB b]] h (RetC fun r c h' => c = [ptrB b] ∧ r = .int .i64 (belowR 4096 s).1 ∧ Rdr g h' b (belowR 4096 s).2 ∧ KeptH h h' [b]) := by
  refine c81k (G := [ptrB b]) ⟨⟨_, rfl⟩, trivial⟩ ?_
  refine h_call0 (s45 k hl 4096 (by omega) (by omega)) ?_
  rintro _ h1 ⟨rfl, k1, hk1⟩
  exact ⟨[.int .i64 (belowR 4096 s).1], ⟨⟨_, rfl⟩, trivial⟩, rfl, [ptrB b], rfl, rfl, rfl, k1, hk1⟩
theorem s83k (k : Rdr g h b s) (hl : s.1.length ≤ 1000000000) :
    CallsA Try.prog 83 (fun e => [(e 0).ptr 0]) [[ptrB b]] h (RetC fun r c h' => c = [ptrB b] ∧ r = .int .i64 (belowR 4096 s).1 ∧ Rdr g h' b (belowR 4096 s).2 ∧ KeptH h h' [b]) := by
  refine c83k (G := [ptrB b]) ⟨⟨_, rfl⟩, trivial⟩ ?_
  refine h_call0 (s45 k hl 4096 (by omega) (by omega)) ?_
  rintro _ h1 ⟨rfl, k1, hk1⟩
  exact ⟨[.int .i64 (belowR 4096 s).1], ⟨⟨_, rfl⟩, trivial⟩, rfl, [ptrB b], rfl, rfl, rfl, k1, hk1⟩
variable {R : Value → List (List Value) → H → Prop} {G : List Value} {L : Lv} {k : Out}
theorem num_step {key p : Nat} {ks : List Nat} (hkey : kIdx ks key = 0) (hp : gv G p = ptrB b) (r : Rdr g h b s) (hl : s.1.length ≤ 1000000000)
    (HK : ∀ h', Rdr g h' b (belowR 4096 s).2 → KeptH h h' [b] → holds Try.prog R k (G ++ [ptrB b, .int .i64 (belowR 4096 s).1]) L h') :
    holds Try.prog R (.call 81 [(.loc key 0)] ks [[(.val p)]] [[.ptr]] [(false, [.int .i64])] k) G L h := by
  refine h_call1 (Q := fun r c h' => c = [ptrB b] ∧ r = .int .i64 (belowR 4096 s).1 ∧ Rdr g h' b (belowR 4096 s).2 ∧ KeptH h h' [b]) ?_ ?_
  · have := s81k r hl
    simp only [SV.denL, SV.den, hkey, hp]
    exact this
  · rintro _ _ h1 ⟨rfl, rfl, k1, hk1⟩
    exact ⟨⟨⟨_, rfl⟩, trivial⟩, [.int .i64 (belowR 4096 s).1], ⟨⟨_, rfl⟩, trivial⟩, rfl, HK h1 k1 hk1⟩
theorem num_step2 {key p : Nat} {ks : List Nat} (hkey : kIdx ks key = 0) (hp : gv G p = ptrB b) (r : Rdr g h b s) (hl : s.1.length ≤ 1000000000)
    (HK : ∀ h', Rdr g h' b (belowR 4096 s).2 → KeptH h h' [b] → holds Try.prog R k (G ++ [ptrB b, .int .i64 (belowR 4096 s).1]) L h') :
    holds Try.prog R (.call 83 [(.loc key 0)] ks [[(.val p)]] [[.ptr]] [(false, [.int .i64])] k) G L h := by
  refine h_call1 (Q := fun r c h' => c = [ptrB b] ∧ r = .int .i64 (belowR 4096 s).1 ∧ Rdr g h' b (belowR 4096 s).2 ∧ KeptH h h' [b]) ?_ ?_
  · have := s83k r hl
    simp only [SV.denL, SV.den, hkey, hp]
    exact this
  · rintro _ _ h1 ⟨rfl, rfl, k1, hk1⟩
    exact ⟨⟨⟨_, rfl⟩, trivial⟩, [.int .i64 (belowR 4096 s).1], ⟨⟨_, rfl⟩, trivial⟩, rfl, HK h1 k1 hk1⟩
theorem below_step {p : Nat} {n : Nat} {x : X} (hp : gv G p = ptrB b) (hx : vi (x.den G) = (n : Int)) (h1 : 1 ≤ n) (h2 : n ≤ 1000000) (r : Rdr g h b s) (hl : s.1.length ≤ 1000000000)
    (HK : ∀ h', Rdr g h' b (belowR n s).2 → KeptH h h' [b] → holds Try.prog R k (G ++ [.int .i64 (belowR n s).1]) L h') :
    holds Try.prog R (.call 45 [(.val p), (.int .i64 x)] [] [] [] [(false, [.int .i64])] k) G L h := by
  refine h_call0 (Q := fun r h' => r = .int .i64 (belowR n s).1 ∧ Rdr g h' b (belowR n s).2 ∧ KeptH h h' [b]) ?_ ?_
  · have := s45 r hl n h1 h2
    simp only [SV.denL, SV.den, hp, hx]
    exact this
  · rintro _ h1 ⟨rfl, k1, hk1⟩
    exact ⟨[.int .i64 (belowR n s).1], ⟨⟨_, rfl⟩, trivial⟩, rfl, HK h1 k1 hk1⟩
theorem read_int {p : Nat} (hp : gv G p = ptrB b) (r : Rdr g h b s) (hl : s.1.length ≤ 1000000000)
    (HK : ∀ h', Rdr g h' b (intR s).2 → KeptH h h' [b] → holds Try.prog R k (G ++ [.int .i64 (intR s).1]) L h') :
    holds Try.prog R (.call 82 [(.val p)] [] [] [] [(false, [.int .i64])] k) G L h := by
  refine h_call0 (Q := fun r h' => r = .int .i64 (intR s).1 ∧ Rdr g h' b (intR s).2 ∧ KeptH h h' [b]) ?_ ?_
  · have := s82 r hl
    simp only [SV.denL, SV.den, hp]
    exact this
  · rintro _ h1 ⟨rfl, k1, hk1⟩
    exact ⟨[.int .i64 (intR s).1], ⟨⟨_, rfl⟩, trivial⟩, rfl, HK h1 k1 hk1⟩
end
end Go.Proofs.Ythnoplfjcdkacaa
