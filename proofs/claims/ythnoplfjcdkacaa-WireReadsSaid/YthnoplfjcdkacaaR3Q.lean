/-
  Whatever bytes are read are the one way to write what they are read as. Conditions: none (plain lemmas).
-/
import Derived.Test.YthnoplfjcdkacaaR3O
set_option linter.unusedVariables false
set_option linter.unusedSimpArgs false
namespace Go.Proofs.Ythnoplfjcdkacaa
open Go

theorem numA_inv : ∀ (l : List Int) (i a : Nat), InB l → i ≤ 9 → a < 128 ^ i → (numA i a l).1 = 0 → ∃ q, l = leb q ++ (numA i a l).2.2 ∧ (numA i a l).2.1 = a + q * 128 ^ i ∧ (0 < i → q ≠ 0)
  | [], i, a, _, _, _, h => by simp [numA] at h
  | c :: t, i, a, hb, hi, ha, h => by
    have hc := hb c (List.mem_cons_self ..)
    rw [numA] at h ⊢
    by_cases h1 : (i = 9 ∧ 1 < c) ∨ (0 < i ∧ c = 0)
    · rw [if_pos h1] at h; simp at h
    · rw [if_neg h1] at h ⊢
      by_cases h2 : c < 128
      · rw [if_pos h2]
        refine ⟨c.toNat, ?_, rfl, fun hp e => h1 (.inr ⟨hp, by omega⟩)⟩
        rw [leb_lt (by omega)]
        simp; omega
      · rw [if_neg h2] at h ⊢
        have hi8 : i < 9 := by
          by_cases e : i = 9
          · exact absurd (.inl ⟨e, by omega⟩) h1
          · omega
        obtain ⟨q, e1, e2, e3⟩ := numA_inv t (i + 1) _ (fun x hx => hb x (List.mem_cons_of_mem _ hx)) (by omega) ((or_shl (c := (c - 128).toNat) ha hi (by omega) (fun e => by omega)).2.2 hi8) h
        have hq := e3 (by omega)
        refine ⟨(c - 128).toNat + 128 * q, ?_, ?_, fun _ => by omega⟩
        · rw [leb_ge (by omega), show ((c - 128).toNat + 128 * q) % 128 = (c - 128).toNat by omega, show ((c - 128).toNat + 128 * q) / 128 = q by omega, List.cons_append, ← e1]
          congr 1; omega
        · rw [e2, Nat.pow_succ, Nat.add_mul, Nat.add_assoc]
          congr 2
          rw [Nat.mul_comm (128 ^ i) 128, ← Nat.mul_assoc, Nat.mul_comm q 128]
theorem numR_inv {s : RS} (h : (numR s).2.2 = 0) (hb : InB s.1) : s.2 = 0 ∧ s.1 = leb (numR s).1 ++ (numR s).2.1 := by
  unfold numR at h ⊢
  by_cases c1 : s.2 ≠ 0
  · rw [if_pos c1] at h; exact absurd h c1
  · rw [if_neg c1] at h ⊢
    refine ⟨Decidable.not_not.1 c1, ?_⟩
    by_cases c2 : (numA 0 0 s.1).1 = 0
    · rw [if_pos c2]
      obtain ⟨q, e1, e2, -⟩ := numA_inv s.1 0 0 hb (by omega) (by simp) c2
      have : (numA 0 0 s.1).2.1 = q := by rw [e2]; simp
      simp only
      rw [this]; exact e1
    · rw [if_neg c2] at h; exact absurd h c2
theorem inB_tail {a b l : List Int} (h : InB l) (e : l = a ++ b) : InB b := fun x hx => h x (by rw [e]; exact List.mem_append_right _ hx)
theorem belowR_inv {n : Nat} {s : RS} (h : (belowR n s).2.2 = 0) (hb : InB s.1) : s.2 = 0 ∧ s.1 = lebI (belowR n s).1 ++ (belowR n s).2.1 ∧ InB (belowR n s).2.1 := by
  have hlt := numR_lt hb
  unfold belowR at h ⊢
  by_cases c1 : (numR s).2.2 ≠ 0
  · rw [if_pos c1] at h; exact absurd h c1
  · rw [if_neg c1] at h ⊢
    obtain ⟨e1, e2⟩ := numR_inv (Decidable.not_not.1 c1) hb
    by_cases c2 : n ≤ (numR s).1
    · rw [if_pos c2] at h; simp at h
    · rw [if_neg c2]
      have : lebI ((numR s).1 : Int) = leb (numR s).1 := by unfold lebI; rw [u64_of (by omega) (by omega), Int.toNat_natCast]
      simp only
      rw [this]
      exact ⟨e1, e2, inB_tail hb e2⟩
theorem zig_zag {n : Nat} (h : n < 18446744073709551616) : zig (zag n) = n ∧ N64 (zag n) := by
  unfold zag zig N64
  split
  · refine ⟨?_, by omega⟩
    rw [if_pos (by omega)]; omega
  · refine ⟨?_, by omega⟩
    rw [if_neg (by omega)]; omega
theorem intR_inv {s : RS} (h : (intR s).2.2 = 0) (hb : InB s.1) : s.2 = 0 ∧ s.1 = leb (zig (intR s).1) ++ (intR s).2.1 ∧ InB (intR s).2.1 ∧ N64 (intR s).1 := by
  unfold intR at h ⊢
  obtain ⟨e1, e2⟩ := numR_inv h hb
  obtain ⟨z1, z2⟩ := zig_zag (numR_lt hb)
  simp only
  rw [z1]
  exact ⟨e1, e2, inB_tail hb e2, z2⟩
theorem failR_ne {c : Int} {s : RS} (hc : c ≠ 0) : (failR c s).2 ≠ 0 := by
  unfold failR
  split
  · exact hc
  · assumption
theorem argsR_inv : ∀ (k : Nat) (s : RS), (argsR k s).2.2 = 0 → InB s.1 → s.2 = 0 ∧ s.1 = (argsR k s).1.flatMap lebI ++ (argsR k s).2.1 ∧ InB (argsR k s).2.1
  | 0, s, h, hb => ⟨h, by simp [argsR], hb⟩
  | k + 1, s, h, hb => by
    simp only [argsR] at h ⊢
    have h0 : (belowR 4096 s).2.2 = 0 := by
      by_cases c : (belowR 4096 s).2.2 = 0
      · exact c
      · rw [argsR_bad c] at h; exact h
    obtain ⟨e1, e2, e3⟩ := belowR_inv h0 hb
    obtain ⟨f1, f2, f3⟩ := argsR_inv k _ h e3
    refine ⟨e1, ?_, f3⟩
    rw [List.flatMap_cons, List.append_assoc, ← f2]; exact e2
theorem wire_of {s : RS} : Wire (belowR 4096 s).1 := by
  have := belowR_range 4096 s
  exact ⟨by omega, by omega⟩
theorem insR_inv {s : RS} (h : (insR s).2.2 = 0) (hb : InB s.1) : s.2 = 0 ∧ s.1 = encI (insR s).1 ++ (insR s).2.1 ∧ InB (insR s).2.1 ∧ N64 (insR s).1.n := by
  have back : ∀ {n : Nat} {s : RS} {t : RS}, t.2 = 0 → ((belowR n s).2.2 ≠ 0 → t = (belowR n s).2) → (belowR n s).2.2 = 0 := fun {n s t} h1 h2 => by
    by_cases c : (belowR n s).2.2 = 0
    · exact c
    · rw [h2 c] at h1; exact h1
  have n0 : N64 0 := ⟨by omega, by omega⟩
  obtain ⟨k, hk⟩ : ∃ k, k = belowR 256 s := ⟨_, rfl⟩
  unfold insR at h ⊢
  simp only [← hk] at h ⊢
  by_cases c1 : k.1 = 1
  · rw [if_pos c1] at h ⊢
    have h1 : (belowR 4096 k.2).2.2 = 0 := back h fun c => intR_bad c
    obtain ⟨i1, i2, i3, i4⟩ := intR_inv h (belowR_inv h1 (by
      have h0 : k.2.2 = 0 := by rw [hk]; exact back (n := 256) (s := s) h1 fun c => by rw [← hk] at c ⊢; rw [belowR_bad c]
      rw [hk] at h0 ⊢
      exact (belowR_inv h0 hb).2.2)).2.2
    have h0 : (belowR 256 s).2.2 = 0 := back (n := 256) (s := s) h1 fun c => by rw [← hk] at c ⊢; rw [belowR_bad c]
    obtain ⟨a1, a2, a3⟩ := belowR_inv h0 hb
    rw [← hk] at a2 a3
    obtain ⟨b1, b2, b3⟩ := belowR_inv h1 a3
    refine ⟨a1, ?_, i3, i4⟩
    unfold encI
    simp only
    rw [a2, b2, i2]
    simp [c1]
  rw [if_neg c1] at h ⊢
  by_cases c2 : k.1 = 2 ∨ k.1 = 4 ∨ k.1 = 7 ∨ k.1 = 8
  · rw [if_pos c2] at h ⊢
    have h1 : (belowR 4096 k.2).2.2 = 0 := back h fun c => by simp only; rw [belowR_bad c]
    have h0 : (belowR 256 s).2.2 = 0 := back (n := 256) (s := s) h1 fun c => by rw [← hk] at c ⊢; rw [belowR_bad c]
    obtain ⟨a1, a2, a3⟩ := belowR_inv h0 hb
    rw [← hk] at a2 a3
    obtain ⟨b1, b2, b3⟩ := belowR_inv h1 a3
    obtain ⟨d1, d2, d3⟩ := belowR_inv h b3
    refine ⟨a1, ?_, d3, n0⟩
    unfold encI
    simp only
    rw [a2, b2, d2, if_neg c1, if_pos c2]
    simp
  rw [if_neg c2] at h ⊢
  by_cases c3 : k.1 = 3
  · rw [if_pos c3] at h ⊢
    have h3 : (belowR 4096 (belowR 4096 (belowR 256 k.2).2).2).2.2 = 0 := back h fun c => by simp only; rw [belowR_bad c]
    have h2 : (belowR 4096 (belowR 256 k.2).2).2.2 = 0 := back h3 fun c => by rw [belowR_bad c]
    have h1 : (belowR 256 k.2).2.2 = 0 := back h2 fun c => by rw [belowR_bad c]
    have h0 : (belowR 256 s).2.2 = 0 := back (n := 256) (s := s) h1 fun c => by rw [← hk] at c ⊢; rw [belowR_bad c]
    obtain ⟨a1, a2, a3⟩ := belowR_inv h0 hb
    rw [← hk] at a2 a3
    obtain ⟨b1, b2, b3⟩ := belowR_inv h1 a3
    obtain ⟨d1, d2, d3⟩ := belowR_inv h2 b3
    obtain ⟨e1, e2, e3⟩ := belowR_inv h3 d3
    obtain ⟨f1, f2, f3⟩ := belowR_inv h e3
    refine ⟨a1, ?_, f3, n0⟩
    unfold encI
    simp only
    rw [a2, b2, d2, e2, f2]
    simp [c3]
  rw [if_neg c3] at h ⊢
  by_cases c4 : k.1 = 5
  · rw [if_pos c4] at h ⊢
    have h1 : (belowR 4096 k.2).2.2 = 0 := back h fun c => by simp only; rw [belowR_bad c]
    have h0 : (belowR 256 s).2.2 = 0 := back (n := 256) (s := s) h1 fun c => by rw [← hk] at c ⊢; rw [belowR_bad c]
    obtain ⟨a1, a2, a3⟩ := belowR_inv h0 hb
    rw [← hk] at a2 a3
    obtain ⟨b1, b2, b3⟩ := belowR_inv h1 a3
    obtain ⟨d1, d2, d3⟩ := belowR_inv h b3
    refine ⟨a1, ?_, d3, n0⟩
    unfold encI
    simp only
    rw [a2, b2, d2]
    simp [c4]
  rw [if_neg c4] at h ⊢
  by_cases c5 : k.1 = 6
  · rw [if_pos c5] at h ⊢
    obtain ⟨s2, hs2⟩ : ∃ s2, s2 = (intR (belowR 4096 k.2).2).2 := ⟨_, rfl⟩
    simp only [← hs2] at h ⊢
    have h3 : (belowR 4 s2).2.2 = 0 := back h fun c => argsR_bad c _
    have h2 : s2.2 = 0 := by
      by_cases c : s2.2 = 0
      · exact c
      · rw [belowR_bad c] at h3; exact h3
    have h1 : (belowR 4096 k.2).2.2 = 0 := by
      by_cases c : (belowR 4096 k.2).2.2 = 0
      · exact c
      · rw [hs2, intR_bad c] at h2; exact h2
    have h0 : (belowR 256 s).2.2 = 0 := back (n := 256) (s := s) h1 fun c => by rw [← hk] at c ⊢; rw [belowR_bad c]
    obtain ⟨a1, a2, a3⟩ := belowR_inv h0 hb
    rw [← hk] at a2 a3
    obtain ⟨b1, b2, b3⟩ := belowR_inv h1 a3
    rw [hs2] at h2
    obtain ⟨d1, d2, d3, d4⟩ := intR_inv h2 b3
    rw [← hs2] at d2 d3
    obtain ⟨e1, e2, e3⟩ := belowR_inv h3 d3
    obtain ⟨f1, f2, f3⟩ := argsR_inv _ _ h e3
    have hlen := (argsR_len (belowR 4 s2).1.toNat (belowR 4 s2).2).2
    have hr := belowR_range 4 s2
    refine ⟨a1, ?_, f3, d4⟩
    unfold encI
    simp only
    rw [a2, b2, d2, e2, f2, hlen, Int.toNat_of_nonneg hr.1]
    simp [c5]
  · rw [if_neg c5] at h
    exact absurd h (failR_ne (by omega))
theorem endR_inv {s : RS} (h : (endR s).2.2 = 0) (hb : InB s.1) : s.2 = 0 ∧ s.1 = encE (endR s).1 ++ (endR s).2.1 ∧ InB (endR s).2.1 := by
  have back : ∀ {n : Nat} {s : RS} {t : RS}, t.2 = 0 → ((belowR n s).2.2 ≠ 0 → t = (belowR n s).2) → (belowR n s).2.2 = 0 := fun {n s t} h1 h2 => by
    by_cases c : (belowR n s).2.2 = 0
    · exact c
    · rw [h2 c] at h1; exact h1
  obtain ⟨k, hk⟩ : ∃ k, k = belowR 256 s := ⟨_, rfl⟩
  unfold endR at h ⊢
  simp only [← hk] at h ⊢
  by_cases c1 : k.1 = 1
  · rw [if_pos c1] at h ⊢
    have h0 : (belowR 256 s).2.2 = 0 := back (n := 256) (s := s) h fun c => by simp only; rw [← hk] at c ⊢; rw [belowR_bad c]
    obtain ⟨a1, a2, a3⟩ := belowR_inv h0 hb
    rw [← hk] at a2 a3
    obtain ⟨b1, b2, b3⟩ := belowR_inv h a3
    refine ⟨a1, ?_, b3⟩
    unfold encE
    simp only
    rw [a2, b2]
    simp [c1]
  rw [if_neg c1] at h ⊢
  by_cases c2 : k.1 = 2
  · rw [if_pos c2] at h ⊢
    have h2 : (belowR 4096 (belowR 4096 k.2).2).2.2 = 0 := back h fun c => by simp only; rw [belowR_bad c]
    have h1 : (belowR 4096 k.2).2.2 = 0 := back h2 fun c => by rw [belowR_bad c]
    have h0 : (belowR 256 s).2.2 = 0 := back (n := 256) (s := s) h1 fun c => by rw [← hk] at c ⊢; rw [belowR_bad c]
    obtain ⟨a1, a2, a3⟩ := belowR_inv h0 hb
    rw [← hk] at a2 a3
    obtain ⟨b1, b2, b3⟩ := belowR_inv h1 a3
    obtain ⟨d1, d2, d3⟩ := belowR_inv h2 b3
    obtain ⟨e1, e2, e3⟩ := belowR_inv h d3
    refine ⟨a1, ?_, e3⟩
    unfold encE
    simp only
    rw [a2, b2, d2, e2]
    simp [c2]
  rw [if_neg c2] at h ⊢
  by_cases c3 : k.1 = 3
  · rw [if_pos c3] at h ⊢
    have h0 : (belowR 256 s).2.2 = 0 := back (n := 256) (s := s) h fun c => by simp only; rw [← hk] at c ⊢; rw [belowR_bad c]
    obtain ⟨a1, a2, a3⟩ := belowR_inv h0 hb
    rw [← hk] at a2 a3
    obtain ⟨b1, b2, b3⟩ := belowR_inv h a3
    refine ⟨a1, ?_, b3⟩
    unfold encE
    simp only
    rw [a2, b2]
    simp [c3]
  · rw [if_neg c3] at h
    exact absurd h (failR_ne (by omega))
theorem insLR_inv : ∀ (k : Nat) (s : RS), (insLR k s).2.2 = 0 → InB s.1 → s.2 = 0 ∧ (insLR k s).1.length = k ∧ s.1 = (insLR k s).1.flatMap encI ++ (insLR k s).2.1 ∧ InB (insLR k s).2.1 ∧ ∀ x ∈ (insLR k s).1, N64 x.n
  | 0, s, h, hb => ⟨h, rfl, by simp [insLR], hb, fun x hx => by cases hx⟩
  | k + 1, s, h, hb => by
    rw [insLR] at h ⊢
    by_cases c : s.2 ≠ 0
    · rw [if_pos c] at h; exact absurd h c
    · rw [if_neg c] at h ⊢
      simp only at h ⊢
      have h0 : (insR s).2.2 = 0 := by
        by_cases c : (insR s).2.2 = 0
        · exact c
        · rw [insLR_bad c] at h; exact h
      obtain ⟨e1, e2, e3, e4⟩ := insR_inv h0 hb
      obtain ⟨f1, f2, f3, f4, f5⟩ := insLR_inv k _ h e3
      refine ⟨e1, by simp [f2], ?_, f4, fun x hx => ?_⟩
      · rw [List.flatMap_cons, List.append_assoc, ← f3]; exact e2
      · rcases List.mem_cons.1 hx with rfl | hx
        · exact e4
        · exact f5 x hx
theorem blkR_inv {most : Nat} {s : RS} (h : (blkR most s).2.2 = 0) (hb : InB s.1) : s.2 = 0 ∧ s.1 = encB (blkR most s).1 ++ (blkR most s).2.1 ∧ InB (blkR most s).2.1 ∧ ∀ x ∈ (blkR most s).1.ins, N64 x.n := by
  unfold blkR at h ⊢
  simp only at h ⊢
  obtain ⟨m, hm⟩ : ∃ m, m = belowR (most + 1) s := ⟨_, rfl⟩
  rw [← hm] at h ⊢
  have h2 : (insLR m.1.toNat m.2).2.2 = 0 := by
    by_cases c : (insLR m.1.toNat m.2).2.2 = 0
    · exact c
    · rw [endR_bad c] at h; exact h
  have h1 : m.2.2 = 0 := by
    by_cases c : m.2.2 = 0
    · exact c
    · rw [insLR_bad c] at h2; exact h2
  rw [hm] at h1
  obtain ⟨a1, a2, a3⟩ := belowR_inv h1 hb
  rw [← hm] at a2 a3
  obtain ⟨b1, b2, b3, b4, b5⟩ := insLR_inv _ _ h2 a3
  obtain ⟨d1, d2, d3⟩ := endR_inv h b4
  have hr := belowR_range (most + 1) s
  rw [← hm] at hr
  refine ⟨a1, ?_, d3, b5⟩
  unfold encB
  simp only
  rw [b2, Int.toNat_of_nonneg hr.1, List.append_assoc, List.append_assoc, ← d2, ← b3]
  exact a2
theorem blksR_inv {most : Nat} : ∀ (k : Nat) (s : RS), (blksR most k s).2.2 = 0 → InB s.1 → s.2 = 0 ∧ (blksR most k s).1.length = k ∧ s.1 = (blksR most k s).1.flatMap encB ++ (blksR most k s).2.1 ∧ InB (blksR most k s).2.1 ∧ NB (blksR most k s).1
  | 0, s, h, hb => ⟨h, rfl, by simp [blksR], hb, fun x hx => by cases hx⟩
  | k + 1, s, h, hb => by
    rw [blksR] at h ⊢
    by_cases c : (blkR most s).2.2 ≠ 0
    · rw [if_pos c] at h; exact absurd h c
    · rw [if_neg c] at h ⊢
      by_cases c2 : (blksR most k (blkR most s).2).2.2 ≠ 0
      · rw [if_pos c2] at h; exact absurd h c2
      · rw [if_neg c2] at h ⊢
        simp only at h ⊢
        obtain ⟨e1, e2, e3, e4⟩ := blkR_inv (Decidable.not_not.1 c) hb
        obtain ⟨f1, f2, f3, f4, f5⟩ := blksR_inv k _ h e3
        refine ⟨e1, by simp [f2], ?_, f4, fun x hx => ?_⟩
        · rw [List.flatMap_cons, List.append_assoc, ← f3]; exact e2
        · rcases List.mem_cons.1 hx with rfl | hx
          · exact e4
          · exact f5 x hx
theorem readBs_inv {most : Nat} {s : RS} (h : (readBs most s).2.2 = 0) (hb : InB s.1) : s.2 = 0 ∧ s.1 = encBs (readBs most s).1 ++ (readBs most s).2.1 ∧ NB (readBs most s).1 := by
  unfold readBs at h ⊢
  obtain ⟨m, hm⟩ : ∃ m, m = belowR 17 s := ⟨_, rfl⟩
  rw [← hm] at h ⊢
  have h1 : m.2.2 = 0 := by
    by_cases c : m.2.2 = 0
    · exact c
    · have : m.1 = 0 := by
        rw [hm] at c ⊢
        by_cases d : (belowR 17 s).1 = 0
        · exact d
        · exact absurd (belowR_ok d) c
      rw [this] at h; exact h
  rw [hm] at h1
  obtain ⟨a1, a2, a3⟩ := belowR_inv h1 hb
  rw [← hm] at a2 a3
  obtain ⟨b1, b2, b3, b4, b5⟩ := blksR_inv _ _ h a3
  have hr := belowR_range 17 s
  rw [← hm] at hr
  refine ⟨a1, ?_, b5⟩
  unfold encBs
  rw [b2, Int.toNat_of_nonneg hr.1, List.append_assoc, ← b3]
  exact a2
theorem endS_zero {s : RS} (h : endS s = 0) : s = ([], 0) := by
  obtain ⟨l, c⟩ := s
  unfold endS at h
  simp only at h
  split at h
  · exact absurd h (failR_ne (by omega))
  · rename_i h1
    have : l = [] := Decidable.not_not.1 h1
    subst this; subst h; rfl
theorem readF_inv {l : List Int} (h : (readF l).2 = 0) (hb : InB l) : l = encF (readF l).1.1 (readF l).1.2.1 (readF l).1.2.2 ∧ (checkM (readF l).1.1 (readF l).1.2.1 (readF l).1.2.2).1 = 0 ∧ NB (readF l).1.2.2 := by
  obtain ⟨p, hp⟩ : ∃ p, p = belowR 4096 (l, 0) := ⟨_, rfl⟩
  obtain ⟨n, hn⟩ : ∃ n, n = belowR 4096 p.2 := ⟨_, rfl⟩
  obtain ⟨bs, hbs⟩ : ∃ bs, bs = readBs 32 n.2 := ⟨_, rfl⟩
  have e : readF l = if endS bs.2 ≠ 0 then ((0, 0, []), endS bs.2) else if (checkM p.1 n.1 bs.1).1 ≠ 0 then ((0, 0, []), 30) else ((p.1, n.1, bs.1), 0) := by
    unfold readF; simp only [← hp, ← hn, ← hbs]
  rw [e] at h ⊢
  by_cases c1 : endS bs.2 ≠ 0
  · rw [if_pos c1] at h; exact absurd h c1
  · rw [if_neg c1] at h ⊢
    by_cases c2 : (checkM p.1 n.1 bs.1).1 ≠ 0
    · rw [if_pos c2] at h; simp at h
    · rw [if_neg c2]
      simp only
      have hz := endS_zero (Decidable.not_not.1 c1)
      have h3 : (readBs 32 n.2).2.2 = 0 := by rw [← hbs, hz]
      have h2 : (belowR 4096 p.2).2.2 = 0 := by
        by_cases c : (belowR 4096 p.2).2.2 = 0
        · exact c
        · rw [← hn] at c ⊢; rw [readBs_bad c] at h3; exact h3
      have h1 : (belowR 4096 (l, 0)).2.2 = 0 := by
        by_cases c : (belowR 4096 (l, 0)).2.2 = 0
        · exact c
        · rw [← hp] at c ⊢; rw [belowR_bad c] at h2; exact h2
      obtain ⟨a1, a2, a3⟩ := belowR_inv h1 hb
      rw [← hp] at a2 a3
      obtain ⟨b1, b2, b3⟩ := belowR_inv h2 a3
      rw [← hn] at b2 b3
      obtain ⟨d1, d2, d3⟩ := readBs_inv h3 b3
      rw [← hbs] at d2 d3
      refine ⟨?_, Decidable.not_not.1 c2, d3⟩
      unfold encF
      rw [hz] at d2
      simp only [List.append_nil] at d2
      rw [← d2, ← b2]
      exact a2
theorem readC_inv {l : List Int} (h : (readC l).2 = 0) (hb : InB l) : l = encC (readC l).1.1 (readC l).1.2.1 (readC l).1.2.2.1 (readC l).1.2.2.2 ∧ (mcheckM (readC l).1.1 (readC l).1.2.1 (readC l).1.2.2.1 (readC l).1.2.2.2).1 = 0 ∧ NB (readC l).1.2.2.2 := by
  obtain ⟨p, hp⟩ : ∃ p, p = belowR 4096 (l, 0) := ⟨_, rfl⟩
  obtain ⟨r, hr⟩ : ∃ r, r = belowR 4096 p.2 := ⟨_, rfl⟩
  obtain ⟨n, hn⟩ : ∃ n, n = belowR 4096 r.2 := ⟨_, rfl⟩
  obtain ⟨bs, hbs⟩ : ∃ bs, bs = readBs 400 n.2 := ⟨_, rfl⟩
  have e : readC l = if endS bs.2 ≠ 0 then ((0, 0, 0, []), endS bs.2) else if (mcheckM p.1 r.1 n.1 bs.1).1 ≠ 0 then ((0, 0, 0, []), 30) else ((p.1, r.1, n.1, bs.1), 0) := by
    unfold readC; simp only [← hp, ← hr, ← hn, ← hbs]
  rw [e] at h ⊢
  by_cases c1 : endS bs.2 ≠ 0
  · rw [if_pos c1] at h; exact absurd h c1
  · rw [if_neg c1] at h ⊢
    by_cases c2 : (mcheckM p.1 r.1 n.1 bs.1).1 ≠ 0
    · rw [if_pos c2] at h; simp at h
    · rw [if_neg c2]
      simp only
      have hz := endS_zero (Decidable.not_not.1 c1)
      have h3 : (readBs 400 n.2).2.2 = 0 := by rw [← hbs, hz]
      have h2 : (belowR 4096 r.2).2.2 = 0 := by
        by_cases c : (belowR 4096 r.2).2.2 = 0
        · exact c
        · rw [← hn] at c ⊢; rw [readBs_bad c] at h3; exact h3
      have h2' : (belowR 4096 p.2).2.2 = 0 := by
        by_cases c : (belowR 4096 p.2).2.2 = 0
        · exact c
        · rw [← hr] at c ⊢; rw [belowR_bad c] at h2; exact h2
      have h1 : (belowR 4096 (l, 0)).2.2 = 0 := by
        by_cases c : (belowR 4096 (l, 0)).2.2 = 0
        · exact c
        · rw [← hp] at c ⊢; rw [belowR_bad c] at h2'; exact h2'
      obtain ⟨a1, a2, a3⟩ := belowR_inv h1 hb
      rw [← hp] at a2 a3
      obtain ⟨f1, f2, f3⟩ := belowR_inv h2' a3
      rw [← hr] at f2 f3
      obtain ⟨b1, b2, b3⟩ := belowR_inv h2 f3
      rw [← hn] at b2 b3
      obtain ⟨d1, d2, d3⟩ := readBs_inv h3 b3
      rw [← hbs] at d2 d3
      refine ⟨?_, Decidable.not_not.1 c2, d3⟩
      unfold encC
      rw [hz] at d2
      simp only [List.append_nil] at d2
      rw [← d2, ← b2, ← f2]
      exact a2
/-! ### Certificates -/
theorem pairR_inv {s : RS} (h : (pairR s).2.2 = 0) (hb : InB s.1) : s.2 = 0 ∧ s.1 = encPr (pairR s).1 ++ (pairR s).2.1 ∧ InB (pairR s).2.1 := by
  unfold pairR at h ⊢
  simp only at h ⊢
  have h1 : (belowR 4096 s).2.2 = 0 := by
    by_cases c : (belowR 4096 s).2.2 = 0
    · exact c
    · rw [belowR_bad c] at h; exact h
  obtain ⟨a1, a2, a3⟩ := belowR_inv h1 hb
  obtain ⟨b1, b2, b3⟩ := belowR_inv h a3
  refine ⟨a1, ?_, b3⟩
  unfold encPr
  rw [List.append_assoc, ← b2]; exact a2
theorem pairR_inW {s : RS} : inW (pairR s).1 = true := by
  have h1 := wire_of (s := s)
  have h2 := wire_of (s := (belowR 4096 s).2)
  unfold inW pairR
  rw [decide_eq_true_eq]
  exact ⟨h1.1, h1.2, h2.1, h2.2⟩
theorem pairsR_inW : ∀ (k : Nat) (s : RS), (pairsR k s).1.all inW = true
  | 0, s => rfl
  | k + 1, s => by
    rw [pairsR]
    split
    · rfl
    · simp only [List.all_cons, pairR_inW, pairsR_inW k, Bool.and_self]
theorem pairsR_inv : ∀ (k : Nat) (s : RS), (pairsR k s).2.2 = 0 → InB s.1 → s.2 = 0 ∧ (pairsR k s).1.length = k ∧ s.1 = (pairsR k s).1.flatMap encPr ++ (pairsR k s).2.1 ∧ InB (pairsR k s).2.1
  | 0, s, h, hb => ⟨h, rfl, by simp [pairsR], hb⟩
  | k + 1, s, h, hb => by
    rw [pairsR] at h ⊢
    by_cases c : s.2 ≠ 0
    · rw [if_pos c] at h; exact absurd h c
    · rw [if_neg c] at h ⊢
      simp only at h ⊢
      have h0 : (pairR s).2.2 = 0 := by
        by_cases c : (pairR s).2.2 = 0
        · exact c
        · rw [pairsR_bad c] at h; exact h
      obtain ⟨e1, e2, e3⟩ := pairR_inv h0 hb
      obtain ⟨f1, f2, f3, f4⟩ := pairsR_inv k _ h e3
      refine ⟨e1, by simp [f2], ?_, f4⟩
      rw [List.flatMap_cons, List.append_assoc, ← f3]; exact e2
theorem onePs_inv {s : RS} (h : (onePs s).2.2 = 0) (hb : InB s.1) : s.2 = 0 ∧ s.1 = encPs (onePs s).1 ++ (onePs s).2.1 ∧ InB (onePs s).2.1 := by
  unfold onePs at h ⊢
  have h1 : (belowR 65536 s).2.2 = 0 := by
    by_cases c : (belowR 65536 s).2.2 = 0
    · exact c
    · rw [pairsR_bad c] at h; exact h
  obtain ⟨a1, a2, a3⟩ := belowR_inv h1 hb
  obtain ⟨b1, b2, b3, b4⟩ := pairsR_inv _ _ h a3
  have hr := belowR_range 65536 s
  refine ⟨a1, ?_, b4⟩
  unfold encPs
  rw [b2, Int.toNat_of_nonneg hr.1, List.append_assoc, ← b3]; exact a2
theorem certsR_inv : ∀ (k : Nat) (s : RS), (certsR k s).2.2 = 0 → InB s.1 → s.2 = 0 ∧ s.1 = (certsR k s).1.flatMap encPs ++ (certsR k s).2.1
  | 0, s, h, hb => ⟨h, by simp [certsR]⟩
  | k + 1, s, h, hb => by
    rw [certsR] at h ⊢
    simp only at h ⊢
    have h0 : (onePs s).2.2 = 0 := by
      by_cases c : (onePs s).2.2 = 0
      · exact c
      · rw [certsR_bad c] at h; exact h
    obtain ⟨e1, e2, e3⟩ := onePs_inv h0 hb
    obtain ⟨f1, f2⟩ := certsR_inv k _ h e3
    refine ⟨e1, ?_⟩
    rw [List.flatMap_cons, List.append_assoc, ← f2]; exact e2
theorem certsR_inW : ∀ (k : Nat) (s : RS), (certsR k s).1.all (fun l => l.all inW) = true
  | 0, s => rfl
  | k + 1, s => by
    rw [certsR]
    simp only [List.all_cons, certsR_inW k]
    have : (onePs s).1.all inW = true := pairsR_inW _ _
    rw [this]; rfl
theorem readCt_inv {l : List Int} (h : (readCt l).2 = 0) (hb : InB l) : l = encCt (readCt l).1 ∧ certM (readCt l).1 = 0 ∧ Slim (readCt l).1 := by
  obtain ⟨n, hn⟩ : ∃ n, n = belowR 17 (l, 0) := ⟨_, rfl⟩
  obtain ⟨r, hr⟩ : ∃ r, r = certsR n.1.toNat n.2 := ⟨_, rfl⟩
  have e : readCt l = if endS r.2 ≠ 0 then ([], endS r.2) else (r.1, 0) := by
    unfold readCt; simp only [← hn, ← hr]
  rw [e] at h ⊢
  by_cases c1 : endS r.2 ≠ 0
  · rw [if_pos c1] at h; exact absurd h c1
  · rw [if_neg c1]
    simp only
    have hz := endS_zero (Decidable.not_not.1 c1)
    have h2 : (certsR n.1.toNat n.2).2.2 = 0 := by rw [← hr, hz]
    have h1 : (belowR 17 (l, 0)).2.2 = 0 := by
      by_cases c : (belowR 17 (l, 0)).2.2 = 0
      · exact c
      · rw [← hn] at c ⊢; rw [certsR_bad c] at h2; exact h2
    obtain ⟨a1, a2, a3⟩ := belowR_inv h1 hb
    rw [← hn] at a2 a3
    obtain ⟨b1, b2⟩ := certsR_inv _ _ h2 a3
    obtain ⟨l1, l2, l3⟩ := certsR_len n.1.toNat n.2
    have hrg := belowR_range 17 (l, 0)
    rw [← hn] at hrg
    rw [← hr] at b2 l2 l3
    refine ⟨?_, certM_ok (by omega) (by rw [hr]; exact certsR_inW _ _), fun x hx => by have := l3 x hx; omega⟩
    unfold encCt
    rw [hz] at b2
    simp only [List.append_nil] at b2
    rw [l2, Int.toNat_of_nonneg hrg.1, ← b2]
    exact a2
end Go.Proofs.Ythnoplfjcdkacaa
