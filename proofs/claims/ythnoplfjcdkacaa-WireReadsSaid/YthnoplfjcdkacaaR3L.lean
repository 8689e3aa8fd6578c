/-
  Bytes cut short, and with more behind, are not read. Conditions: none (plain lemmas).
-/
import Derived.Test.YthnoplfjcdkacaaR3K
set_option linter.unusedVariables false
set_option linter.unusedSimpArgs false
namespace Go.Proofs.Ythnoplfjcdkacaa
open Go

/-! ### A fault stays -/
theorem numR_bad {s : RS} (h : s.2 ≠ 0) : numR s = (0, s) := by unfold numR; rw [if_pos h]
theorem belowR_bad {n : Nat} {s : RS} (h : s.2 ≠ 0) : belowR n s = (0, s) := by unfold belowR; rw [numR_bad h, if_pos h]
theorem intR_bad {s : RS} (h : s.2 ≠ 0) : (intR s).2 = s := by unfold intR; rw [numR_bad h]
theorem failR_bad {c : Int} {s : RS} (h : s.2 ≠ 0) : failR c s = s := by unfold failR; rw [if_neg h]
theorem argsR_bad {s : RS} (h : s.2 ≠ 0) : ∀ k, (argsR k s).2 = s
  | 0 => rfl
  | k + 1 => by simp only [argsR]; rw [belowR_bad h]; exact argsR_bad h k
theorem insR_bad {s : RS} (h : s.2 ≠ 0) : (insR s).2 = s := by
  unfold insR
  simp only [belowR_bad h]
  simp [failR_bad h]
theorem endR_bad {s : RS} (h : s.2 ≠ 0) : (endR s).2 = s := by
  unfold endR
  simp only [belowR_bad h]
  simp [failR_bad h]
theorem insLR_bad {s : RS} (h : s.2 ≠ 0) : ∀ k, (insLR k s).2 = s
  | 0 => rfl
  | k + 1 => by rw [insLR, if_pos h]
theorem blkR_bad {most : Nat} {s : RS} (h : s.2 ≠ 0) : (blkR most s).2 = s := by
  unfold blkR
  simp only
  rw [belowR_bad h]
  simp only
  have := insLR_bad h (0 : Int).toNat
  rw [this, endR_bad h]
theorem readBs_bad {most : Nat} {s : RS} (h : s.2 ≠ 0) : readBs most s = ([], s) := by
  unfold readBs; rw [belowR_bad h]; rfl

/-! ### Cut short -/
/-- Shorter, at the end. -/
def Cut (a e : List Int) : Prop := ∃ t, t ≠ [] ∧ a ++ t = e
theorem cut_nil {a : List Int} (h : Cut a []) : False := by obtain ⟨t, h1, h2⟩ := h; simp at h2; exact h1 h2.2
theorem cut_app {a e f : List Int} (h : Cut a (e ++ f)) : Cut a e ∨ ∃ c, a = e ++ c ∧ Cut c f := by
  obtain ⟨t, h1, h2⟩ := h
  rcases List.append_eq_append_iff.1 h2 with ⟨c, e1, e2⟩ | ⟨c, e1, e2⟩
  · by_cases hc : c = []
    · subst hc
      right
      refine ⟨[], ?_, t, h1, ?_⟩
      · simp at e1 ⊢; exact e1.symm
      · simpa using e2
    · exact .inl ⟨c, hc, e1.symm⟩
  · exact .inr ⟨c, e1, t, h1, e2.symm⟩
theorem cut_take {l : List Int} {k : Nat} (h : k < l.length) : Cut (l.take k) l := ⟨l.drop k, by simp; omega, List.take_append_drop k l⟩
/-- Read whole; cut short, too little. -/
structure Whole {α : Type} (f : RS → α × RS) (e : List Int) (x : α) : Prop where
  all : ∀ t, f (e ++ t, 0) = (x, (t, 0))
  cut : ∀ c, Cut c e → (f (c, 0)).2.2 = 3
theorem numA_cut : ∀ (m : Nat) (i a : Nat) (c : List Int), m * 128 ^ i < 18446744073709551616 → (0 < i → m ≠ 0) → Cut c (leb m) → (numA i a c).1 = 3 := by
  intro m
  induction m using Nat.strongRecOn with
  | _ m ih =>
    intro i a c hm hi hc
    have h9 : i = 9 → m ≤ 1 := fun e => by
      subst e
      rw [show (128 : Nat) ^ 9 = 9223372036854775808 by decide] at hm
      omega
    obtain ⟨t, ht, he⟩ := hc
    cases c with
    | nil => rw [numA]
    | cons x c =>
      by_cases hlt : m < 128
      · rw [leb_lt hlt] at he
        simp at he
        exact absurd he.2.2 ht
      · rw [leb_ge (by omega), List.cons_append, List.cons.injEq] at he
        obtain ⟨rfl, he⟩ := he
        rw [numA, if_neg (by
          rintro (⟨e, h⟩ | ⟨e, h⟩)
          · have := h9 e; omega
          · omega), if_neg (by omega)]
        have e2 : m * 128 ^ i = m % 128 * 128 ^ i + m / 128 * 128 ^ (i + 1) := by
          rw [Nat.pow_succ, Nat.mul_comm (128 ^ i) 128, ← Nat.mul_assoc, ← Nat.add_mul, show m % 128 + m / 128 * 128 = m by omega]
        have hlt2 : m / 128 * 128 ^ (i + 1) < 18446744073709551616 := by
          rw [e2] at hm; exact Nat.lt_of_le_of_lt (Nat.le_add_left _ _) hm
        exact ih (m / 128) (by omega) (i + 1) _ c hlt2 (fun _ => by omega) ⟨t, ht, he⟩
theorem numR_cut {m : Nat} {c : List Int} (hm : m < 18446744073709551616) (hc : Cut c (leb m)) : numR (c, 0) = (0, (c, 3)) := by
  have := numA_cut m 0 0 c (by simpa using hm) (fun h => absurd h (by omega)) hc
  unfold numR
  rw [if_neg (by simp)]
  simp only
  rw [this, if_neg (by omega)]
theorem below_whole {n : Int} {lim : Nat} (h0 : 0 ≤ n) (h1 : n < lim) (hl : lim ≤ 1000000) : Whole (belowR lim) (lebI n) n :=
  ⟨fun t => belowR_leb h0 h1 hl, fun c hc => by unfold belowR; rw [numR_cut (u64_lt n) hc]; simp⟩
theorem below_cut0 {n : Int} {lim : Nat} {c : List Int} (hc : Cut c (lebI n)) : belowR lim (c, 0) = (0, (c, 3)) := by unfold belowR; rw [numR_cut (u64_lt n) hc]; simp
theorem int_whole {n : Int} (h : N64 n) : Whole intR (leb (zig n)) n := ⟨fun t => intR_leb h, fun c hc => by unfold intR; rw [numR_cut (zig_lt h) hc]⟩
theorem Wire.whole {n : Int} (h : Wire n) : Whole (belowR 4096) (lebI n) n := below_whole h.1 (by have := h.2; omega) (by omega)
/-- One behind the other. -/
theorem Whole.seq {α β γ : Type} {f : RS → α × RS} {e e' : List Int} {x : α} {y : β} {q : α → RS → β × RS} {F : RS → γ × RS} {z : γ} (A : Whole f e x) (B : Whole (q x) e' y) (hF : ∀ s, (F s).2 = (q (f s).1 (f s).2).2) (hz : ∀ t, F (e ++ (e' ++ t), 0) = (z, (t, 0)))
    (hb : ∀ v s, s.2 ≠ 0 → (q v s).2 = s) : Whole F (e ++ e') z := by
  refine ⟨fun t => by rw [List.append_assoc]; exact hz t, fun c hc => ?_⟩
  replace hc := cut_app hc
  rcases hc with h | ⟨c', rfl, h⟩
  · have h3 := A.cut c h
    rw [hF, hb _ _ (by rw [h3]; omega)]; exact h3
  · rw [hF, A.all]
    exact B.cut c' h
theorem args_cut : ∀ {l : List Int} {c : List Int}, (∀ y ∈ l, Wire y) → Cut c (l.flatMap lebI) → (argsR l.length (c, 0)).2.2 = 3
  | [], c, _, hc => (cut_nil hc).elim
  | n :: l, c, h, hc => by
    simp only [List.length_cons, argsR]
    rw [List.flatMap_cons] at hc
    replace hc := cut_app hc
    rcases hc with hc | ⟨c', rfl, hc⟩
    · rw [below_cut0 hc, argsR_bad (by simp)]
    · rw [(h n (List.mem_cons_self ..)).read]
      exact args_cut (fun y hy => h y (List.mem_cons_of_mem _ hy)) hc
theorem insR_cut {x : Ins} {c : List Int} (h : FitI x) (hc : Cut c (encI x)) : (insR (c, 0)).2.2 = 3 := by
  obtain ⟨k, o, d, a, b, n, args⟩ := x
  obtain ⟨⟨k1, k8⟩, pl, ho, hd, ha, hb, hn, hl, hargs⟩ := h
  simp only at k1 k8 ho hd ha hb hn hl hargs
  have kk : k = 1 ∨ k = 2 ∨ k = 3 ∨ k = 4 ∨ k = 5 ∨ k = 6 ∨ k = 7 ∨ k = 8 := by omega
  have hk : ∀ t', belowR 256 (lebI k ++ t', 0) = (k, (t', 0)) := fun t' => belowR_leb (by omega) (by omega) (by omega)
  have hop : ∀ t', belowR 256 (lebI o ++ t', 0) = (o, (t', 0)) := fun t' => belowR_leb ho.1 (by omega) (by omega)
  have bb : ∀ {n : Nat} {r : List Int}, belowR n (r, 3) = (0, (r, 3)) := fun {n r} => belowR_bad (by simp)
  have ib : ∀ {r : List Int}, (intR (r, 3)).2 = (r, 3) := fun {r} => intR_bad (by simp)
  have ab : ∀ {k : Nat} {r : List Int}, (argsR k (r, 3)).2 = (r, 3) := fun {k r} => argsR_bad (by simp) k
  unfold encI at hc
  simp only at hc
  unfold insR
  replace hc := cut_app hc
  rcases hc with hc | ⟨r, rfl, hc⟩
  · rw [below_cut0 hc]
    simp [failR]
  rw [hk]
  rcases kk with rfl | rfl | rfl | rfl | rfl | rfl | rfl | rfl
  all_goals simp at hc ⊢
  · replace hc := cut_app hc
    rcases hc with hc | ⟨r, rfl, hc⟩
    · rw [below_cut0 hc]; simp [ib]
    · rw [hd.read]; exact (int_whole hn).cut _ hc
  · replace hc := cut_app hc
    rcases hc with hc | ⟨r, rfl, hc⟩
    · rw [below_cut0 hc]; simp [bb]
    · rw [hd.read]; exact ha.whole.cut _ hc
  · replace hc := cut_app hc
    rcases hc with hc | ⟨r, rfl, hc⟩
    · rw [below_cut0 hc]; simp [bb]
    · rw [hop]
      replace hc := cut_app hc
      rcases hc with hc | ⟨r, rfl, hc⟩
      · simp only; rw [below_cut0 hc]; simp [bb]
      · simp only; rw [hd.read]
        replace hc := cut_app hc
        rcases hc with hc | ⟨r, rfl, hc⟩
        · simp only; rw [below_cut0 hc]; simp [bb]
        · simp only; rw [ha.read]; exact hb.whole.cut _ hc
  · replace hc := cut_app hc
    rcases hc with hc | ⟨r, rfl, hc⟩
    · rw [below_cut0 hc]; simp [bb]
    · rw [hd.read]; exact ha.whole.cut _ hc
  · replace hc := cut_app hc
    rcases hc with hc | ⟨r, rfl, hc⟩
    · rw [below_cut0 hc]; simp [bb]
    · rw [ha.read]; exact hb.whole.cut _ hc
  · replace hc := cut_app hc
    rcases hc with hc | ⟨r, rfl, hc⟩
    · rw [below_cut0 hc]; simp [ib, bb, ab]
    · rw [hd.read]
      replace hc := cut_app hc
      rcases hc with hc | ⟨r, rfl, hc⟩
      · have h3 : (intR (r, 0)).2 = (r, 3) := by unfold intR; rw [numR_cut (zig_lt hn) hc]
        simp only; rw [h3]; simp [bb, ab]
      · simp only; rw [intR_leb hn]
        replace hc := cut_app hc
        rcases hc with hc | ⟨r, rfl, hc⟩
        · simp only; rw [below_cut0 hc]; simp [ab]
        · simp only; rw [belowR_leb (lim := 4) (by omega) (by omega) (by omega)]
          simp only [Int.toNat_natCast]
          exact args_cut hargs hc
  · replace hc := cut_app hc
    rcases hc with hc | ⟨r, rfl, hc⟩
    · rw [below_cut0 hc]; simp [bb]
    · rw [hd.read]; exact ha.whole.cut _ hc
  · replace hc := cut_app hc
    rcases hc with hc | ⟨r, rfl, hc⟩
    · rw [below_cut0 hc]; simp [bb]
    · rw [hd.read]; exact ha.whole.cut _ hc
theorem endR_cut {e : Fin4} {c : List Int} (h : FitE e) (hc : Cut c (encE e)) : (endR (c, 0)).2.2 = 3 := by
  obtain ⟨k, a, to, el⟩ := e
  unfold FitE at h
  simp only at h
  have hk : (1 ≤ k ∧ k ≤ 3) → ∀ t', belowR 256 (lebI k ++ t', 0) = (k, (t', 0)) := fun hk t' => belowR_leb (by omega) (by omega) (by omega)
  have bb : ∀ {n : Nat} {r : List Int}, belowR n (r, 3) = (0, (r, 3)) := fun {n r} => belowR_bad (by simp)
  unfold encE at hc
  simp only at hc
  unfold endR
  replace hc := cut_app hc
  rcases hc with hc | ⟨r, rfl, hc⟩
  · rw [below_cut0 hc]
    simp [failR]
  rcases h with ⟨rfl, rfl, h1, rfl⟩ | ⟨rfl, h1, h2, h3⟩ | ⟨rfl, h1, rfl, rfl⟩
  · rw [hk (by omega)]; simp at hc ⊢
    exact h1.whole.cut _ hc
  · rw [hk (by omega)]; simp at hc ⊢
    replace hc := cut_app hc
    rcases hc with hc | ⟨r, rfl, hc⟩
    · rw [below_cut0 hc]; simp [bb]
    · rw [h1.read]
      replace hc := cut_app hc
      rcases hc with hc | ⟨r, rfl, hc⟩
      · simp only; rw [below_cut0 hc]; simp [bb]
      · simp only; rw [h2.read]; exact h3.whole.cut _ hc
  · rw [hk (by omega)]; simp at hc ⊢
    exact h1.whole.cut _ hc
theorem insLR_cut : ∀ {l : List Ins} {c : List Int}, (∀ x ∈ l, FitI x) → Cut c (l.flatMap encI) → (insLR l.length (c, 0)).2.2 = 3
  | [], c, _, hc => (cut_nil hc).elim
  | x :: l, c, h, hc => by
    simp only [List.length_cons, insLR]
    rw [if_neg (by simp)]
    rw [List.flatMap_cons] at hc
    replace hc := cut_app hc
    rcases hc with hc | ⟨c', rfl, hc⟩
    · have h3 := insR_cut (h x (List.mem_cons_self ..)) hc
      simp only
      rw [insLR_bad (by rw [h3]; omega)]; exact h3
    · rw [insR_enc (h x (List.mem_cons_self ..))]
      exact insLR_cut (fun y hy => h y (List.mem_cons_of_mem _ hy)) hc
theorem blkR_cut {most : Nat} {b : Blk} {c : List Int} (hm : most ≤ 1000) (h : FitB most b) (hc : Cut c (encB b)) : (blkR most (c, 0)).2.2 = 3 := by
  obtain ⟨h1, h2, h3⟩ := h
  unfold encB at hc
  unfold blkR
  simp only
  replace hc := cut_app hc
  rcases hc with hc | ⟨c, rfl, hc⟩
  · rw [below_cut0 hc]
    simp only
    rw [insLR_bad (by simp), endR_bad (by simp)]
  · rw [belowR_leb (by omega) (by omega) (by omega)]
    simp only [Int.toNat_natCast]
    replace hc := cut_app hc
    rcases hc with hc | ⟨c, rfl, hc⟩
    · have h3 := insLR_cut h2 hc
      rw [endR_bad (by rw [h3]; omega)]; exact h3
    · rw [insLR_enc h2]
      exact endR_cut h3 hc
theorem blksR_cut {most : Nat} (hm : most ≤ 1000) : ∀ {l : List Blk} {c : List Int}, (∀ b ∈ l, FitB most b) → Cut c (l.flatMap encB) → (blksR most l.length (c, 0)).2.2 = 3
  | [], c, _, hc => (cut_nil hc).elim
  | b :: l, c, h, hc => by
    simp only [List.length_cons, blksR]
    rw [List.flatMap_cons] at hc
    replace hc := cut_app hc
    rcases hc with hc | ⟨c', rfl, hc⟩
    · have h3 := blkR_cut hm (h b (List.mem_cons_self ..)) hc
      rw [if_pos (by rw [h3]; omega)]; exact h3
    · rw [blkR_enc hm (h b (List.mem_cons_self ..))]
      have h3 := blksR_cut hm (fun y hy => h y (List.mem_cons_of_mem _ hy)) hc
      simp only
      rw [if_neg (by simp), if_pos (by rw [h3]; omega)]; exact h3
theorem readBs_cut {most : Nat} {l : List Blk} {c : List Int} (hm : most ≤ 1000) (hl : l.length ≤ 16) (h : ∀ b ∈ l, FitB most b) (hc : Cut c (encBs l)) : (readBs most (c, 0)).2.2 = 3 := by
  unfold readBs
  unfold encBs at hc
  replace hc := cut_app hc
  rcases hc with hc | ⟨c, rfl, hc⟩
  · rw [below_cut0 hc]; rfl
  · rw [belowR_leb (by omega) (by omega) (by omega)]
    simp only [Int.toNat_natCast]
    exact blksR_cut hm h hc
theorem endS_bad {s : RS} (h : s.2 = 3) : endS s = 3 := by
  unfold endS
  split
  · rw [failR_bad (by rw [h]; omega)]; exact h
  · exact h
theorem readF_enc {p n : Int} {bs : List Blk} (h : (checkM p n bs).1 = 0) (hb : NB bs) : readF (encF p n bs) = ((p, n, bs), 0) := by
  obtain ⟨a1, a2, a3, a4⟩ := checkM_fit h hb
  have e3 := readBs_enc (t := []) (by omega : 32 ≤ 1000) a3 a4
  rw [List.append_nil] at e3
  unfold readF encF
  simp only [a1.read, a2.read, e3]
  simp [endS, h]
theorem readF_more {p n : Int} {bs : List Blk} (h : (checkM p n bs).1 = 0) (hb : NB bs) : (readF (encF p n bs ++ [0])).2 = 5 := by
  obtain ⟨a1, a2, a3, a4⟩ := checkM_fit h hb
  have e3 := readBs_enc (t := [0]) (by omega : 32 ≤ 1000) a3 a4
  unfold readF encF
  simp only [List.append_assoc, a1.read, a2.read, e3]
  simp [endS, failR]
theorem readF_cut {p n : Int} {bs : List Blk} {c : List Int} (h : (checkM p n bs).1 = 0) (hb : NB bs) (hc : Cut c (encF p n bs)) : (readF c).2 = 3 := by
  obtain ⟨a1, a2, a3, a4⟩ := checkM_fit h hb
  have key : ∀ s : RS, s = (readBs 32 (belowR 4096 (belowR 4096 (c, 0)).2).2).2 → s.2 = 3 → (readF c).2 = 3 := fun s hs h3 => by
    unfold readF
    simp only
    rw [← hs, endS_bad h3]
    simp
  refine key _ rfl ?_
  unfold encF at hc
  replace hc := cut_app hc
  rcases hc with hc | ⟨c, rfl, hc⟩
  · rw [below_cut0 hc]
    simp only
    rw [belowR_bad (by simp), readBs_bad (by simp)]
  · rw [a1.read]
    simp only
    replace hc := cut_app hc
    rcases hc with hc | ⟨c, rfl, hc⟩
    · rw [below_cut0 hc]
      simp only
      rw [readBs_bad (by simp)]
    · rw [a2.read]
      exact readBs_cut (by omega) a3 a4 hc
theorem readC_enc {p r s : Int} {bs : List Blk} (h : (mcheckM p r s bs).1 = 0) (hb : NB bs) : readC (encC p r s bs) = ((p, r, s, bs), 0) := by
  obtain ⟨a1, a2, a2', a3, a4⟩ := mcheckM_fit h hb
  have e3 := readBs_enc (t := []) (by omega : 400 ≤ 1000) a3 a4
  rw [List.append_nil] at e3
  unfold readC encC
  simp only [a1.read, a2.read, a2'.read, e3]
  simp [endS, h]
theorem readC_more {p r s : Int} {bs : List Blk} (h : (mcheckM p r s bs).1 = 0) (hb : NB bs) : (readC (encC p r s bs ++ [0])).2 = 5 := by
  obtain ⟨a1, a2, a2', a3, a4⟩ := mcheckM_fit h hb
  have e3 := readBs_enc (t := [0]) (by omega : 400 ≤ 1000) a3 a4
  unfold readC encC
  simp only [List.append_assoc, a1.read, a2.read, a2'.read, e3]
  simp [endS, failR]
theorem readC_cut {p r s : Int} {bs : List Blk} {c : List Int} (h : (mcheckM p r s bs).1 = 0) (hb : NB bs) (hc : Cut c (encC p r s bs)) : (readC c).2 = 3 := by
  obtain ⟨a1, a2, a2', a3, a4⟩ := mcheckM_fit h hb
  have key : ∀ s : RS, s = (readBs 400 (belowR 4096 (belowR 4096 (belowR 4096 (c, 0)).2).2).2).2 → s.2 = 3 → (readC c).2 = 3 := fun s hs h3 => by
    unfold readC
    simp only
    rw [← hs, endS_bad h3]
    simp
  refine key _ rfl ?_
  unfold encC at hc
  replace hc := cut_app hc
  rcases hc with hc | ⟨c, rfl, hc⟩
  · rw [below_cut0 hc]
    simp only
    have b3 : ∀ (n : Nat) (r : List Int), belowR n (r, 3) = (0, (r, 3)) := fun n r => belowR_bad (by simp)
    rw [b3, b3, readBs_bad (by simp)]
  · rw [a1.read]
    simp only
    replace hc := cut_app hc
    rcases hc with hc | ⟨c, rfl, hc⟩
    · rw [below_cut0 hc]
      simp only
      rw [belowR_bad (by simp), readBs_bad (by simp)]
    · rw [a2.read]
      simp only
      replace hc := cut_app hc
      rcases hc with hc | ⟨c, rfl, hc⟩
      · rw [below_cut0 hc]
        simp only
        rw [readBs_bad (by simp)]
      · rw [a2'.read]
        exact readBs_cut (by omega) a3 a4 hc
end Go.Proofs.Ythnoplfjcdkacaa
