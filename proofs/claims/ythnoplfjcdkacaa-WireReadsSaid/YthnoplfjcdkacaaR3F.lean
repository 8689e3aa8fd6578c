/-
  Bytes read back: what reading is, and that what was written is read as it was. Conditions: none (definitions and plain lemmas).
-/
import Derived.Test.YthnoplfjcdkacaaR3C
set_option linter.unusedVariables false
set_option linter.unusedSimpArgs false
namespace Go.Proofs.Ythnoplfjcdkacaa
open Go

/-! ### A reader: the bytes that are left, the first fault -/
abbrev RS := List Int × Int
def failR (c : Int) (s : RS) : RS := if s.2 = 0 then (s.1, c) else s
def numA : Nat → Nat → List Int → Int × Nat × List Int
  | _, _, [] => (3, 0, [])
  | i, n, c :: t => if (i = 9 ∧ 1 < c) ∨ (0 < i ∧ c = 0) then (8, 0, []) else if c < 128 then (0, n + c.toNat * 128 ^ i, t) else numA (i + 1) (n + (c - 128).toNat * 128 ^ i) t
def numR (s : RS) : Nat × RS := if s.2 ≠ 0 then (0, s) else if (numA 0 0 s.1).1 = 0 then ((numA 0 0 s.1).2.1, ((numA 0 0 s.1).2.2, 0)) else (0, (s.1, (numA 0 0 s.1).1))
def belowR (lim : Nat) (s : RS) : Int × RS := if (numR s).2.2 ≠ 0 then (0, (numR s).2) else if lim ≤ (numR s).1 then (0, ((numR s).2.1, 2)) else (((numR s).1 : Nat), (numR s).2)
def zag (n : Nat) : Int := if n % 2 = 1 then -((n / 2 : Nat) : Int) - 1 else ((n / 2 : Nat) : Int)
def intR (s : RS) : Int × RS := (zag (numR s).1, (numR s).2)
def argsR : Nat → RS → List Int × RS
  | 0, s => ([], s)
  | k + 1, s => ((belowR 4096 s).1 :: (argsR k (belowR 4096 s).2).1, (argsR k (belowR 4096 s).2).2)
def insR (s : RS) : Ins × RS :=
  let k := belowR 256 s
  if k.1 = 1 then let d := belowR 4096 k.2; let n := intR d.2; (⟨1, 0, d.1, 0, 0, n.1, []⟩, n.2)
  else if k.1 = 2 ∨ k.1 = 4 ∨ k.1 = 7 ∨ k.1 = 8 then let d := belowR 4096 k.2; let a := belowR 4096 d.2; (⟨k.1, 0, d.1, a.1, 0, 0, []⟩, a.2)
  else if k.1 = 3 then let o := belowR 256 k.2; let d := belowR 4096 o.2; let a := belowR 4096 d.2; let b := belowR 4096 a.2; (⟨3, o.1, d.1, a.1, b.1, 0, []⟩, b.2)
  else if k.1 = 5 then let a := belowR 4096 k.2; let b := belowR 4096 a.2; (⟨5, 0, 0, a.1, b.1, 0, []⟩, b.2)
  else if k.1 = 6 then let d := belowR 4096 k.2; let n := intR d.2; let c := belowR 4 n.2; let r := argsR c.1.toNat c.2; (⟨6, 0, d.1, 0, 0, n.1, r.1⟩, r.2)
  else (⟨k.1, 0, 0, 0, 0, 0, []⟩, failR 20 k.2)
def endR (s : RS) : Fin4 × RS :=
  let k := belowR 256 s
  if k.1 = 1 then let t := belowR 4096 k.2; (⟨1, 0, t.1, 0⟩, t.2)
  else if k.1 = 2 then let a := belowR 4096 k.2; let t := belowR 4096 a.2; let e := belowR 4096 t.2; (⟨2, a.1, t.1, e.1⟩, e.2)
  else if k.1 = 3 then let a := belowR 4096 k.2; (⟨3, a.1, 0, 0⟩, a.2)
  else (⟨k.1, 0, 0, 0⟩, failR 20 k.2)
def insLR : Nat → RS → List Ins × RS
  | 0, s => ([], s)
  | k + 1, s => if s.2 ≠ 0 then ([], s) else ((insR s).1 :: (insLR k (insR s).2).1, (insLR k (insR s).2).2)
def blkR (most : Nat) (s : RS) : Blk × RS :=
  let m := belowR (most + 1) s
  let l := insLR m.1.toNat m.2
  let e := endR l.2
  (⟨l.1, e.1⟩, e.2)
def blksR (most : Nat) : Nat → RS → List Blk × RS
  | 0, s => ([], s)
  | k + 1, s => if (blkR most s).2.2 ≠ 0 then ([], (blkR most s).2) else if (blksR most k (blkR most s).2).2.2 ≠ 0 then ([], (blksR most k (blkR most s).2).2)
    else ((blkR most s).1 :: (blksR most k (blkR most s).2).1, (blksR most k (blkR most s).2).2)
def readBs (most : Nat) (s : RS) : List Blk × RS := blksR most (belowR 17 s).1.toNat (belowR 17 s).2
/-- What is left at the end. -/
def endS (s : RS) : Int := if s.1 ≠ [] then (failR 5 s).2 else s.2

/-! ### What was written is read -/
theorem numA_leb : ∀ (m : Nat) (i a : Nat) (t : List Int), m * 128 ^ i < 18446744073709551616 → (0 < i → m ≠ 0) → numA i a (leb m ++ t) = (0, a + m * 128 ^ i, t) := by
  intro m
  induction m using Nat.strongRecOn with
  | _ m ih =>
    intro i a t hm hi
    have h9 : i = 9 → m ≤ 1 := fun e => by
      subst e
      rw [show (128 : Nat) ^ 9 = 9223372036854775808 by decide] at hm
      omega
    by_cases hlt : m < 128
    · rw [leb_lt hlt, List.cons_append, List.nil_append, numA, if_neg (by
        rintro (⟨e, h⟩ | ⟨e, h⟩)
        · have := h9 e; omega
        · exact hi e (by omega)), if_pos (by omega), Int.toNat_natCast]
    · rw [leb_ge (by omega), List.cons_append, numA, if_neg (by
        rintro (⟨e, h⟩ | ⟨e, h⟩)
        · have := h9 e; omega
        · omega), if_neg (by omega)]
      have e1 : (((m % 128 + 128 : Nat) : Int) - 128).toNat = m % 128 := by omega
      have e2 : m * 128 ^ i = m % 128 * 128 ^ i + m / 128 * 128 ^ (i + 1) := by
        rw [Nat.pow_succ, Nat.mul_comm (128 ^ i) 128, ← Nat.mul_assoc, ← Nat.add_mul, show m % 128 + m / 128 * 128 = m by omega]
      have hlt2 : m / 128 * 128 ^ (i + 1) < 18446744073709551616 := by
        rw [e2] at hm; exact Nat.lt_of_le_of_lt (Nat.le_add_left _ _) hm
      have h3 := ih (m / 128) (by omega) (i + 1) (a + m % 128 * 128 ^ i) t hlt2 (fun _ => by omega)
      rw [e1, h3, e2]
      exact congrArg (fun z => ((0 : Int), z, t)) (Nat.add_assoc a (m % 128 * 128 ^ i) (m / 128 * 128 ^ (i + 1)))
theorem numR_leb {m : Nat} {t : List Int} (hm : m < 18446744073709551616) : numR (leb m ++ t, 0) = (m, (t, 0)) := by
  unfold numR
  rw [numA_leb m 0 0 t (by simpa using hm) (fun h => absurd h (by omega))]
  simp
theorem belowR_leb {n : Int} {lim : Nat} {t : List Int} (h0 : 0 ≤ n) (h1 : n < lim) (hl : lim ≤ 1000000) : belowR lim (lebI n ++ t, 0) = (n, (t, 0)) := by
  unfold belowR lebI
  rw [numR_leb (u64_lt n), u64_of h0 (by omega)]
  rw [if_neg (by simp), if_neg (by simp only; omega)]
  simp only
  congr 1; omega
theorem zag_zig {n : Int} (h : N64 n) : zag (zig n) = n := by
  unfold zag zig
  split <;> split <;> omega
theorem intR_leb {n : Int} {t : List Int} (h : N64 n) : intR (leb (zig n) ++ t, 0) = (n, (t, 0)) := by
  unfold intR
  rw [numR_leb (zig_lt h), zag_zig h]
/-- Numbers that the wire takes. -/
def Wire (n : Int) : Prop := 0 ≤ n ∧ n < 4096
theorem Wire.read {n : Int} {t : List Int} (h : Wire n) : belowR 4096 (lebI n ++ t, 0) = (n, (t, 0)) := belowR_leb h.1 (by have := h.2; omega) (by omega)
def FitI (x : Ins) : Prop := (1 ≤ x.kind ∧ x.kind ≤ 8) ∧ plainR x ∧ (0 ≤ x.op ∧ x.op < 256) ∧ Wire x.d ∧ Wire x.a ∧ Wire x.b ∧ N64 x.n ∧ x.args.length ≤ 3 ∧ ∀ y ∈ x.args, Wire y
def FitE (e : Fin4) : Prop := (e.kind = 1 ∧ e.a = 0 ∧ Wire e.to ∧ e.el = 0) ∨ (e.kind = 2 ∧ Wire e.a ∧ Wire e.to ∧ Wire e.el) ∨ (e.kind = 3 ∧ Wire e.a ∧ e.to = 0 ∧ e.el = 0)
def FitB (most : Nat) (b : Blk) : Prop := b.ins.length ≤ most ∧ (∀ x ∈ b.ins, FitI x) ∧ FitE b.en
theorem args_read : ∀ {l : List Int} {t : List Int}, (∀ y ∈ l, Wire y) → argsR l.length (l.flatMap lebI ++ t, 0) = (l, (t, 0))
  | [], t, _ => rfl
  | n :: l, t, h => by
    simp only [List.length_cons, argsR, List.flatMap_cons, List.append_assoc]
    rw [(h n (List.mem_cons_self ..)).read]
    simp only
    rw [args_read fun y hy => h y (List.mem_cons_of_mem _ hy)]
theorem insR_enc {x : Ins} {t : List Int} (h : FitI x) : insR (encI x ++ t, 0) = (x, (t, 0)) := by
  obtain ⟨k, o, d, a, b, n, args⟩ := x
  obtain ⟨⟨k1, k8⟩, pl, ho, hd, ha, hb, hn, hl, hargs⟩ := h
  simp only at k1 k8 ho hd ha hb hn hl hargs
  unfold plainR at pl
  simp only at pl
  have kk : k = 1 ∨ k = 2 ∨ k = 3 ∨ k = 4 ∨ k = 5 ∨ k = 6 ∨ k = 7 ∨ k = 8 := by omega
  have hk : ∀ t', belowR 256 (lebI k ++ t', 0) = (k, (t', 0)) := fun t' => belowR_leb (by omega) (by omega) (by omega)
  have hop : ∀ t', belowR 256 (lebI o ++ t', 0) = (o, (t', 0)) := fun t' => belowR_leb ho.1 (by omega) (by omega)
  unfold insR encI
  simp only [List.append_assoc]
  rw [hk]
  rcases kk with rfl | rfl | rfl | rfl | rfl | rfl | rfl | rfl
  · simp at pl ⊢
    rw [hd.read]; simp only; rw [intR_leb hn]; simp [pl]
  · simp at pl ⊢
    rw [hd.read]; simp only; rw [ha.read]; simp [pl]
  · simp at pl ⊢
    rw [hop]; simp only; rw [hd.read]; simp only; rw [ha.read]; simp only; rw [hb.read]; simp [pl]
  · simp at pl ⊢
    rw [hd.read]; simp only; rw [ha.read]; simp [pl]
  · simp at pl ⊢
    rw [ha.read]; simp only; rw [hb.read]; simp [pl]
  · simp at pl ⊢
    rw [hd.read]; simp only; rw [intR_leb hn]; simp only; rw [belowR_leb (lim := 4) (by omega) (by omega) (by omega)]
    simp only [Int.toNat_natCast]; rw [args_read hargs]; simp [pl]
  · simp at pl ⊢
    rw [hd.read]; simp only; rw [ha.read]; simp [pl]
  · simp at pl ⊢
    rw [hd.read]; simp only; rw [ha.read]; simp [pl]
theorem endR_enc {e : Fin4} {t : List Int} (h : FitE e) : endR (encE e ++ t, 0) = (e, (t, 0)) := by
  obtain ⟨k, a, to, el⟩ := e
  unfold FitE at h
  simp only at h
  have hk : (1 ≤ k ∧ k ≤ 3) → ∀ t', belowR 256 (lebI k ++ t', 0) = (k, (t', 0)) := fun hk t' => belowR_leb (by omega) (by omega) (by omega)
  unfold endR encE
  simp only [List.append_assoc]
  rcases h with ⟨rfl, rfl, h1, rfl⟩ | ⟨rfl, h1, h2, h3⟩ | ⟨rfl, h1, rfl, rfl⟩
  · rw [hk (by omega)]; simp
    rw [h1.read]; simp
  · rw [hk (by omega)]; simp
    rw [h1.read]; simp only; rw [h2.read]; simp only; rw [h3.read]; simp
  · rw [hk (by omega)]; simp
    rw [h1.read]; simp
theorem insLR_enc : ∀ {l : List Ins} {t : List Int}, (∀ x ∈ l, FitI x) → insLR l.length (l.flatMap encI ++ t, 0) = (l, (t, 0))
  | [], t, _ => rfl
  | x :: l, t, h => by
    simp only [List.length_cons, insLR, List.flatMap_cons, List.append_assoc]
    rw [if_neg (by simp), insR_enc (h x (List.mem_cons_self ..))]
    simp only
    rw [insLR_enc fun y hy => h y (List.mem_cons_of_mem _ hy)]
theorem blkR_enc {most : Nat} {b : Blk} {t : List Int} (hm : most ≤ 1000) (h : FitB most b) : blkR most (encB b ++ t, 0) = (b, (t, 0)) := by
  obtain ⟨h1, h2, h3⟩ := h
  unfold blkR encB
  simp only [List.append_assoc]
  rw [belowR_leb (by omega) (by omega) (by omega)]
  simp only [Int.toNat_natCast]
  rw [insLR_enc h2]
  simp only
  rw [endR_enc h3]
theorem blksR_enc {most : Nat} (hm : most ≤ 1000) : ∀ {l : List Blk} {t : List Int}, (∀ b ∈ l, FitB most b) → blksR most l.length (l.flatMap encB ++ t, 0) = (l, (t, 0))
  | [], t, _ => rfl
  | b :: l, t, h => by
    simp only [List.length_cons, blksR, List.flatMap_cons, List.append_assoc]
    rw [blkR_enc hm (h b (List.mem_cons_self ..))]
    simp only
    rw [blksR_enc hm fun y hy => h y (List.mem_cons_of_mem _ hy)]
    simp
theorem readBs_enc {most : Nat} {l : List Blk} {t : List Int} (hm : most ≤ 1000) (hl : l.length ≤ 16) (h : ∀ b ∈ l, FitB most b) : readBs most (encBs l ++ t, 0) = (l, (t, 0)) := by
  unfold readBs encBs
  simp only [List.append_assoc]
  rw [belowR_leb (by omega) (by omega) (by omega)]
  simp only [Int.toNat_natCast]
  exact blksR_enc hm h

/-! ### What the checks take is taken by the wire -/
theorem fitI_of {x : Ins} {n s : Int} (hn : n ≤ 1000) (hs : s ≤ 1000) (h : insRM x n s = 0) (h64 : N64 x.n) : FitI x := by
  unfold insRM at h
  by_cases c1 : ¬ (1 ≤ x.kind ∧ x.kind ≤ (if 0 ≤ s then 8 else 6)) ∨ ¬ plainR x ∨ (x.kind = 3 ∧ ¬ (1 ≤ x.op ∧ x.op ≤ 7))
  · rw [if_pos c1] at h; omega
  rw [if_neg c1] at h
  by_cases c2 : 3 < x.args.length
  · rw [if_pos c2] at h; omega
  rw [if_neg c2] at h
  by_cases c3 : (namedM x).all (inR n) = false
  · rw [if_pos c3] at h
    unfold lowR at h
    split at h <;> omega
  rw [if_neg c3] at h
  by_cases c4 : (x.kind = 7 ∧ ¬ (0 ≤ x.d ∧ x.d < s)) ∨ (x.kind = 8 ∧ ¬ (0 ≤ x.a ∧ x.a < s))
  · rw [if_pos c4] at h; omega
  have g1 : 1 ≤ x.kind ∧ x.kind ≤ (if 0 ≤ s then 8 else 6) := Decidable.not_not.1 fun g => c1 (.inl g)
  have g2 : plainR x := Decidable.not_not.1 fun g => c1 (.inr (.inl g))
  have g3 : x.kind = 3 → 1 ≤ x.op ∧ x.op ≤ 7 := fun e => Decidable.not_not.1 fun g => c1 (.inr (.inr ⟨e, g⟩))
  have g8 : x.kind ≤ 8 := by have := g1.2; split at this <;> omega
  have nm : ∀ y ∈ namedM x, Wire y := fun y hy => by
    have := List.all_eq_true.1 (by simpa using c3) y hy
    simp only [inR, decide_eq_true_eq] at this
    exact ⟨this.1, by omega⟩
  have w0 : Wire 0 := ⟨by omega, by omega⟩
  have pl := g2
  unfold plainR at pl
  obtain ⟨q1, q2, q3, q4, q5, q6⟩ := pl
  simp only [namedM, usesM, givesM] at nm
  have kk : x.kind = 1 ∨ x.kind = 2 ∨ x.kind = 3 ∨ x.kind = 4 ∨ x.kind = 5 ∨ x.kind = 6 ∨ x.kind = 7 ∨ x.kind = 8 := by omega
  refine ⟨⟨g1.1, g8⟩, g2, ?_, ?_, ?_, ?_, h64, by omega, ?_⟩
  · rcases q1 with e | e
    · omega
    · have := g3 e; omega
  · rcases kk with e | e | e | e | e | e | e | e <;> simp [e] at nm q2 c4 <;> first | exact nm | exact nm.2 | exact nm.2.2 | (rw [q2]; exact w0) | exact ⟨c4.1, by omega⟩ | exact nm _ (.inr rfl)
  · rcases kk with e | e | e | e | e | e | e | e <;> simp [e] at nm q3 c4 <;> first | exact nm | exact nm.1 | (rw [q3]; exact w0) | exact ⟨c4.1, by omega⟩
  · rcases kk with e | e | e | e | e | e | e | e <;> simp [e] at nm q4 c4 <;> first | exact nm.2.1 | exact nm.2 | (rw [q4]; exact w0)
  · rcases q6 with e | e
    · rw [e]; intro y hy; cases hy
    · intro y hy; simp [e] at nm; exact nm y (.inl hy)
theorem fitE_of {e : Fin4} {n m vr : Int} (hn : n ≤ 1000) (hm : m ≤ 1000) (hv : vr ≠ 0) (h : endM e n m vr = 0) : FitE e := by
  unfold endM at h
  by_cases c1 : e.kind < 1 ∨ 3 < e.kind ∨ (e.kind = 1 ∧ e.a ≠ 0) ∨ (e.kind = 3 ∧ e.to ≠ 0) ∨ (e.kind ≠ 2 ∧ e.el ≠ 0)
  · rw [if_pos c1] at h; omega
  rw [if_neg c1] at h
  by_cases c2 : e.kind ≠ 1 ∧ ¬ (0 ≤ e.a ∧ e.a < n)
  · rw [if_pos c2] at h; omega
  rw [if_neg c2] at h
  by_cases c3 : (e.kind ≠ 3 ∧ ¬ (0 ≤ e.to ∧ e.to < m)) ∨ (e.kind = 2 ∧ ¬ (0 ≤ e.el ∧ e.el < m))
  · rw [if_pos c3] at h; omega
  unfold FitE Wire
  have kk : e.kind = 1 ∨ e.kind = 2 ∨ e.kind = 3 := by omega
  rcases kk with k | k | k
  · exact .inl ⟨k, by omega, by omega, by omega⟩
  · exact .inr (.inl ⟨k, by omega, by omega, by omega⟩)
  · exact .inr (.inr ⟨k, by omega, by omega, by omega⟩)
theorem checkM_fit {p n : Int} {bs : List Blk} (h : (checkM p n bs).1 = 0) (hb : NB bs) : Wire p ∧ Wire n ∧ bs.length ≤ 16 ∧ ∀ b ∈ bs, FitB 32 b := by
  unfold checkM at h
  split at h
  · simp at h
  · rename_i h1
    refine ⟨⟨by omega, by omega⟩, ⟨by omega, by omega⟩, by omega, fun b hbm => ?_⟩
    obtain ⟨k1, k2, k3⟩ := blkF_zero3 h b hbm
    exact ⟨k1, fun x hx => fitI_of (n := n) (s := -1) (by omega) (by omega) (by rw [insRM_ir x n]; exact k2 x hx) (hb b hbm x hx), fitE_of (by omega) (by omega) (by omega) k3⟩
theorem mcheckM_fit {p r s : Int} {bs : List Blk} (h : (mcheckM p r s bs).1 = 0) (hb : NB bs) : Wire p ∧ Wire r ∧ Wire s ∧ bs.length ≤ 16 ∧ ∀ b ∈ bs, FitB 400 b := by
  unfold mcheckM at h
  split at h
  · simp at h
  · rename_i h1
    refine ⟨⟨by omega, by omega⟩, ⟨by omega, by omega⟩, ⟨by omega, by omega⟩, by omega, fun b hbm => ?_⟩
    obtain ⟨k1, k2, k3⟩ := blkF_zero3 h b hbm
    exact ⟨k1, fun x hx => fitI_of (n := r) (s := s) (by omega) (by omega) (by rw [insRM_mach x r s (by omega) (by omega) (by omega)]; exact k2 x hx) (hb b hbm x hx), fitE_of (by omega) (by omega) (by omega) (mapE_zero3 k3)⟩
/-- Unlike functions have unlike bytes. -/
theorem encF_inj {p n p' n' : Int} {bs bs' : List Blk} (h : (checkM p n bs).1 = 0) (hb : NB bs) (h' : (checkM p' n' bs').1 = 0) (hb' : NB bs') (e : encF p n bs = encF p' n' bs') : p = p' ∧ n = n' ∧ bs = bs' := by
  obtain ⟨a1, a2, a3, a4⟩ := checkM_fit h hb
  obtain ⟨b1, b2, b3, b4⟩ := checkM_fit h' hb'
  unfold encF at e
  have e1 := congrArg (fun l => belowR 4096 (l, 0)) e
  simp only [a1.read, b1.read, Prod.mk.injEq, and_true] at e1
  have e2 := congrArg (fun l => belowR 4096 (l, 0)) e1.2
  simp only [a2.read, b2.read, Prod.mk.injEq, and_true] at e2
  have e3 := congrArg (fun l => readBs 32 (l ++ [], 0)) e2.2
  simp only [readBs_enc (by omega : 32 ≤ 1000) a3 a4, readBs_enc (by omega : 32 ≤ 1000) b3 b4, Prod.mk.injEq, and_true] at e3
  exact ⟨e1.1, e2.1, e3⟩
end Go.Proofs.Ythnoplfjcdkacaa
