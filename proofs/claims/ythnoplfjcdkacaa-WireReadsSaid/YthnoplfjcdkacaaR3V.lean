/-
  The document's reader: ends and instructions, walked. Conditions: as each lemma says.
-/
import Derived.Test.YthnoplfjcdkacaaR3U
set_option linter.unusedVariables false
set_option linter.unusedSimpArgs false
namespace Go.Proofs.Ythnoplfjcdkacaa
open Go

/-! ### What is read -/
def endU (kv : Int) (s : RS) : Fin4 × RS :=
  let a := if kv = 2 ∨ kv = 3 then belowR 4096 s else (0, s)
  let t := if kv ≠ 3 then belowR 4096 a.2 else (0, a.2)
  let e := if kv = 2 then belowR 4096 t.2 else (0, t.2)
  (⟨kv, a.1, t.1, e.1⟩, e.2)
def badK (lim : Int) (k : Int × RS) : RS := if k.2.2 = 0 ∧ ¬ (1 ≤ k.1 ∧ k.1 ≤ lim) then failR 20 k.2 else k.2
theorem belowR_fst {n : Nat} {s : RS} (h : (belowR n s).2.2 ≠ 0) : (belowR n s).1 = 0 := Decidable.byContradiction fun q => h (belowR_ok q)
theorem failR_n20 (s : RS) : (failR 20 s).2 ≠ 0 := by unfold failR; split <;> simp_all
theorem failR_id {s : RS} (h : s.2 ≠ 0) : failR 20 s = s := by unfold failR; rw [if_neg h]
theorem endR_U (s : RS) : endR s = endU (belowR 256 s).1 (badK 3 (belowR 256 s)) := by
  have hf := belowR_fst (n := 256) (s := s)
  generalize hk : belowR 256 s = k at hf
  unfold endR
  simp only [hk]
  by_cases h0 : k.2.2 = 0
  · by_cases h1 : k.1 = 1
    · have : badK 3 k = k.2 := by unfold badK; rw [if_neg (by omega)]
      rw [if_pos h1, this]; unfold endU; simp [h1]
    · by_cases h2 : k.1 = 2
      · have : badK 3 k = k.2 := by unfold badK; rw [if_neg (by omega)]
        rw [if_neg h1, if_pos h2, this]; unfold endU; simp [h2]
      · by_cases h3 : k.1 = 3
        · have : badK 3 k = k.2 := by unfold badK; rw [if_neg (by omega)]
          rw [if_neg h1, if_neg h2, if_pos h3, this]; unfold endU; simp [h3]
        · have : badK 3 k = failR 20 k.2 := by unfold badK; rw [if_pos (by omega)]
          rw [if_neg h1, if_neg h2, if_neg h3, this]
          have hb := failR_n20 k.2
          unfold endU
          simp [h2, h3, belowR_bad hb]
  · have hz := hf h0
    have : badK 3 k = k.2 := by unfold badK; rw [if_neg (by omega)]
    rw [if_neg (by omega), if_neg (by omega), if_neg (by omega), this, failR_id h0]
    unfold endU
    simp [hz, belowR_bad h0]
def stepF (c : Nat) (p : Ins × RS) : Ins × RS :=
  if c = 79 then ({ p.1 with op := (belowR 256 p.2).1 }, (belowR 256 p.2).2)
  else if c = 68 then ({ p.1 with d := (belowR 4096 p.2).1 }, (belowR 4096 p.2).2)
  else if c = 65 then ({ p.1 with a := (belowR 4096 p.2).1 }, (belowR 4096 p.2).2)
  else if c = 66 then ({ p.1 with b := (belowR 4096 p.2).1 }, (belowR 4096 p.2).2)
  else if c = 78 then ({ p.1 with n := (intR p.2).1 }, (intR p.2).2)
  else ({ p.1 with args := p.1.args ++ (argsR (belowR 4 p.2).1.toNat (belowR 4 p.2).2).1 }, (argsR (belowR 4 p.2).1.toNat (belowR 4 p.2).2).2)
def foldF (nm : ByteArray) (j : Nat) (p : Ins × RS) : Ins × RS := (nm.data.toList.take j).foldl (fun p c => stepF c.toNat p) p
theorem insR_F {s : RS} {kn : Nat} {nm : ByteArray} (hk : (belowR 256 s).1 = (kn : Int)) (h1 : 1 ≤ kn) (hs : namesL[kn]? = some nm) : insR s = foldF nm nm.size (⟨kn, 0, 0, 0, 0, 0, []⟩, (belowR 256 s).2) := by
  have hk9 : kn < 9 := (List.getElem?_eq_some_iff.1 hs).1
  have : kn = 1 ∨ kn = 2 ∨ kn = 3 ∨ kn = 4 ∨ kn = 5 ∨ kn = 6 ∨ kn = 7 ∨ kn = 8 := by omega
  unfold insR foldF
  simp only [hk]
  rcases this with rfl | rfl | rfl | rfl | rfl | rfl | rfl | rfl <;> (cases hs; simp [stepF, ByteArray.size])
theorem stepF_len (c : Nat) (p : Ins × RS) : (stepF c p).2.1.length ≤ p.2.1.length ∧ (stepF c p).1.args.length ≤ p.1.args.length + 3 := by
  have b := fun n => belowR_len n p.2
  have hr := belowR_range 4 p.2
  have h4 := argsR_len (belowR 4 p.2).1.toNat (belowR 4 p.2).2
  have h5 := intR_len p.2
  have b1 := b 256
  have b2 := b 4096
  have b3 := b 4
  unfold stepF
  split
  · simp only; omega
  · split
    · simp only; omega
    · split
      · simp only; omega
      · split
        · simp only; omega
        · split
          · simp only; omega
          · simp only [List.length_append]; omega
theorem foldF_succ {nm : ByteArray} {j : Nat} {c : UInt8} {p : Ins × RS} (hc : nm.data.toList[j]? = some c) : foldF nm (j + 1) p = stepF c.toNat (foldF nm j p) := by
  unfold foldF
  rw [List.take_add_one, hc, List.foldl_append]; rfl
theorem foldF_len (nm : ByteArray) (p : Ins × RS) : ∀ j, (foldF nm j p).2.1.length ≤ p.2.1.length ∧ (foldF nm j p).1.args.length ≤ p.1.args.length + 3 * j
  | 0 => by simp [foldF]
  | j + 1 => by
    obtain ⟨h1, h2⟩ := foldF_len nm p j
    cases hc : nm.data.toList[j]? with
    | none =>
      have : foldF nm (j + 1) p = foldF nm j p := by unfold foldF; rw [List.take_add_one, hc]; simp
      rw [this]; omega
    | some c =>
      rw [foldF_succ hc]
      have := stepF_len c.toNat (foldF nm j p)
      omega
theorem foldF_kind (nm : ByteArray) (p : Ins × RS) (j : Nat) : (foldF nm j p).1.kind = p.1.kind := by
  unfold foldF
  generalize nm.data.toList.take j = l
  induction l generalizing p with
  | nil => rfl
  | cons c l ih =>
    rw [List.foldl_cons, ih]
    unfold stepF
    split
    · rfl
    · split
      · rfl
      · split
        · rfl
        · split
          · rfl
          · split <;> rfl

/-! ### The walk -/
section
variable {R : Value → List (List Value) → H → Prop} {G : List Value} {L : Lv} {h : H} {w : Value} {s : RS}
theorem rdK_step {lim b : Nat} {k : Out} (h1 : 1 ≤ lim) (h2 : lim ≤ 1000000) (hb : gv G b = w) (hc : gv G (b + 1) = .int .i64 s.2) (hw : BytesAt h w s.1) (hl : s.1.length ≤ 1000000000)
    (HK : ∀ v', (∀ g, BytesAt g w s.1 → BytesAt g v' (belowR lim s).2.1) → holds Try.prog R k (G ++ [v', .int .i64 (belowR lim s).2.2, .int .i64 (belowR lim s).1]) L h) : holds Try.prog R (rdK lim b k) G L h := by
  unfold rdK
  refine rd_step (s := s) (v := w) hb (by simp only [X.den, hc, vi_int]) rfl h1 h2 hw hl HK
theorem flK_step {b : Nat} {k : Out} (hb : gv G b = w) (hc : gv G (b + 1) = .int .i64 s.2) (hw : BytesAt h w s.1)
    (HK : ∀ v', (∀ g, BytesAt g w s.1 → BytesAt g v' (failR 20 s).1) → holds Try.prog R k (G ++ [v', .int .i64 (failR 20 s).2]) L h) : holds Try.prog R (flK b k) G L h := by
  unfold flK
  refine h_call1 (Q := fun r c h' => h' = h ∧ r = .tuple #[] ∧ RdC w s.1 c (failR 20 s)) ?_ ?_
  · have := s70k (c := 20) hw
    have hk : kIdx [1000000] 1000000 = 0 := by simp [kIdx]
    simp only [SV.denL, SV.den, X.den, hk, hb, hc, vi_int]
    exact this
  · rintro _ _ g ⟨eg, rfl, v', rfl, hv'⟩
    have eg' := eg.symm
    subst eg'
    exact ⟨⟨(hv' _ hw).fit, ⟨_, rfl⟩, trivial⟩, [], trivial, rfl, by simpa using HK v' hv'⟩
/-- Where a block is laid behind the others. -/
def Leaf (R : Value → List (List Value) → H → Prop) (G : List Value) (L : Lv) (h : H) (kv : Int) (w : Value) (s : RS) (p : Fin4 × RS) : Prop :=
  ∀ (D : List Value) (kd b m : Nat) (a t e : X) (w' : Value), (G ++ D).length = m → gv (G ++ D) kd = .int .i64 kv → vi (a.den (G ++ D)) = p.1.a → vi (t.den (G ++ D)) = p.1.to → vi (e.den (G ++ D)) = p.1.el → gv (G ++ D) b = w' → gv (G ++ D) (b + 1) = .int .i64 p.2.2 →
    (∀ g, BytesAt g w s.1 → BytesAt g w' p.2.1) → holds Try.prog R (apB kd a t e b m) (G ++ D) L h
theorem gv_hi {D : List Value} {m : Nat} (hm : G.length = m) (k : Nat) : gv (G ++ D) (m + k) = gv D k := gv_at (by rw [hm])
theorem gv_hi0 {D : List Value} {m : Nat} (hm : G.length = m) : gv (G ++ D) m = gv D 0 := gv_at (j := 0) (by rw [hm]; rfl)
theorem u8_id {n : Int} (h0 : 0 ≤ n) (h1 : n < 256) : IntKind.u8.wrap n = n := wrap_u8 h0 (by omega)
theorem takes_holds {kd b m : Nat} {kv : Int} (hk0 : 0 ≤ kv) (hk1 : kv < 256) (hm : G.length = m) (hkm : kd < m) (hbm : b + 1 < m) (hk : gv G kd = .int .i64 kv) (hb : gv G b = w) (hc : gv G (b + 1) = .int .i64 s.2) (hw : BytesAt h w s.1) (hl : s.1.length ≤ 1000000000)
    (LF : Leaf R G L h kv w s (endU kv s)) : holds Try.prog R (takesT kd b m) G L h := by
  have bl := fun n s => belowR_len n s
  have kk : ∀ D : List Value, gv (G ++ D) kd = .int .i64 kv := fun D => by rw [gv_of_lt (by omega)]; exact hk
  have kw := u8_id hk0 hk1
  -- from the last number on
  have el : ∀ (D : List Value) (m' b' : Nat) (aX tX : X) (w' : Value) (s' : RS), (G ++ D).length = m' → (∀ E, vi (aX.den (G ++ D ++ E)) = (endU kv s).1.a) → (∀ E, vi (tX.den (G ++ D ++ E)) = (endU kv s).1.to) → gv (G ++ D) b' = w' → gv (G ++ D) (b' + 1) = .int .i64 s'.2 → (∀ g, BytesAt g w s.1 → BytesAt g w' s'.1) → s'.1.length ≤ 1000000000 →
      (endU kv s).1.el = (if kv = 2 then belowR 4096 s' else (0, s')).1 → (endU kv s).2 = (if kv = 2 then belowR 4096 s' else (0, s')).2 → holds Try.prog R (elT kd aX tX b' m') (G ++ D) L h := by
    intro D m' b' aX tX w' s' hm' ha ht hb' hc' hw' hl' e1 e2
    refine h_ite (fun q => ?_) (fun q => ?_)
    · simp only [X.den, kk, vi_int, vb_bool, kw, cmp_eql, decide_eq_true_eq] at q
      rw [if_pos q] at e1 e2
      refine rdK_step (s := s') (by omega) (by omega) hb' hc' (hw' _ hw) hl' fun v' hv' => ?_
      rw [List.append_assoc]
      refine LF _ kd m' (m' + 3) aX tX (.var (m' + 2)) v' (by rw [← List.append_assoc, List.length_append, hm']; rfl) (kk _) ?_ ?_ ?_ ?_ ?_ ?_
      · rw [← List.append_assoc]; exact ha _
      · rw [← List.append_assoc]; exact ht _
      · rw [← List.append_assoc]; simp only [X.den, gv_hi hm' 2, gv_succ, gv_zero, vi_int]; exact e1.symm
      · rw [← List.append_assoc]; exact gv_hi0 hm'
      · rw [← List.append_assoc, gv_hi hm' 1, e2]; rfl
      · intro g hg; rw [e2]; exact hv' g (hw' g hg)
    · simp only [X.den, kk, vi_int, vb_bool, kw, cmp_eql, decide_eq_false_iff_not] at q
      rw [if_neg q] at e1 e2
      have ha0 := ha []
      have ht0 := ht []
      rw [List.append_nil] at ha0 ht0
      exact LF D kd b' m' aX tX (.lit 0) w' hm' (kk _) ha0 ht0 (by rw [e1]; rfl) hb' (by rw [e2]; exact hc') (fun g hg => by rw [e2]; exact hw' g hg)
  have to : ∀ (D : List Value) (m' b' : Nat) (aX : X) (w' : Value) (s' : RS), (G ++ D).length = m' → b' + 1 < m' → (∀ E, vi (aX.den (G ++ D ++ E)) = (endU kv s).1.a) → gv (G ++ D) b' = w' → gv (G ++ D) (b' + 1) = .int .i64 s'.2 → (∀ g, BytesAt g w s.1 → BytesAt g w' s'.1) → s'.1.length ≤ 1000000000 →
      s' = (if kv = 2 ∨ kv = 3 then belowR 4096 s else (0, s)).2 → holds Try.prog R (toT kd aX b' m') (G ++ D) L h := by
    intro D m' b' aX w' s' hm' hbm' ha hb' hc' hw' hl' es
    refine h_ite (fun q => ?_) (fun q => ?_)
    · simp only [X.den, kk, vi_int, vb_bool, kw, cmp_neq, decide_eq_true_eq] at q
      refine rdK_step (s := s') (by omega) (by omega) hb' hc' (hw' _ hw) hl' fun v' hv' => ?_
      rw [List.append_assoc]
      refine el _ (m' + 3) m' aX (.var (m' + 2)) v' (belowR 4096 s').2 (by rw [← List.append_assoc, List.length_append, hm']; rfl) ?_ ?_ ?_ ?_ (fun g hg => hv' g (hw' g hg)) (by have := bl 4096 s'; omega) ?_ ?_
      · intro E; rw [← List.append_assoc, List.append_assoc]; exact ha _
      · intro E
        rw [← List.append_assoc, List.append_assoc]
        simp only [X.den, gv_hi hm' 2, List.cons_append, gv_succ, gv_zero, vi_int]
        unfold endU; simp only [← es, if_pos q]
      · rw [← List.append_assoc]; exact gv_hi0 hm'
      · rw [← List.append_assoc, gv_hi hm' 1]; rfl
      · unfold endU; simp only [← es, if_pos q]
      · unfold endU; simp only [← es, if_pos q]
    · simp only [X.den, kk, vi_int, vb_bool, kw, cmp_neq, decide_eq_false_iff_not, Decidable.not_not] at q
      have es' : s' = (belowR 4096 s).2 := by rw [es, if_pos (.inr q)]
      refine el D m' b' aX (.lit 0) w' s' hm' ha ?_ hb' hc' hw' hl' ?_ ?_
      · intro E; unfold endU; simp [q]; rfl
      · unfold endU; simp [es', q]
      · unfold endU; simp [es', q]
  refine h_call0 (Q := fun r h' => h' = h ∧ r = .bool (decide (kv = 2 ∨ kv = 3))) ?_ ?_
  · have := s61 (h := h) ⟨kv, 0, 0, 0⟩
    simp only [SV.denL, SV.den, X.den, hk, vi_int, kw]
    exact this
  rintro _ g ⟨eg, rfl⟩
  have eg' := eg.symm
  subst eg'
  refine ⟨[.bool (decide (kv = 2 ∨ kv = 3))], ⟨⟨_, rfl⟩, trivial⟩, rfl, h_ite (fun q => ?_) (fun q => ?_)⟩
  · simp only [X.den, gv_hi0 hm, gv_zero, vb_bool, decide_eq_true_eq] at q
    refine rdK_step (s := s) (w := w) (by omega) (by omega) (by rw [gv_of_lt (by omega)]; exact hb) (by rw [gv_of_lt (by omega)]; exact hc) hw hl fun v' hv' => ?_
    rw [List.append_assoc]
    refine to _ (m + 4) (m + 1) (.var (m + 3)) v' (belowR 4096 s).2 (by rw [List.length_append, hm]; rfl) (by omega) ?_ ?_ ?_ hv' (by have := bl 4096 s; omega) (by rw [if_pos q])
    · intro E
      rw [List.append_assoc]
      simp only [X.den, gv_hi hm 3, List.cons_append, List.nil_append, gv_succ, gv_zero, vi_int]
      unfold endU; simp only [if_pos q]
    · rw [gv_hi hm 1]; rfl
    · rw [show m + 1 + 1 = m + 2 from rfl, gv_hi hm 2]; rfl
  · simp only [X.den, gv_hi0 hm, gv_zero, vb_bool, decide_eq_false_iff_not] at q
    refine to _ (m + 1) b (.lit 0) w s (by rw [List.length_append, hm]; rfl) (by omega) ?_ (by rw [gv_of_lt (by omega)]; exact hb) (by rw [gv_of_lt (by omega)]; exact hc) (fun g hg => hg) hl (by rw [if_neg q])
    intro E; unfold endU; simp only [if_neg q]; rfl
theorem badX_den {m lim : Nat} {v : Value} {k : Int × RS} (hm : G.length = m) (h0 : 0 ≤ k.1) (h1 : k.1 < 256) : vb ((badX m lim).den (G ++ [v, .int .i64 k.2.2, .int .i64 k.1])) = decide (k.2.2 = 0 ∧ ¬ (1 ≤ k.1 ∧ k.1 ≤ lim)) := by
  unfold badX
  simp only [X.den, gv_hi hm 1, gv_hi hm 2, gv_succ, gv_zero, vi_int, vb_bool, vb_ite, u8_id h0 h1, cmp_eql, cmp_lss, cmp_gtr, decide_eq_true_eq]
  by_cases q : k.2.2 = 0
  · rw [if_pos q]
    by_cases q1 : k.1 < 1
    · rw [if_pos q1]; simp [q]; omega
    · rw [if_neg q1]; simp [q]; omega
  · rw [if_neg q]; simp [q]
theorem k256 (s : RS) : 0 ≤ (belowR 256 s).1 ∧ (belowR 256 s).1 < 256 := by have := belowR_range 256 s; omega
theorem end_holds {b m : Nat} (hm : G.length = m) (hbm : b + 1 < m) (hb : gv G b = w) (hc : gv G (b + 1) = .int .i64 s.2) (hw : BytesAt h w s.1) (hl : s.1.length ≤ 1000000000)
    (LF : Leaf R G L h (belowR 256 s).1 w s (endR s)) : holds Try.prog R (endT b m) G L h := by
  have bl := belowR_len 256 s
  obtain ⟨k0, k1⟩ := k256 s
  rw [endR_U] at LF
  refine rdK_step (s := s) (by omega) (by omega) hb hc hw hl fun v' hv' => ?_
  have hm3 : (G ++ [v', .int .i64 (belowR 256 s).2.2, .int .i64 (belowR 256 s).1]).length = m + 3 := by rw [List.length_append, hm]; rfl
  have lf : ∀ (D : List Value) (w1 : Value) (s1 : RS), (∀ g, BytesAt g w s.1 → BytesAt g w1 s1.1) → s1 = badK 3 (belowR 256 s) → Leaf R (G ++ D) L h (belowR 256 s).1 w1 s1 (endU (belowR 256 s).1 s1) := by
    intro D w1 s1 h1 e D' kd b' m' a t e' w' q1 q2 q3 q4 q5 q6 q7 q8
    rw [List.append_assoc] at q1 q2 q3 q4 q5 q6 q7 ⊢
    subst e
    exact LF (D ++ D') kd b' m' a t e' w' q1 q2 q3 q4 q5 q6 q7 fun g hg => q8 g (h1 g hg)
  refine h_ite (fun q => ?_) (fun q => ?_)
  · rw [badX_den hm k0 k1, decide_eq_true_eq] at q
    refine flK_step (s := (belowR 256 s).2) (w := v') (gv_hi0 hm) (gv_hi hm 1) (hv' _ hw) fun v'' hv'' => ?_
    rw [List.append_assoc]
    refine takes_holds k0 k1 (by rw [List.length_append, hm]; rfl) (by omega) (by omega) (gv_hi hm 2) (w := v'') (s := failR 20 (belowR 256 s).2) (gv_hi hm 3) (gv_hi hm 4) (hv'' _ (hv' _ hw)) (by rw [failR_len]; omega) ?_
    refine lf _ v'' _ (fun g hg => hv'' g (hv' g hg)) ?_
    exact (if_pos q).symm
  · rw [badX_den hm k0 k1, decide_eq_false_iff_not] at q
    refine takes_holds k0 k1 hm3 (by omega) (by omega) (gv_hi hm 2) (w := v') (s := (belowR 256 s).2) (gv_hi0 hm) (gv_hi hm 1) (hv' _ hw) (by omega) ?_
    refine lf _ v' _ hv' ?_
    exact (if_neg q).symm
end
end Go.Proofs.Ythnoplfjcdkacaa
