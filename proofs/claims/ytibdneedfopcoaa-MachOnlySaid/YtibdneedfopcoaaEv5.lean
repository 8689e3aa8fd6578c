/-
  The evaluator's step at operations that only compute: operators, conversions, lengths, literals, pieces of slices; all kinds under one name. Conditions: none.
-/
import Derived.Test.YtibdneedfopcoaaEv4
import Derived.Laws.StructEq
set_option linter.unusedVariables false
set_option linter.unusedSimpArgs false
namespace Go.Proofs.Ytibdneedfopcoaa
open Go

section
variable {P : Program} {G : List Value} {E : Nat → CE} {st : St} {a : Act} {ty : TypeId}
theorem run_v {α : Type} {w : World} {s : Sem Value} {v : Value} (h : s.run P w = .ok v w) : (do let x ← s; pure (Next.value x) : Sem Next).run P w = .ok (.value v) w := by
  simp [h]
theorem wrap64_of (n : Int) (h1 : -9223372036854775808 ≤ n) (h2 : n ≤ 9223372036854775807) : IntKind.i64.wrap n = n := by
  unfold IntKind.wrap
  simp only [IntKind.bits, IntKind.signed, Bool.true_and]
  split <;> (rename_i h; simp at h; omega)

theorem equal_of {w : World} {t : TypeId} {x y : Value} {b : Bool} (h : ∀ d, (Op.equalIn (d + 1) t x y).run P w = .ok b w) : (Op.equal t x y).run P w = .ok b w := h 9999
theorem equal_bool {w : World} {t : TypeId} (hu : P.underlying t = some .bool) (x y : Bool) : (Op.equal t (.bool x) (.bool y)).run P w = .ok (x == y) w :=
  equal_of fun d => by simp only [Op.equalIn, Sem.run_bind, run_underlying hu, Result.andThen_ok, Sem.run_pure]
theorem equal_ptr {w : World} {t e : TypeId} (hu : P.underlying t = some (.pointer e)) (x : Option Addr) : (Op.equal t (.pointer x) (.pointer none)).run P w = .ok x.isNone w :=
  equal_of fun d => by cases x <;> simp only [Op.equalIn, Sem.run_bind, run_underlying hu, Result.andThen_ok, Sem.run_pure] <;> rfl
theorem equal_sl {w : World} {t e : TypeId} (hu : P.underlying t = some (.slice e)) (x : Option Addr) (n c n' c' : Nat) : (Op.equal t (.slice x n c) (.slice none n' c')).run P w = .ok x.isNone w :=
  equal_of fun d => by cases x <;> simp only [Op.equalIn, Sem.run_bind, run_underlying hu, Result.andThen_ok, Sem.run_pure] <;> rfl
theorem equal_map {w : World} {t k e : TypeId} (hu : P.underlying t = some (.map k e)) (x : Option Nat) : (Op.equal t (.map x) (.map none)).run P w = .ok x.isNone w :=
  equal_of fun d => by cases x <;> simp only [Op.equalIn, Sem.run_bind, run_underlying hu, Result.andThen_ok, Sem.run_pure] <;> rfl
theorem eqFs_run {w : World} {d n : Nat} {l m : List SV} (ih : ∀ {t : TypeId} {s u : SV} {e : X}, eqX P n t s u = some e → (Op.equalIn d t (s.den G E) (u.den G E)).run P w = .ok (vb (e.den G)) w) :
    ∀ {fs : List Field} {e : X}, eqFs P (eqX P n) l m fs = some e → (Op.eqFields d (SV.denL G E l).toArray (SV.denL G E m).toArray fs).run P w = .ok (vb (e.den G)) w
  | [], e, h => by simp only [eqFs, Option.some.injEq] at h; subst h; rfl
  | f :: fs, e, h => by
    unfold eqFs at h
    split at h
    · cases h
    · rename_i hn
      split at h
      · rename_i x y hx hy
        split at h
        · rename_i hp
          simp only [Bool.and_eq_true] at hp
          cases h
          have hn' : f.name ≠ "_" := by intro e; apply hn; rw [e]; rfl
          simp only [Op.eqFields, hn', ne_eq, not_false_eq_true, if_true, Sem.run_bind, part_run hp.1, part_run hp.2, Result.andThen_ok, ih hx]
          rw [mkAnd_den]
          cases hb : vb (x.den G) with
          | false => simp
          | true => simp [eqFs_run ih hy]
        · cases h
      · cases h
theorem eqX_run {w : World} : ∀ {n : Nat} {t : TypeId} {s u : SV} {e : X}, eqX P n t s u = some e → ∀ d, n ≤ d → (Op.equalIn d t (s.den G E) (u.den G E)).run P w = .ok (vb (e.den G)) w := by
  intro n
  induction n with
  | zero => intro t s u e h; cases h
  | succ n ih =>
    intro t s u e h d hd
    obtain ⟨d, rfl⟩ : ∃ m, d = m + 1 := ⟨d - 1, by omega⟩
    unfold eqX at h
    split at h
    · rename_i k0 k e1 k' f1 hu
      split at h
      · rename_i hk
        cases h
        rw [beqIK_eq hk]
        simp only [SV.den]
        rw [run_equalIn_int w d t _ _ _ _ hu, mkCmp_den]; rfl
      · cases h
    · rename_i e1 f1 hu
      cases h
      simp only [SV.den]
      rw [run_equalIn_bool' w d t _ _ hu, mkIte_den]
      cases vb (e1.den G) <;> cases hb : vb (f1.den G) <;> simp [hb, mkNot_den]
    · rename_i e1 f1 hu
      cases h
      simp only [SV.den]
      rw [run_equalIn_string w d t _ _ hu]; rfl
    · rename_i fs l m hu
      split at h
      · cases h
      · rename_i hs
        have hs' : P.stoodInHeld t = false := by simpa using hs
        have hf : P.fieldsOf t = fs := by unfold Program.fieldsOf; rw [hu]
        simp only [SV.den]
        rw [run_equalIn_struct w d t _ _ (by rw [hf]; exact hu) hs', hf]
        exact eqFs_run (fun hx => ih hx d (by omega)) h
    · cases h
theorem nilIs_spec {d : TypeDesc} {v : SV} (h : nilIs d v = true) :
    (∃ e, d = .pointer e ∧ v = .cst (.pointer none)) ∨ (∃ e, d = .slice e ∧ v = .cst (.slice none 0 0)) ∨ (∃ k e, d = .map k e ∧ v = .cst (.map none)) := by
  unfold nilIs at h
  split at h
  · exact .inl ⟨_, rfl, rfl⟩
  · exact .inr (.inl ⟨_, rfl, rfl⟩)
  · exact .inr (.inr ⟨_, _, rfl, rfl⟩)
  · cases h
theorem sound_bin (hA : SatA G E st a) {g : X} (hg : vb (g.den G) = true) (o : BinOp) (t : TypeId) (x y : Operand) (yt : TypeId) :
    (qBin P st g o t x y).sound P G E a (.binOp o t x y yt) ty := by
  unfold qBin
  split
  · rename_i k e k' f hx hy
    have hc := opr_den hA hg hx rfl
    have hd := opr_den hA hg hy rfl
    split
    · refine QR.sound_val rfl fun hns w _ _ _ _ => ?_
      have h0 := nonneg_den hns
      simp [execOp, hc, hd, SV.den, X.den, eqGuard, binOp, Op.shift, intOp, show ¬ (vi (X.den G f) < 0) by omega]
    · refine QR.sound_val rfl fun hns w _ _ _ _ => ?_
      have h0 := nonneg_den hns
      simp [execOp, hc, hd, SV.den, X.den, eqGuard, binOp, Op.shift, intOp, show ¬ (vi (X.den G f) < 0) by omega]
    · split
      · rename_i hk
        have := beqIK_eq hk
        subst this
        cases o <;> dsimp only <;> first | contradiction | skip
        all_goals refine QR.sound_val rfl fun hns w _ _ _ _ => ?_
        all_goals first
          | (simp [execOp, hc, hd, SV.den, eqGuard, binOp, Op.intArith, Op.intBits, Op.intCmp, mkOp_den, mkCmp_den, intOp, cmpOp]; done)
          | (have h0 := nonzero_den hns
             simp [execOp, hc, hd, SV.den, X.den, eqGuard, binOp, Op.intDiv, intOp, h0])
      · trivial
  · rename_i e f hx hy
    have hc := opr_den hA hg hx rfl
    have hd := opr_den hA hg hy rfl
    split
    · rename_i hu
      refine QR.sound_val rfl fun hns w _ _ _ _ => ?_
      simp only [execOp, hc, hd, SV.den, eqGuard, binOp, Sem.run_bind, equal_bool hu, Result.andThen_ok, Sem.run_pure, mkIte_den]
      cases vb (X.den G e) <;> cases h : vb (X.den G f) <;> simp [h, mkNot_den]
    · rename_i hu
      refine QR.sound_val rfl fun hns w _ _ _ _ => ?_
      simp only [execOp, hc, hd, SV.den, eqGuard, binOp, Sem.run_bind, equal_bool hu, Result.andThen_ok, Sem.run_pure, mkIte_den]
      cases vb (X.den G e) <;> cases h : vb (X.den G f) <;> simp [h, mkNot_den]
    · trivial
  · rename_i e f hx hy
    have hc := opr_den hA hg hx rfl
    have hd := opr_den hA hg hy rfl
    split
    · refine QR.sound_val rfl fun hns w _ _ _ _ => ?_
      simp [execOp, hc, hd, SV.den, X.den, eqGuard, binOp, Op.stringOp]
    · refine QR.sound_val rfl fun hns w _ _ _ _ => ?_
      simp [execOp, hc, hd, SV.den, X.den, eqGuard, binOp, Op.stringOp]
    · intro hns
      refine ⟨⟨_, rfl⟩, fun w _ _ _ _ => ?_⟩
      have h1 := n_leq (hns _ (List.mem_cons_self ..))
      have h2 := n_leq (hns _ (List.mem_cons_of_mem _ (List.mem_cons_self ..)))
      simp only [X.den, vi_int] at h1 h2
      have h3 : intOp .sub .i64 9223372036854775807 ((vs (X.den G f)).size : Int) = 9223372036854775807 - ((vs (X.den G f)).size : Int) := by
        unfold intOp; exact wrap64_of _ (by omega) (by omega)
      rw [h3] at h2
      have h4 : ¬ (((vs (X.den G e)).size + (vs (X.den G f)).size : Nat) : Int) > IntKind.i64.max := by
        have : IntKind.i64.max = 9223372036854775807 := by decide
        rw [this]; omega
      simp only [execOp, hc, hd, SV.den, eqGuard, binOp, Op.stringOp, LF.den, h4, if_false]
      simp
    all_goals first
      | trivial
      | (intro hns
         refine ⟨⟨_, rfl⟩, fun w _ _ _ _ => ?_⟩
         simp [execOp, hc, hd, SV.den, LF.den, scmpOp, eqGuard, binOp, Op.stringOp])
  · rename_i l m hx hy
    have hc := opr_den hA hg hx rfl
    have hd := opr_den hA hg hy rfl
    split
    · trivial
    · rename_i hgt
      have hgt' : P.eqGuardType P.depth t = false := by simpa using hgt
      split
      · rename_i e he
        refine QR.sound_val rfl fun hns w _ _ _ _ => ?_
        have := eqX_run (G := G) (E := E) (w := w) he 10000 (by decide)
        simp only [SV.den] at this
        simp only [execOp, hc, hd, SV.den, Sem.run_bind, run_eqGuard_agg w _ t x y _ _ hgt', Result.andThen_ok, run_eql_struct, this, Sem.run_pure]
      · rename_i e he
        refine QR.sound_val rfl fun hns w _ _ _ _ => ?_
        have := eqX_run (G := G) (E := E) (w := w) he 10000 (by decide)
        simp only [SV.den] at this
        simp only [execOp, hc, hd, SV.den, Sem.run_bind, run_eqGuard_agg w _ t x y _ _ hgt', Result.andThen_ok, run_neq_struct, this, Sem.run_pure, mkNot_den]
      · trivial
  · rename_i i hx
    have hc := opr_den hA hg hx rfl
    split
    · rename_i d hu
      split
      · rename_i h
        generalize hy : st.opr g y = v at h
        simp only [Bool.and_eq_true] at h
        have hf := shape_fits hA i
        rcases nilIs_spec h.2 with ⟨el, rfl, rfl⟩ | ⟨el, rfl, rfl⟩ | ⟨k, el, rfl, rfl⟩
        · have hd := opr_den hA hg hy rfl
          obtain ⟨ad, hv⟩ : ∃ ad, gv G i = .pointer ad := by
            have h1 := h.1
            unfold nilOk at h1
            split at h1 <;> first | (rename_i hs; rw [hs] at hf; exact hf) | contradiction
          split
          · refine QR.sound_val rfl fun hns w _ _ _ _ => ?_
            cases ad <;> simp [execOp, hc, hd, SV.den, X.den, hv, eqGuard, binOp, equal_ptr hu, vnil]
          · refine QR.sound_val rfl fun hns w _ _ _ _ => ?_
            cases ad <;> simp [execOp, hc, hd, SV.den, X.den, hv, eqGuard, binOp, equal_ptr hu, vnil]
          · trivial
        · have hd := opr_den hA hg hy rfl
          obtain ⟨ad, n, c, hv, _⟩ : ∃ a n c, gv G i = .slice a n c ∧ True := by
            have h1 := h.1
            unfold nilOk at h1
            split at h1 <;> first | (rename_i hs; rw [hs] at hf; obtain ⟨a, n, c, hv, _⟩ := hf; exact ⟨a, n, c, hv, trivial⟩) | contradiction
          split
          · refine QR.sound_val rfl fun hns w _ _ _ _ => ?_
            cases ad <;> simp [execOp, hc, hd, SV.den, X.den, hv, eqGuard, binOp, equal_sl hu, vnil]
          · refine QR.sound_val rfl fun hns w _ _ _ _ => ?_
            cases ad <;> simp [execOp, hc, hd, SV.den, X.den, hv, eqGuard, binOp, equal_sl hu, vnil]
          · trivial
        · have hd := opr_den hA hg hy rfl
          obtain ⟨ad, hv⟩ : ∃ r, gv G i = .map r := by
            have h1 := h.1
            unfold nilOk at h1
            split at h1 <;> first | (rename_i hs; rw [hs] at hf; exact hf) | contradiction
          split
          · refine QR.sound_val rfl fun hns w _ _ _ _ => ?_
            cases ad <;> simp [execOp, hc, hd, SV.den, X.den, hv, eqGuard, binOp, equal_map hu, vnil]
          · refine QR.sound_val rfl fun hns w _ _ _ _ => ?_
            cases ad <;> simp [execOp, hc, hd, SV.den, X.den, hv, eqGuard, binOp, equal_map hu, vnil]
          · trivial
      · trivial
    · trivial
  · trivial
end
end Go.Proofs.Ytibdneedfopcoaa
