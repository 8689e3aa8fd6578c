/-
  Plain laws of runs: how they end, with more fuel, with other answers. Conditions: none (plain lemmas).
-/
import Derived.Test.YtodeffobplpcnaaPa
set_option linter.unusedVariables false
set_option linter.unusedSimpArgs false
namespace Go.Proofs.Ytodeffobplpcnaa
open Go

/-- How one instruction goes. -/
inductive StepK (R : Int) (x : Ins) (s : Rs) : Prop
  | free (h : ¬ Paid x) (p : List Int) (hp : ∀ l : Int, ∀ m : List Int, stepM R x { s with left := l, more := m } = ({ s with left := l, more := m, places := p }, true))
  | paid (h : Paid x) (h6 : x.kind ≠ 6) (t : Rs) (b : Bool) (ht : t.calls = s.calls ∧ t.more = s.more ∧ t.left = s.left - 1 ∧ t.value = s.value ∧ (b = false → t.how = 2) ∧ (b = true → t.how = s.how))
      (hp : ∀ l : Int, ∀ m : List Int, l ≠ 0 → stepM R x { s with left := l, more := m } = ({ t with left := l - 1, more := m }, b))
  | call (h : x.kind = 6)
theorem not_paid {x : Ins} (h : ¬ Paid x) : x.kind = 2 ∨ x.kind = 7 ∨ x.kind = 8 := by unfold Paid at h; omega
theorem stepK (R : Int) (x : Ins) (s : Rs) : StepK R x s := by
  by_cases hp : Paid x
  · by_cases h6 : x.kind = 6
    · exact .call h6
    · by_cases h3 : x.kind = 3
      · cases hb : binM x.op (getP s x.a) (getP s x.b) with
        | none => exact .paid hp h6 { s with left := s.left - 1, how := 2 } false ⟨rfl, rfl, rfl, rfl, fun _ => rfl, fun e => by cases e⟩ fun l m hl => by rw [stepM_3 h3 hl, show binM x.op (getP { s with left := l, more := m } x.a) (getP { s with left := l, more := m } x.b) = none from hb]
        | some v => exact .paid hp h6 (setP { s with left := s.left - 1 } x.d v) true ⟨rfl, rfl, rfl, rfl, (fun e => by cases e), fun _ => rfl⟩ fun l m hl => by rw [stepM_3 h3 hl, show binM x.op (getP { s with left := l, more := m } x.a) (getP { s with left := l, more := m } x.b) = some v from hb]; rfl
      · by_cases h1 : x.kind = 1
        · exact .paid hp h6 (setP { s with left := s.left - 1 } x.d x.n) true ⟨rfl, rfl, rfl, rfl, (fun e => by cases e), fun _ => rfl⟩ fun l m hl => by rw [stepM_1 h1 hl]; rfl
        · by_cases h4 : x.kind = 4
          · exact .paid hp h6 (setP { s with left := s.left - 1 } x.d (s.mem.getD (wordI (getP s x.a)) 0)) true ⟨rfl, rfl, rfl, rfl, (fun e => by cases e), fun _ => rfl⟩ fun l m hl => by rw [stepM_4 h4 hl]; rfl
          · by_cases h5 : x.kind = 5
            · exact .paid hp h6 { s with left := s.left - 1, mem := s.mem.set (wordI (getP s x.a)) (getP s x.b) } true ⟨rfl, rfl, rfl, rfl, (fun e => by cases e), fun _ => rfl⟩ fun l m hl => by rw [stepM_5 h5 hl]; rfl
            · exact .paid hp h6 { s with left := s.left - 1 } true ⟨rfl, rfl, rfl, rfl, (fun e => by cases e), fun _ => rfl⟩ fun l m hl => by rw [stepM_n hp h1 h3 h4 h5 h6 hl]
  · rcases not_paid hp with h | h | h
    · exact .free hp (setP s x.d (getP s x.a)).places fun l m => by rw [stepM_2 h]; rfl
    · exact .free hp (setP s (R + x.d) (getP s x.a)).places fun l m => by rw [stepM_7 h]; rfl
    · exact .free hp (setP s x.d (getP s (R + x.a))).places fun l m => by rw [stepM_8 h]; rfl
theorem rs_eta (s : Rs) : ({ s with left := s.left, more := s.more } : Rs) = s := rfl
/-! ### How a run ends -/
structure Ended (t : Rs) : Prop where
  how : t.how = 1 ∨ t.how = 2 ∨ t.how = 3
  starved : t.how = 3 → t.left = 0
  value : t.how = 1 ∨ t.value = 0
theorem stepM_value {R : Int} {x : Ins} {s : Rs} : (stepM R x s).1.value = s.value := by
  unfold stepM
  split
  · rfl
  · split
    · rfl
    · split
      · rfl
      · split
        · rfl
        · split
          · rfl
          · split
            · split <;> rfl
            · split
              · rfl
              · split
                · rfl
                · split <;> rfl
theorem stepM_false {R : Int} {x : Ins} {s t : Rs} (h : stepM R x s = (t, false)) : (t.how = 3 ∧ t.left = 0 ∧ t = { s with how := 3 }) ∨ t.how = 2 := by
  by_cases hp : Paid x
  · by_cases hl : s.left = 0
    · rw [stepM_0 hp hl] at h; cases h; exact .inl ⟨rfl, hl, rfl⟩
    · by_cases h6 : x.kind = 6
      · rw [stepM_6 h6 hl] at h; cases h
      · rcases stepK R x s with ⟨h', -, -⟩ | ⟨-, -, t', b, ⟨-, -, -, -, k5, -⟩, k⟩ | h'
        · exact absurd hp h'
        · have := (show stepM R x s = _ from k s.left s.more hl)
          rw [h] at this
          simp only [Prod.mk.injEq] at this
          obtain ⟨e1, e2⟩ := this
          rw [e1]; exact .inr (k5 e2.symm)
        · exact absurd h' h6
  · rcases stepK R x s with ⟨-, p, k⟩ | ⟨h', -, -, -, -, -⟩ | h'
    · have := (show stepM R x s = _ from k s.left s.more)
      rw [h] at this
      cases this
    · exact absurd h' hp
    · exact absurd (by unfold Paid; omega) hp
theorem Runs.ended {bs : List Blk} {R : Int} {b k : Nat} {s t : Rs} (h : Runs bs R b k s t) : s.value = 0 → Ended t := by
  induction h with
  | stop h1 h2 h3 =>
    rename_i b' k' s' t' x' y'
    intro hv
    have hval : t'.value = 0 := by have := stepM_value (R := R) (x := y') (s := s'); rw [h3] at this; rw [← hv]; exact this
    rcases stepM_false h3 with ⟨e1, e2, -⟩ | e
    · exact ⟨.inr (.inr e1), fun _ => e2, .inr hval⟩
    · exact ⟨.inr (.inl e), (fun q => by rw [e] at q; cases q), .inr hval⟩
  | step h1 h2 h3 _ ih =>
    rename_i b' k' s' t' f' x' y' _
    intro hv
    refine ih ?_
    have := stepM_value (R := R) (x := y') (s := s'); rw [h3] at this; rw [← hv]; exact this
  | fin h1 h0 h2 =>
    rename_i b' k' s' t' x'
    intro hv
    unfold endS at h2
    split at h2
    · rename_i hl; cases h2; exact ⟨.inr (.inr rfl), fun _ => hl, .inr hv⟩
    · split at h2
      · cases h2; exact ⟨.inl rfl, (fun q => by cases q), .inl rfl⟩
      · split at h2 <;> cases h2
  | go h1 h0 h2 _ ih =>
    rename_i b' k' s' t' f' x' c' _
    intro hv
    refine ih ?_
    unfold endS at h2
    split at h2
    · cases h2
    · split at h2
      · cases h2
      · split at h2 <;> (simp only [Prod.mk.injEq] at h2; obtain ⟨rfl, -⟩ := h2; exact hv)
/-- Each call is some instruction's. -/
def CallOf (bs : List Blk) (c : Int × List Int) : Prop := ∃ b ∈ bs, ∃ y ∈ b.ins, y.kind = 6 ∧ y.n = c.1 ∧ y.args.length = c.2.length
theorem stepM_calls {R : Int} {x : Ins} {s : Rs} : (stepM R x s).1.calls = s.calls ∨ (x.kind = 6 ∧ (stepM R x s).1.calls = s.calls ++ [(x.n, x.args.map (getP s))]) := by
  by_cases h6 : x.kind = 6
  · by_cases hl : s.left = 0
    · rw [stepM_0 (by unfold Paid; omega) hl]; exact .inl rfl
    · rw [stepM_6 h6 hl]; exact .inr ⟨h6, rfl⟩
  · left
    unfold stepM
    split
    · rfl
    · split
      · rfl
      · split
        · rfl
        · split
          · rfl
          · split
            · rfl
            · split
              · split <;> rfl
              · split
                · rfl
                · split
                  · rfl
                  · rfl
theorem endS_calls {e : Fin4} {s : Rs} : (endS e s).1.calls = s.calls := by unfold endS; split <;> (try rfl); split <;> (try rfl); split <;> rfl
theorem Runs.callsOf {bs : List Blk} {R : Int} {b k : Nat} {s t : Rs} (h : Runs bs R b k s t) : (∀ c ∈ s.calls, CallOf bs c) → ∀ c ∈ t.calls, CallOf bs c := by
  have st : ∀ {x : Blk} {y : Ins} {s : Rs}, x ∈ bs → y ∈ x.ins → (∀ c ∈ s.calls, CallOf bs c) → ∀ c ∈ (stepM R y s).1.calls, CallOf bs c := fun {x y s} hx hy hc c hm => by
    rcases stepM_calls (R := R) (x := y) (s := s) with e | ⟨h6, e⟩
    · rw [e] at hm; exact hc c hm
    · rw [e] at hm
      rcases List.mem_append.1 hm with q | q
      · exact hc c q
      · rw [List.mem_singleton] at q; subst q
        exact ⟨x, hx, y, hy, h6, rfl, by simp⟩
  induction h with
  | stop h1 h2 h3 => intro hc; have := st (List.mem_of_getElem? h1) (List.mem_of_getElem? h2) hc; rw [h3] at this; exact this
  | step h1 h2 h3 _ ih => intro hc; have := st (List.mem_of_getElem? h1) (List.mem_of_getElem? h2) hc; rw [h3] at this; exact ih this
  | fin h1 h0 h2 =>
    rename_i b' k' s' t' x'
    intro hc; have := endS_calls (e := x'.en) (s := s'); rw [h2] at this; rw [this]; exact hc
  | go h1 h0 h2 _ ih =>
    rename_i b' k' s' t' f' x' c' _
    intro hc; have := endS_calls (e := x'.en) (s := s'); rw [h2] at this; exact ih (by rw [this]; exact hc)
/-- Calls only grow. -/
theorem Runs.grow {bs : List Blk} {R : Int} {b k : Nat} {s t : Rs} (h : Runs bs R b k s t) : s.calls <+: t.calls := by
  have st : ∀ {y : Ins} {s : Rs}, s.calls <+: (stepM R y s).1.calls := fun {y s} => by
    rcases stepM_calls (R := R) (x := y) (s := s) with e | ⟨h6, e⟩
    · rw [e]; exact List.prefix_refl _
    · rw [e]; exact List.prefix_append _ _
  induction h with
  | stop h1 h2 h3 => rename_i b' k' s' t' x' y'; have := st (y := y') (s := s'); rw [h3] at this; exact this
  | step h1 h2 h3 _ ih => rename_i b' k' s' t' f' x' y' _; have := st (y := y') (s := s'); rw [h3] at this; exact this.trans ih
  | fin h1 h0 h2 =>
    rename_i b' k' s' t' x'
    have := endS_calls (e := x'.en) (s := s'); rw [h2] at this; rw [this]; exact List.prefix_refl _
  | go h1 h0 h2 _ ih =>
    rename_i b' k' s' t' f' x' c' _
    have := endS_calls (e := x'.en) (s := s'); rw [h2] at this; rw [← this]; exact ih
/-! ### With more fuel -/
def addL (s : Rs) (m : Int) : Rs := { s with left := s.left + m }
theorem stepM_more {R : Int} {x : Ins} {s : Rs} {m : Int} (h0 : 0 ≤ s.left) (hm : 0 ≤ m) (h : s.left ≠ 0 ∨ ¬ Paid x) : stepM R x (addL s m) = (addL (stepM R x s).1 m, (stepM R x s).2) := by
  by_cases hp : Paid x
  · have hl : s.left ≠ 0 := h.resolve_right fun q => q hp
    by_cases h6 : x.kind = 6
    · rw [stepM_6 h6 hl, stepM_6 h6 (by show s.left + m ≠ 0; omega)]
      simp only [addL, setP]
      congr 2
      show s.left + m - 1 = s.left - 1 + m
      omega
    · rcases stepK R x s with ⟨h', -, -⟩ | ⟨-, -, t', b, -, k⟩ | h'
      · exact absurd hp h'
      · have k1 := (show stepM R x s = _ from k s.left s.more hl)
        have k2 := k (s.left + m) s.more (by omega)
        show stepM R x { s with left := s.left + m, more := s.more } = _
        rw [k2, k1]
        simp only [addL]
        congr 2
        omega
      · exact absurd h' h6
  · rcases stepK R x s with ⟨-, p, k⟩ | ⟨h', -, -, -, -, -⟩ | h'
    · have k1 := (show stepM R x s = _ from k s.left s.more)
      show stepM R x { s with left := s.left + m, more := s.more } = _
      rw [k (s.left + m) s.more, k1]; rfl
    · exact absurd h' hp
    · exact absurd (by unfold Paid; omega) hp
theorem endS_more {e : Fin4} {s : Rs} {m : Int} (h0 : 0 ≤ s.left) (hm : 0 ≤ m) (hl : s.left ≠ 0) : endS e (addL s m) = (addL (endS e s).1 m, (endS e s).2) := by
  have hl2 : (addL s m).left ≠ 0 := by show s.left + m ≠ 0; omega
  have e1 : s.left + m - 1 = s.left - 1 + m := by omega
  by_cases k3 : e.kind = 3
  · rw [endS_3 hl k3, endS_3 hl2 k3]; simp only [addL, e1]; rfl
  · by_cases k : e.kind = 2 ∧ getP s e.a = 0
    · rw [endS_b hl k3 k, endS_b hl2 k3 k]; simp only [addL, e1]
    · rw [endS_t hl k3 k, endS_t hl2 k3 k]; simp only [addL, e1]
theorem Runs.more {bs : List Blk} {R : Int} {m : Int} (hm : 0 ≤ m) {b k : Nat} {s t : Rs} (h : Runs bs R b k s t) : 0 ≤ s.left → ∀ {t2 : Rs}, Runs bs R b k (addL s m) t2 → (t.how ≠ 3 → t2 = addL t m) ∧ t.calls <+: t2.calls := by
  have nn : ∀ {x : Blk} {k : Nat} {y : Ins}, x.ins[k]? = some y → k ≠ x.ins.length := fun h e => by have := (List.getElem?_eq_some_iff.1 h).1; omega
  have lf : ∀ {y : Ins} {s : Rs}, 0 ≤ s.left → 0 ≤ (stepM R y s).1.left := fun {y s} h0 => by
    have g : Good s.places.length (s.calls.length + s.left) s := ⟨rfl, h0, Int.le_refl _⟩
    exact (stepM_good (R := R) (x := y) g).lf.1
  induction h with
  | stop h1 h2 h3 =>
    rename_i b' k' s' t' x' y'
    intro h0 t2 hr
    rcases stepM_false h3 with ⟨e1, e2, e3⟩ | e
    · refine ⟨fun q => absurd e1 q, ?_⟩
      have := hr.grow
      rw [e3]; exact this
    · have hc : s'.left ≠ 0 ∨ ¬ Paid y' := by
        by_cases hl : s'.left = 0
        · right; intro hp; rw [stepM_0 hp hl] at h3; cases h3; simp at e
        · exact .inl hl
      have hst := stepM_more (R := R) (x := y') (m := m) h0 hm hc
      rw [h3] at hst
      have := hr.same (.stop h1 h2 hst)
      subst this
      exact ⟨fun _ => rfl, List.prefix_refl _⟩
  | step h1 h2 h3 _ ih =>
    rename_i b' k' s' t' f' x' y' _
    intro h0 t2 hr
    have hc : s'.left ≠ 0 ∨ ¬ Paid y' := by
      by_cases hl : s'.left = 0
      · right; intro hp; rw [stepM_0 hp hl] at h3; cases h3
      · exact .inl hl
    have hst := stepM_more (R := R) (x := y') (m := m) h0 hm hc
    rw [h3] at hst
    have h0' : 0 ≤ t'.left := by have := lf (y := y') h0; rw [h3] at this; exact this
    cases hr with
    | stop g1 g2 g3 => rw [h1] at g1; cases g1; rw [h2] at g2; cases g2; rw [hst] at g3; cases g3
    | step g1 g2 g3 g4 => rw [h1] at g1; cases g1; rw [h2] at g2; cases g2; rw [hst] at g3; cases g3; exact ih h0' g4
    | fin g1 g0 g2 => rw [h1] at g1; cases g1; exact absurd g0 (nn h2)
    | go g1 g0 g2 _ => rw [h1] at g1; cases g1; exact absurd g0 (nn h2)
  | fin h1 h0' h2 =>
    rename_i b' k' s' t' x'
    intro h0 t2 hr
    by_cases hl : s'.left = 0
    · rw [endS_0 hl] at h2; cases h2
      exact ⟨fun q => absurd rfl q, hr.grow⟩
    · have hst := endS_more (e := x'.en) (m := m) h0 hm hl
      rw [h2] at hst
      have := hr.same (.fin h1 h0' hst)
      subst this
      exact ⟨fun _ => rfl, List.prefix_refl _⟩
  | go h1 h0' h2 _ ih =>
    rename_i b' k' s' t' f' x' c' _
    intro h0 t2 hr
    obtain ⟨hl, hl2, -, -⟩ := endS_left h2
    have hst := endS_more (e := x'.en) (m := m) h0 hm hl
    rw [h2] at hst
    cases hr with
    | stop g1 g2 g3 => rw [h1] at g1; cases g1; exact absurd h0' (nn g2)
    | step g1 g2 g3 _ => rw [h1] at g1; cases g1; exact absurd h0' (nn g2)
    | fin g1 g0 g2 => rw [h1] at g1; cases g1; rw [hst] at g2; cases g2
    | go g1 g0 g2 g3 =>
      rw [h1] at g1; cases g1; rw [hst] at g2
      simp only [Prod.mk.injEq, Option.some.injEq, Int.natCast_inj] at g2
      obtain ⟨rfl, rfl⟩ := g2
      exact ih (by omega) g3
end Go.Proofs.Ytodeffobplpcnaa
