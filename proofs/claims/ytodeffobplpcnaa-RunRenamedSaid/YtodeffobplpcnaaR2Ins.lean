/-
  Runs of blocks with instructions put between others. Conditions: none (plain lemmas).
-/
import Derived.Test.YtodeffobplpcnaaR2N
set_option linter.unusedVariables false
set_option linter.unusedSimpArgs false
namespace Go.Proofs.Ytodeffobplpcnaa
open Go

/-- A row of instructions, one behind the other, none of which stops. -/
inductive StepsL (R : Int) : List Ins → Rs → Rs → Prop
  | nil {s : Rs} : StepsL R [] s s
  | cons {y : Ins} {l : List Ins} {s t f : Rs} : stepM R y s = (t, true) → StepsL R l t f → StepsL R (y :: l) s f
theorem Runs.chain {bs : List Blk} {R : Int} {b : Nat} {x : Blk} {A C : List Ins} (hx : bs[b]? = some x) : ∀ {ys : List Ins} {A : List Ins} {s s' t : Rs}, x.ins = A ++ ys ++ C → StepsL R ys s s' → Runs bs R b (A.length + ys.length) s' t → Runs bs R b A.length s t := by
  intro ys
  induction ys with
  | nil => intro A s s' t _ h hr; cases h; exact hr
  | cons y l ih =>
    intro A s s' t hi h hr
    cases h with
    | cons h1 h2 =>
      refine .step hx (y := y) (by rw [hi]; simp) h1 ?_
      have := ih (A := A ++ [y]) (s' := s') (t := t) (by rw [hi]; simp) h2 (by rw [List.length_append, List.length_singleton]; rw [List.length_cons] at hr; rw [show A.length + 1 + l.length = A.length + (l.length + 1) by omega]; exact hr)
      rwa [List.length_append, List.length_singleton] at this
section
variable {bs : List Blk} {R R' : Int} {i at_ m : Nat} {x : Blk} {ys : List Ins} {Rel : Rs → Rs → Prop}
def insB (x : Blk) (k : Nat) (ys : List Ins) : Blk := ⟨x.ins.take k ++ ys ++ x.ins.drop k, x.en⟩
def phi (i at_ m b k : Nat) : Nat := if b = i ∧ at_ ≤ k then k + m else k
def psi (i at_ m b k : Nat) : Nat := if b = i ∧ at_ < k then k + m else k
theorem insB_get (hx : bs[i]? = some x) (hat : at_ ≤ x.ins.length) {b k : Nat} {z : Blk} {y : Ins} (h1 : bs[b]? = some z) (h2 : z.ins[k]? = some y) :
    ∃ z', (bs.set i (insB x at_ ys))[b]? = some z' ∧ z'.ins[phi i at_ ys.length b k]? = some y := by
  have hil := (List.getElem?_eq_some_iff.1 hx).1
  by_cases hb : b = i
  · subst hb
    rw [hx] at h1; cases h1
    refine ⟨insB x at_ ys, by rw [List.getElem?_set_self hil], ?_⟩
    unfold phi insB
    by_cases hk : at_ ≤ k
    · rw [if_pos ⟨rfl, hk⟩]
      rw [List.getElem?_append_right (by simp; omega)]
      rw [List.getElem?_drop]
      have : at_ + (k + ys.length - (List.take at_ x.ins ++ ys).length) = k := by simp; omega
      rw [this]; exact h2
    · rw [if_neg (by omega), List.getElem?_append_left (by simp; omega), List.getElem?_append_left (by simp; omega), List.getElem?_take, if_pos (by omega)]
      exact h2
  · refine ⟨z, by rw [List.getElem?_set_ne (by omega)]; exact h1, ?_⟩
    unfold phi; rw [if_neg (by omega)]; exact h2
theorem insB_end (hx : bs[i]? = some x) (hat : at_ ≤ x.ins.length) {b k : Nat} {z : Blk} (h1 : bs[b]? = some z) (h2 : k = z.ins.length) :
    ∃ z', (bs.set i (insB x at_ ys))[b]? = some z' ∧ phi i at_ ys.length b k = z'.ins.length ∧ z'.en = z.en := by
  have hil := (List.getElem?_eq_some_iff.1 hx).1
  by_cases hb : b = i
  · subst hb
    rw [hx] at h1; cases h1
    refine ⟨insB x at_ ys, by rw [List.getElem?_set_self hil], ?_, rfl⟩
    unfold phi insB
    rw [if_pos ⟨rfl, by omega⟩]
    simp; omega
  · refine ⟨z, by rw [List.getElem?_set_ne (by omega)]; exact h1, ?_, rfl⟩
    unfold phi; rw [if_neg (by omega)]; exact h2
theorem Runs.ins (hx : bs[i]? = some x) (hat : at_ ≤ x.ins.length)
    (hstep : ∀ {z : Blk} {y : Ins} {s s' : Rs}, z ∈ bs → y ∈ z.ins → Rel s s' → Rel (stepM R y s).1 (stepM R' y s').1 ∧ (stepM R' y s').2 = (stepM R y s).2)
    (hend : ∀ {z : Blk} {s s' : Rs}, z ∈ bs → Rel s s' → Rel (endS z.en s).1 (endS z.en s').1 ∧ (endS z.en s').2 = (endS z.en s).2)
    (hys : (0 < at_ ∨ ∃ z ∈ bs, ∃ s t, endS z.en s = (t, some (i : Int))) → ∀ {s s' : Rs}, Rel s s' → ∃ s'', Rel s s'' ∧ StepsL R' ys s' s'')
    {b k : Nat} {s t : Rs} (h : Runs bs R b k s t) : ∀ {s' : Rs}, Rel s s' → ∃ t', Rel t t' ∧ Runs (bs.set i (insB x at_ ys)) R' b (phi i at_ ys.length b k) s' t' := by
  have hil := (List.getElem?_eq_some_iff.1 hx).1
  have back : ∀ {b k : Nat} {s t : Rs}, (b = i → k = at_ → 0 < at_ ∨ ∃ z ∈ bs, ∃ s t, endS z.en s = (t, some (i : Int))) → (∀ {s' : Rs}, Rel s s' → ∃ t', Rel t t' ∧ Runs (bs.set i (insB x at_ ys)) R' b (phi i at_ ys.length b k) s' t') →
      ∀ {s' : Rs}, Rel s s' → ∃ t', Rel t t' ∧ Runs (bs.set i (insB x at_ ys)) R' b (psi i at_ ys.length b k) s' t' := fun {b k s t} hre ih {s'} hs => by
    by_cases hc : b = i ∧ k = at_
    · obtain ⟨rfl, rfl⟩ := hc
      obtain ⟨s'', h1, h2⟩ := hys (hre rfl rfl) hs
      obtain ⟨t', h3, h4⟩ := ih h1
      refine ⟨t', h3, ?_⟩
      unfold psi; rw [if_neg (by omega)]
      unfold phi at h4; rw [if_pos ⟨rfl, Nat.le_refl _⟩] at h4
      have := Runs.chain (bs := bs.set b (insB x k ys)) (x := insB x k ys) (C := x.ins.drop k) (by rw [List.getElem?_set_self hil]) (A := x.ins.take k) (ys := ys) (s := s') (s' := s'') (t := t') rfl h2 (by rw [List.length_take, Nat.min_eq_left hat]; exact h4)
      rwa [List.length_take, Nat.min_eq_left hat] at this
    · have : psi i at_ ys.length b k = phi i at_ ys.length b k := by unfold psi phi; split <;> split <;> omega
      rw [this]; exact ih hs
  induction h with
  | stop h1 h2 h3 =>
    intro s' hs
    obtain ⟨z', k1, k2⟩ := insB_get (ys := ys) hx hat h1 h2
    obtain ⟨k3, k4⟩ := hstep (List.mem_of_getElem? h1) (List.mem_of_getElem? h2) hs
    rw [h3] at k3 k4
    exact ⟨_, k3, .stop k1 k2 (Prod.ext rfl k4)⟩
  | step h1 h2 h3 h4 ih =>
    rename_i b' k' s0 t0 f0 x0 y0
    intro s' hs
    obtain ⟨z', k1, k2⟩ := insB_get (ys := ys) hx hat h1 h2
    obtain ⟨k3, k4⟩ := hstep (List.mem_of_getElem? h1) (List.mem_of_getElem? h2) hs
    rw [h3] at k3 k4
    obtain ⟨t', k5, k6⟩ := back (b := b') (k := k' + 1) (fun _ e => .inl (by omega)) ih k3
    refine ⟨t', k5, .step k1 k2 (Prod.ext rfl k4) ?_⟩
    have : phi i at_ ys.length b' k' + 1 = psi i at_ ys.length b' (k' + 1) := by unfold psi phi; split <;> split <;> omega
    rw [this]; exact k6
  | fin h1 h0 h2 =>
    intro s' hs
    obtain ⟨z', k1, k2, k2'⟩ := insB_end (ys := ys) hx hat h1 h0
    obtain ⟨k3, k4⟩ := hend (List.mem_of_getElem? h1) hs
    rw [h2] at k3 k4
    exact ⟨_, k3, .fin k1 k2 (by rw [k2']; exact Prod.ext rfl k4)⟩
  | go h1 h0 h2 h4 ih =>
    rename_i b' k' s0 t0 f0 x0 c0
    intro s' hs
    obtain ⟨z', k1, k2, k2'⟩ := insB_end (ys := ys) hx hat h1 h0
    obtain ⟨k3, k4⟩ := hend (List.mem_of_getElem? h1) hs
    have h2' := h2
    rw [h2] at k3 k4
    obtain ⟨t', k5, k6⟩ := back (b := c0) (k := 0) (fun e _ => .inr ⟨x0, List.mem_of_getElem? h1, s0, t0, by rw [h2', e]⟩) ih k3
    refine ⟨t', k5, .go k1 k2 (t := (endS x0.en s').1) (c := c0) (by rw [k2']; exact Prod.ext rfl k4) ?_⟩
    have : psi i at_ ys.length c0 0 = 0 := by unfold psi; rw [if_neg (by omega)]
    rw [this] at k6; exact k6
/-- From the beginning on. -/
theorem Runs.ins0 (hx : bs[i]? = some x) (hat : at_ ≤ x.ins.length)
    (hstep : ∀ {z : Blk} {y : Ins} {s s' : Rs}, z ∈ bs → y ∈ z.ins → Rel s s' → Rel (stepM R y s).1 (stepM R' y s').1 ∧ (stepM R' y s').2 = (stepM R y s).2)
    (hend : ∀ {z : Blk} {s s' : Rs}, z ∈ bs → Rel s s' → Rel (endS z.en s).1 (endS z.en s').1 ∧ (endS z.en s').2 = (endS z.en s).2)
    (hys : ∀ {s s' : Rs}, Rel s s' → ∃ s'', Rel s s'' ∧ StepsL R' ys s' s'')
    {s t : Rs} (h : Runs bs R 0 0 s t) {s' : Rs} (hs : Rel s s') : ∃ t', Rel t t' ∧ Runs (bs.set i (insB x at_ ys)) R' 0 0 s' t' := by
  have hil := (List.getElem?_eq_some_iff.1 hx).1
  have A := fun {s' : Rs} => Runs.ins (ys := ys) hx hat @hstep @hend (fun _ => @hys) h (s' := s')
  by_cases hc : 0 = i ∧ 0 = at_
  · obtain ⟨rfl, rfl⟩ := hc
    obtain ⟨s'', h1, h2⟩ := hys hs
    obtain ⟨t', h3, h4⟩ := A h1
    refine ⟨t', h3, ?_⟩
    unfold phi at h4; rw [if_pos ⟨rfl, Nat.le_refl _⟩] at h4
    exact Runs.chain (bs := bs.set 0 (insB x 0 ys)) (x := insB x 0 ys) (C := x.ins.drop 0) (by rw [List.getElem?_set_self hil]) (A := []) (ys := ys) (s := s') (s' := s'') (t := t') rfl h2 h4
  · obtain ⟨t', h3, h4⟩ := A hs
    have : phi i at_ ys.length 0 0 = 0 := by unfold phi; rw [if_neg (by omega)]
    rw [this] at h4
    exact ⟨t', h3, h4⟩
end
/-! ### More places behind -/
def extS (s : Rs) (w : List Int) : Rs := { s with places := s.places ++ w }
theorem getP_ext {s : Rs} {n : Nat} {w : List Int} (hn : s.places.length = n) {a : Int} (ha : inN n a) : getP (extS s w) a = getP s a := by
  obtain ⟨h1, h2⟩ := ha
  unfold getP
  rw [List.getD_eq_getElem?_getD, List.getD_eq_getElem?_getD]
  show ((s.places ++ w)[a.toNat]?).getD 0 = _
  rw [List.getElem?_append_left (by omega)]
theorem setP_ext {s : Rs} {n : Nat} {w : List Int} (hn : s.places.length = n) {a v : Int} (ha : inN n a) : setP (extS s w) a v = extS (setP s a v) w := by
  obtain ⟨h1, h2⟩ := ha
  unfold setP extS
  simp only
  rw [List.set_append_left _ _ (by omega)]
theorem setP_len {s : Rs} {a v : Int} : (setP s a v).places.length = s.places.length := by simp [setP]
theorem step_ext {R R' : Int} {x : Ins} {s : Rs} {n : Nat} {w : List Int} (hp : PlOk R n x) (hn : s.places.length = n) (hR : R' = R ∨ (x.kind ≠ 7 ∧ x.kind ≠ 8)) :
    stepM R' x (extS s w) = (extS (stepM R x s).1 w, (stepM R x s).2) ∧ (stepM R x s).1.places.length = n := by
  by_cases k2 : x.kind = 2
  · obtain ⟨p1, p2⟩ := hp.k2 k2
    rw [stepM_2 k2, stepM_2 k2, getP_ext hn p2, setP_ext hn p1]
    exact ⟨rfl, by rw [setP_len]; exact hn⟩
  by_cases k7 : x.kind = 7
  · obtain rfl : R' = R := hR.resolve_right (fun q => q.1 k7)
    obtain ⟨p1, p2⟩ := hp.k7 k7
    rw [stepM_7 k7, stepM_7 k7, getP_ext hn p2, setP_ext hn p1]
    exact ⟨rfl, by rw [setP_len]; exact hn⟩
  by_cases k8 : x.kind = 8
  · obtain rfl : R' = R := hR.resolve_right (fun q => q.2 k8)
    obtain ⟨p1, p2⟩ := hp.k8 k8
    rw [stepM_8 k8, stepM_8 k8, getP_ext hn p2, setP_ext hn p1]
    exact ⟨rfl, by rw [setP_len]; exact hn⟩
  have hpd : Paid x := ⟨k2, k7, k8⟩
  by_cases hl : s.left = 0
  · rw [stepM_0 hpd hl, stepM_0 (s := extS s w) hpd hl]; exact ⟨rfl, hn⟩
  have hl' : (extS s w).left ≠ 0 := hl
  have hn' : ({ s with left := s.left - 1 } : Rs).places.length = n := hn
  have se : ∀ {a v : Int}, inN n a → setP { extS s w with left := (extS s w).left - 1 } a v = extS (setP { s with left := s.left - 1 } a v) w := fun {a v} ha => setP_ext (s := { s with left := s.left - 1 }) hn' ha
  have sl : ∀ {a v : Int}, (setP { s with left := s.left - 1 } a v).places.length = n := fun {a v} => by rw [setP_len]; exact hn
  by_cases k1 : x.kind = 1
  · rw [stepM_1 k1 hl, stepM_1 k1 hl', se (hp.k1 k1)]; exact ⟨rfl, sl⟩
  by_cases k3 : x.kind = 3
  · obtain ⟨p1, p2, p3, -⟩ := hp.k3 k3
    rw [stepM_3 k3 hl, stepM_3 k3 hl', getP_ext hn p2, getP_ext hn p3]
    cases binM x.op (getP s x.a) (getP s x.b) with
    | none => exact ⟨rfl, hn⟩
    | some v => exact ⟨Prod.ext (se p1) rfl, sl⟩
  by_cases k4 : x.kind = 4
  · obtain ⟨p1, p2⟩ := hp.k4 k4
    rw [stepM_4 k4 hl, stepM_4 k4 hl', getP_ext hn p2, se p1]; exact ⟨rfl, sl⟩
  by_cases k5 : x.kind = 5
  · obtain ⟨p1, p2⟩ := hp.k5 k5
    rw [stepM_5 k5 hl, stepM_5 k5 hl', getP_ext hn p1, getP_ext hn p2]; exact ⟨rfl, hn⟩
  by_cases k6 : x.kind = 6
  · obtain ⟨p1, p2⟩ := hp.k6 k6
    rw [stepM_6 k6 hl, stepM_6 k6 hl']
    have : x.args.map (getP (extS s w)) = x.args.map (getP s) := List.map_congr_left fun a ha => getP_ext hn (p2 a ha)
    rw [this]
    refine ⟨Prod.ext (setP_ext (s := { s with left := s.left - 1, calls := s.calls ++ [(x.n, x.args.map (getP s))], more := s.more.tail }) hn p1) rfl, by rw [setP_len]; exact hn⟩
  · rw [stepM_n hpd k1 k3 k4 k5 k6 hl, stepM_n hpd k1 k3 k4 k5 k6 hl']; exact ⟨rfl, hn⟩
theorem end_ext {e : Fin4} {s : Rs} {n : Nat} {w : List Int} (hp : e.kind ≠ 1 → inN n e.a) (h123 : 1 ≤ e.kind ∧ e.kind ≤ 3) (hn : s.places.length = n) :
    endS e (extS s w) = (extS (endS e s).1 w, (endS e s).2) ∧ (endS e s).1.places.length = n := by
  by_cases hl : s.left = 0
  · rw [endS_0 hl, endS_0 (s := extS s w) hl]; exact ⟨rfl, hn⟩
  have hl' : (extS s w).left ≠ 0 := hl
  by_cases k3 : e.kind = 3
  · rw [endS_3 hl k3, endS_3 hl' k3, getP_ext hn (hp (by omega))]; exact ⟨rfl, hn⟩
  by_cases k : e.kind = 2 ∧ getP s e.a = 0
  · rw [endS_b hl k3 k, endS_b hl' k3 ⟨k.1, by rw [getP_ext hn (hp (by omega))]; exact k.2⟩]; exact ⟨rfl, hn⟩
  · have k' : ¬ (e.kind = 2 ∧ getP (extS s w) e.a = 0) := fun q => k ⟨q.1, by rw [← getP_ext (w := w) hn (hp (by omega))]; exact q.2⟩
    rw [endS_t hl k3 k, endS_t hl' k3 k']; exact ⟨rfl, hn⟩
def RelX (n : Nat) (q : Nat) (s s' : Rs) : Prop := s.places.length = n ∧ ∃ w : List Int, w.length = q ∧ s' = extS s w
theorem RelX.step {R R' : Int} {x : Ins} {n q : Nat} {s s' : Rs} (hp : PlOk R n x) (hR : R' = R ∨ (x.kind ≠ 7 ∧ x.kind ≠ 8)) (h : RelX n q s s') : RelX n q (stepM R x s).1 (stepM R' x s').1 ∧ (stepM R' x s').2 = (stepM R x s).2 := by
  obtain ⟨hn, w, hw, rfl⟩ := h
  obtain ⟨h1, h2⟩ := step_ext (w := w) hp hn hR
  rw [h1]; exact ⟨⟨h2, w, hw, rfl⟩, rfl⟩
theorem RelX.fin {e : Fin4} {n q : Nat} {s s' : Rs} (hp : e.kind ≠ 1 → inN n e.a) (h123 : 1 ≤ e.kind ∧ e.kind ≤ 3) (h : RelX n q s s') : RelX n q (endS e s).1 (endS e s').1 ∧ (endS e s').2 = (endS e s).2 := by
  obtain ⟨hn, w, hw, rfl⟩ := h
  obtain ⟨h1, h2⟩ := end_ext (w := w) hp h123 hn
  rw [h1]; exact ⟨⟨h2, w, hw, rfl⟩, rfl⟩
end Go.Proofs.Ytodeffobplpcnaa
