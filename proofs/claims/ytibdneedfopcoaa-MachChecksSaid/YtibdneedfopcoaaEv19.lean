/-
  Regions that draw their order: an operation that gives a value and does nothing else may be taken first, if what it gives stays what it is till it comes up. Conditions: none (plain lemmas).
-/
import Derived.Test.YtibdneedfopcoaaEv18
import Derived.OrdersHeld
set_option linter.unusedVariables false
set_option linter.unusedSimpArgs false
namespace Go.Proofs.Ytibdneedfopcoaa
open Go

section
variable {P : Program} {ops : Array Oper} {Q : Exit → Act → World → Prop}

/-- Operations that give a value and do nothing else. -/
def eager : Op → Bool
  | .move _ | .pick .. | .build .. | .nilCheck _ | .binOp .. | .unOp .. | .convert .. | .makeFunc .. | .slice .. | .fieldAddr .. | .field .. | .indexAddr .. | .index .. | .extract .. | .load .. => true
  | .call { callee := .builtin .len, .. } | .call { callee := .builtin .cap, .. } | .call { callee := .builtin .min, .. } | .call { callee := .builtin .max, .. } => true
  | _ => false
def YieldsAt (P : Program) (ops : Array Oper) (o : Oper) (v : Value) (a : Act) (w : World) : Prop :=
  (Region.wanted o (yielded ops a.tmps) = true ∧ (execOp a.eval o).run P w = .ok (.value v) w) ∨ (Region.wanted o (yielded ops a.tmps) = false ∧ v = undef)
/-- What was taken first still gives what it gave. -/
def Pend (P : Program) (ops : Array Oper) (F : List Nat) (a : Act) (w : World) : Prop :=
  ∀ k ∈ F, ∀ o, ops[k]? = some o → ∃ d, o.dst = some d ∧ YieldsAt P ops o (a.tmps.getD d undef) a w
def waits (ops : Array Oper) (j k : Nat) : Bool := match ops[j]? with | some o => o.after.any (fun e => Region.binds .any e && e.on == k) | none => false
def eagerAt (ops : Array Oper) (j : Nat) : Bool := match ops[j]? with | some o => eager o.op | none => false
def behind (ops : Array Oper) (j : Nat) (F : List Nat) : List Nat := if eagerAt ops j then F else F.filter fun k => !(waits ops j k)
def wpF (P : Program) (ops : Array Oper) (Q : Exit → Act → World → Prop) : Nat → Array Bool → List Nat → Act → World → Prop
  | 0, listed, F, a, w => Region.ready .any ops listed = [] ∧ Q .normal a w
  | fuel + 1, listed, F, a, w => (Region.ready .any ops listed = [] → Q .normal a w) ∧
    ∀ i ∈ Region.ready .any ops listed, wpOp P ops Q i (fun a' w' => Pend P ops (behind ops i F) a' w' ∧ wpF P ops Q fuel (listed.setIfInBounds i true) (behind ops i F) a' w') a w
theorem wpAny_of_F : ∀ (fuel : Nat) (listed : Array Bool) (F : List Nat) (a : Act) (w : World), wpF P ops Q fuel listed F a w → wpAny P .any ops Q fuel listed a w
  | 0, _, _, _, _, h => h
  | fuel + 1, _, _, _, _, h => ⟨h.1, fun i hi => wpOp_mono (fun a' w' h' => wpAny_of_F fuel _ _ a' w' h'.2) (h.2 i hi)⟩
theorem behind_sub {j : Nat} {F F' : List Nat} (h : ∀ k ∈ F', k ∈ F) : ∀ k ∈ behind ops j F', k ∈ behind ops j F := by
  unfold behind
  split
  · exact h
  · intro k hk
    rw [List.mem_filter] at hk ⊢
    exact ⟨h k hk.1, hk.2⟩
theorem wpF_mono : ∀ (fuel : Nat) (listed : Array Bool) (F F' : List Nat) (a : Act) (w : World), (∀ k ∈ F', k ∈ F) → wpF P ops Q fuel listed F a w → wpF P ops Q fuel listed F' a w
  | 0, _, _, _, _, _, _, h => h
  | fuel + 1, listed, F, F', a, w, hs, h => ⟨h.1, fun i hi => wpOp_mono (fun a' w' h' =>
      ⟨fun k hk => h'.1 k (behind_sub hs k hk), wpF_mono fuel _ _ _ a' w' (behind_sub hs) h'.2⟩) (h.2 i hi)⟩
theorem YieldsAt.false {o : Oper} {v : Value} {a : Act} {w : World} (h : YieldsAt P ops o v a w) : YieldsIf P ops (fun _ => False) o v a :=
  h.imp (fun ⟨hw, _⟩ => ⟨hw, fun _ hf => hf.elim⟩) id
theorem YieldsAt.wpOp {i : Nat} {o : Oper} {v : Value} {a : Act} {w : World} (hi : ops[i]? = some o) (hy : YieldsAt P ops o v a w) {K : Act → World → Prop} (h : K (a.put o.dst v) w) : wpOp P ops Q i K a w := by
  unfold Go.wpOp
  simp only [hi]
  rcases hy with ⟨hw, hv⟩ | ⟨hw, rfl⟩
  · simp only [hw, if_true, Oper.wp, hv, Oper.upon]; exact .inl h
  · simp only [hw, Bool.false_eq_true, if_false]; exact h
theorem YieldsAt.of_put {o oi : Oper} {u v : Value} {a : Act} {w : World} (hs : ∀ cs b, o.op ≠ .select cs b) (hl : ∀ d, oi.dst = some d → d ∉ o.looksAt ops) :
    YieldsAt P ops o v (a.put oi.dst u) w ↔ YieldsAt P ops o v a w := by
  unfold YieldsAt
  rw [execOp_put o hs a oi.dst u hl, wanted_put o a oi.dst u hl]
theorem eager_nosel {o : Oper} (h : eager o.op = true) : ∀ cs b, o.op ≠ .select cs b := by
  intro cs b e; rw [e] at h; cases h
theorem getD_put {a : Act} {d d' : Nat} {v : Value} (h : d' ≠ d) : (a.put (some d') v).tmps.getD d undef = a.tmps.getD d undef := by
  simp only [Act.put, Array.getD_eq_getD_getElem?]
  rw [Array.getElem?_setIfInBounds_ne h]
theorem getD_put_self {a : Act} {d : Nat} {v : Value} (h : d < a.tmps.size) : (a.put (some d) v).tmps.getD d undef = v := by
  simp [Act.put, Array.getD_eq_getD_getElem?, h]

/-- What is asked of an operation that is taken first, of others that were. -/
structure Sep (ops : Array Oper) (oi : Oper) (d : Nat) (F : List Nat) : Prop where
  dst : oi.dst = some d
  self : d ∉ oi.looksAt ops
  apart : ∀ k ∈ F, ∀ o, ops[k]? = some o → eager o.op = true ∧ d ∉ o.looksAt ops ∧ o.dst ≠ some d
theorem Sep.pend {oi : Oper} {d : Nat} {F F' : List Nat} {a : Act} {w : World} {v : Value} (hs : Sep ops oi d F) (hF : ∀ k ∈ F', k ∈ F) : Pend P ops F' (a.put oi.dst v) w ↔ Pend P ops F' a w := by
  unfold Pend
  have key : ∀ k ∈ F', ∀ o, ops[k]? = some o → ∀ d', o.dst = some d' →
      (YieldsAt P ops o ((a.put oi.dst v).tmps.getD d' undef) (a.put oi.dst v) w ↔ YieldsAt P ops o (a.tmps.getD d' undef) a w) := by
    intro k hk o ho d' hd'
    obtain ⟨h1, h2, h3⟩ := hs.apart k (hF k hk) o ho
    rw [YieldsAt.of_put (eager_nosel h1) (fun x hx => by rw [hs.dst] at hx; cases hx; exact h2)]
    rw [hs.dst, getD_put (fun e => h3 (by rw [hd', e]))]
  constructor
  · intro h k hk o ho
    obtain ⟨d', hd', hy⟩ := h k hk o ho
    exact ⟨d', hd', (key k hk o ho d' hd').1 hy⟩
  · intro h k hk o ho
    obtain ⟨d', hd', hy⟩ := h k hk o ho
    exact ⟨d', hd', (key k hk o ho d' hd').2 hy⟩
theorem behind_le {j : Nat} {F : List Nat} : ∀ k ∈ behind ops j F, k ∈ F := by
  unfold behind
  split
  · exact fun _ h => h
  · exact fun k hk => (List.mem_filter.1 hk).1
theorem Sep.behind {oi : Oper} {d j : Nat} {F : List Nat} (hs : Sep ops oi d F) : Sep ops oi d (behind ops j F) :=
  ⟨hs.dst, hs.self, fun k hk => hs.apart k (behind_le k hk)⟩
theorem not_waits {i j : Nat} {listed : Array Bool} (hi : i ∈ Region.ready .any ops listed) (hj : j ∈ Region.ready .any ops listed) : waits ops j i = false := by
  obtain ⟨_, oj, hoj, hall⟩ := mem_ready.1 hj
  have h0 := (mem_ready.1 hi).1
  unfold waits
  rw [hoj]
  simp only
  rw [Bool.eq_false_iff]
  intro hc
  obtain ⟨e, he, hb⟩ := Array.any_eq_true'.1 hc
  simp only [Bool.and_eq_true, beq_iff_eq] at hb
  have h1 := hall e he hb.1
  rw [hb.2] at h1
  rcases Nat.lt_or_ge i listed.size with h' | h'
  · simp [h'] at h0 h1; rw [h0] at h1; cases h1
  · simp [Array.getElem?_eq_none h'] at h1
theorem no_edge {i j : Nat} {oj : Oper} (hoj : ops[j]? = some oj) (h : waits ops j i = false) : ∀ e ∈ oj.after, Region.binds .any e = true → e.on ≠ i := by
  intro e he hb heq
  unfold waits at h
  rw [hoj] at h
  simp only at h
  rw [Bool.eq_false_iff] at h
  exact h (Array.any_eq_true'.2 ⟨e, he, by simp [hb, heq]⟩)

/-- An operation that gives a value may be taken first: one whose value hangs on memory is asked again behind all that others do. -/
theorem wpF_first {i d : Nat} {oi : Oper} {v : Value} (hi : ops[i]? = some oi) (hsel : ∀ (j : Nat) (o : Oper) cs b, ops[j]? = some o → o.op ≠ .select cs b) (hne : ∀ c a w, ¬ Q (.panic c) a w) (he : eager oi.op = true)
    (mem : Bool) :
    ∀ (fuel : Nat) (listed : Array Bool) (F : List Nat) (a : Act) (w : World),
      (∀ j oj, ops[j]? = some oj → j ≠ i → listed.getD j true = false → (∀ e ∈ oj.after, Region.binds .any e = true → e.on ≠ i) → oi.apart ops oj = true) →
      i ∈ Region.ready .any ops listed → Sep ops oi d F → (mem = true → d < a.tmps.size) → (if mem then YieldsAt P ops oi v a w else Yields P ops oi v a) → Pend P ops F a w →
      wpF P ops Q fuel (listed.setIfInBounds i true) (if mem then i :: F else F) (a.put oi.dst v) w → wpF P ops Q (fuel + 1) listed F a w := by
  have hQ : ∀ c a w, Q (.panic c) (a.put oi.dst v) w → Q (.panic c) a w := fun c a w h => absurd h (hne _ _ _)
  have heA : eagerAt ops i = true := by unfold eagerAt; rw [hi]; exact he
  have hat : ∀ {a : Act} {w : World}, (if mem then YieldsAt P ops oi v a w else Yields P ops oi v a) → YieldsAt P ops oi v a w := by
    intro a w h
    cases mem with
    | true => exact h
    | false => exact (show Yields P ops oi v a from h).imp (fun ⟨h1, h2⟩ => ⟨h1, h2 w⟩) id
  intro fuel
  induction fuel with
  | zero =>
    intro listed F a w _ hr hs hd hy hP H
    refine ⟨fun h => (by rw [h] at hr; cases hr), fun j hj => ?_⟩
    by_cases hji : j = i
    · subst hji
      have hb : behind ops j F = F := by unfold behind; rw [if_pos heA]
      refine (hat hy).wpOp hi ⟨by rw [hb]; exact (hs.pend (fun _ h => h)).2 hP, ?_⟩
      rw [hb]; exact H
    · have := ready_mono hj hji
      rw [H.1] at this
      cases this
  | succ fuel ih =>
    intro listed F a w hfree hr hs hd hy hP H
    refine ⟨fun h => (by rw [h] at hr; cases hr), fun j hj => ?_⟩
    by_cases hji : j = i
    · subst hji
      have hb : behind ops j F = F := by unfold behind; rw [if_pos heA]
      refine (hat hy).wpOp hi ⟨by rw [hb]; exact (hs.pend (fun _ h => h)).2 hP, ?_⟩
      rw [hb]
      refine wpF_mono _ _ _ _ _ _ ?_ H
      intro k hk
      cases mem with
      | true => exact List.mem_cons_of_mem _ hk
      | false => exact hk
    · have h1 := H.2 j (ready_mono hj hji)
      obtain ⟨hjun, oj, hoj, hall⟩ := mem_ready.1 hj
      have hnw := not_waits hr hj
      have hnot := no_edge hoj hnw
      have hap := hfree j oj hoj hji hjun hnot
      have hfree' : ∀ k ok, ops[k]? = some ok → k ≠ i → (listed.setIfInBounds j true).getD k true = false →
          (∀ e ∈ ok.after, Region.binds .any e = true → e.on ≠ i) → oi.apart ops ok = true := fun k ok hk hki hun hno => by
        refine hfree k ok hk hki ?_ hno
        by_cases hjk : j = k
        · subst hjk; exact hjun
        · rw [getD_set_ne true hjk] at hun; exact hun
      have hbm : behind ops j (if mem then i :: F else F) = if mem then i :: behind ops j F else behind ops j F := by
        cases mem with
        | false => rfl
        | true =>
          simp only [if_true]
          unfold Go.Proofs.Ytibdneedfopcoaa.behind
          split
          · rfl
          · rw [List.filter_cons_of_pos (by simp [hnw])]
      rw [hbm] at h1
      -- the sizes of frames
      cases mem with
      | false =>
        have hy' : Yields P ops oi v a := hy
        have h2 := wpOp_put hoj hap (fun cs b => hsel i oi cs b hi) (fun cs b => hsel j oj cs b hoj) hQ hy' h1
        refine wpOp_mono (fun a' w' h3 => ?_) h2
        obtain ⟨hy2, hP2, hW2⟩ := h3
        simp only [Bool.false_eq_true, if_false] at hP2 hW2
        have hP3 := (hs.pend (F' := Go.Proofs.Ytibdneedfopcoaa.behind ops j F) behind_le).1 hP2
        refine ⟨hP3, ih (listed.setIfInBounds j true) _ a' w' hfree' (ready_mono hr (Ne.symm hji)) hs.behind (fun h => by cases h) hy2 hP3 ?_⟩
        rw [Array.setIfInBounds_comm _ _ hji]
        exact hW2
      | true =>
        have hy' : YieldsAt P ops oi v a w := hy
        have hsz := hd rfl
        have h1' : wpOp P ops Q j (fun a' w' => (a'.tmps.size = (a.put oi.dst v).tmps.size ∧ Pend P ops (i :: Go.Proofs.Ytibdneedfopcoaa.behind ops j F) a' w' ∧ wpF P ops Q fuel ((listed.setIfInBounds i true).setIfInBounds j true) (i :: Go.Proofs.Ytibdneedfopcoaa.behind ops j F) a' w')) (a.put oi.dst v) w := by
          simp only [if_true] at h1
          unfold Go.wpOp at h1 ⊢
          simp only [hoj] at h1 ⊢
          have szput : ∀ (b : Act) (dst : Option Tmp) (u : Value), (b.put dst u).tmps.size = b.tmps.size := by
            intro b dst u; cases dst <;> simp [Act.put]
          split
          · rename_i hw
            rw [if_pos hw] at h1
            refine h1.imp (fun h1 => ?_) id
            unfold Oper.wp at h1 ⊢
            generalize (execOp (a.put oi.dst v).eval oj).run P w = r at h1 ⊢
            cases r with
            | ok n w' =>
              cases n <;> simp only [Oper.upon] at h1 ⊢
              case value u => exact ⟨szput _ _ _, h1⟩
              case skip => exact ⟨szput _ _ _, h1⟩
              case defer u => exact ⟨szput _ _ _, h1⟩
              case enter f args => exact h1.mono fun e w'' he => by cases e <;> first | exact ⟨szput _ _ _, he⟩ | exact he
              case row row args => exact h1.mono fun u w'' he => ⟨szput _ _ _, he⟩
            | halt x w' => cases x <;> simp only [Oper.upon] at h1 ⊢; exact h1
          · rename_i hw
            rw [if_neg hw] at h1
            exact ⟨szput _ _ _, h1⟩
        have h2 := wpOp_putIf hoj hap (fun cs b => hsel i oi cs b hi) (fun cs b => hsel j oj cs b hoj) hQ hy'.false h1'
        refine wpOp_mono (fun a' w' h3 => ?_) h2
        obtain ⟨_, hsz2, hP2, hW2⟩ := h3
        have szput : ∀ (b : Act) (dst : Option Tmp) (u : Value), (b.put dst u).tmps.size = b.tmps.size := by
          intro b dst u; cases dst <;> simp [Act.put]
        rw [szput, szput] at hsz2
        have hP3 := (hs.pend (F' := Go.Proofs.Ytibdneedfopcoaa.behind ops j F) behind_le).1 (fun k hk => hP2 k (List.mem_cons_of_mem _ hk))
        have hyi : YieldsAt P ops oi v a' w' := by
          obtain ⟨d', hd', hyd⟩ := hP2 i (List.mem_cons_self ..) oi hi
          rw [hs.dst] at hd'
          cases hd'
          rw [hs.dst, getD_put_self (by omega)] at hyd
          have := (YieldsAt.of_put (P := P) (ops := ops) (oi := oi) (u := v) (v := v) (a := a') (w := w') (eager_nosel he) (fun x hx => by rw [hs.dst] at hx; cases hx; exact hs.self)).1
          rw [hs.dst] at this
          exact this hyd
        refine ⟨hP3, ih (listed.setIfInBounds j true) _ a' w' hfree' (ready_mono hr (Ne.symm hji)) hs.behind (fun _ => by omega) hyi hP3 ?_⟩
        rw [Array.setIfInBounds_comm _ _ hji]
        exact hW2
end
end Go.Proofs.Ytibdneedfopcoaa
