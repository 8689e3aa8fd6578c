/-
  A constant given where it isn't needed: the run with it. Conditions: as each lemma says (plain lemmas).
-/
import Derived.Test.YtbbicdfipheaeaaDoorR5V
set_option linter.unusedVariables false
set_option linter.unusedSimpArgs false
namespace Go.Proofs.YtbbicdfipheaeaaDoor
open Go

/-- How one instruction goes. -/
inductive StepK (R : Int) (x : Ins) (s : Rs) : Prop
  | free (h : ¬ Paid x) (p : List Int) (hp : ∀ l : Int, ∀ m : List Int, stepM R x { s with left := l, more := m } = ({ s with left := l, more := m, places := p }, true))
  | paid (h : Paid x) (h6 : x.kind ≠ 6) (t : Rs) (b : Bool) (ht : t.calls = s.calls ∧ t.more = s.more ∧ t.left = s.left - 1 ∧ t.value = s.value ∧ (b = false → t.how = 2) ∧ (b = true → t.how = s.how))
      (hp : ∀ l : Int, ∀ m : List Int, l ≠ 0 → stepM R x { s with left := l, more := m } = ({ t with left := l - 1, more := m }, b))
  | call (h : x.kind = 6)
theorem not_paid {x : Ins} (h : ¬ Paid x) : x.kind = 2 ∨ x.kind = 7 ∨ x.kind = 8 := by unfold Paid at h; omega
theorem stepK (R : Int) (x : Ins) (s : Rs) : StepK R x s := by
  by_cases hp : Paid x
  · by_cases h6 : x.kind = 6
    · exact .call h6
    · by_cases h3 : x.kind = 3
      · cases hb : binM x.op (getP s x.a) (getP s x.b) with
        | none => exact .paid hp h6 { s with left := s.left - 1, how := 2 } false ⟨rfl, rfl, rfl, rfl, fun _ => rfl, fun e => by cases e⟩ fun l m hl => by rw [stepM_3 h3 hl, show binM x.op (getP { s with left := l, more := m } x.a) (getP { s with left := l, more := m } x.b) = none from hb]
        | some v => exact .paid hp h6 (setP { s with left := s.left - 1 } x.d v) true ⟨rfl, rfl, rfl, rfl, (fun e => by cases e), fun _ => rfl⟩ fun l m hl => by rw [stepM_3 h3 hl, show binM x.op (getP { s with left := l, more := m } x.a) (getP { s with left := l, more := m } x.b) = some v from hb]; rfl
      · by_cases h1 : x.kind = 1
        · exact .paid hp h6 (setP { s with left := s.left - 1 } x.d x.n) true ⟨rfl, rfl, rfl, rfl, (fun e => by cases e), fun _ => rfl⟩ fun l m hl => by rw [stepM_1 h1 hl]; rfl
        · by_cases h4 : x.kind = 4
          · exact .paid hp h6 (setP { s with left := s.left - 1 } x.d (s.mem.getD (wordI (getP s x.a)) 0)) true ⟨rfl, rfl, rfl, rfl, (fun e => by cases e), fun _ => rfl⟩ fun l m hl => by rw [stepM_4 h4 hl]; rfl
          · by_cases h5 : x.kind = 5
            · exact .paid hp h6 { s with left := s.left - 1, mem := s.mem.set (wordI (getP s x.a)) (getP s x.b) } true ⟨rfl, rfl, rfl, rfl, (fun e => by cases e), fun _ => rfl⟩ fun l m hl => by rw [stepM_5 h5 hl]; rfl
            · exact .paid hp h6 { s with left := s.left - 1 } true ⟨rfl, rfl, rfl, rfl, (fun e => by cases e), fun _ => rfl⟩ fun l m hl => by rw [stepM_n hp h1 h3 h4 h5 h6 hl]
  · rcases not_paid hp with h | h | h
    · exact .free hp (setP s x.d (getP s x.a)).places fun l m => by rw [stepM_2 h]; rfl
    · exact .free hp (setP s (R + x.d) (getP s x.a)).places fun l m => by rw [stepM_7 h]; rfl
    · exact .free hp (setP s x.d (getP s (R + x.a))).places fun l m => by rw [stepM_8 h]; rfl
def addL (s : Rs) (m : Int) : Rs := { s with left := s.left + m }
theorem stepM_more {R : Int} {x : Ins} {s : Rs} {m : Int} (h0 : 0 ≤ s.left) (hm : 0 ≤ m) (h : s.left ≠ 0 ∨ ¬ Paid x) : stepM R x (addL s m) = (addL (stepM R x s).1 m, (stepM R x s).2) := by
  by_cases hp : Paid x
  · have hl : s.left ≠ 0 := h.resolve_right fun q => q hp
    by_cases h6 : x.kind = 6
    · rw [stepM_6 h6 hl, stepM_6 h6 (by show s.left + m ≠ 0; omega)]
      simp only [addL, setP]
      congr 2
      show s.left + m - 1 = s.left - 1 + m
      omega
    · rcases stepK R x s with ⟨h', -, -⟩ | ⟨-, -, t', b, -, k⟩ | h'
      · exact absurd hp h'
      · have k1 := (show stepM R x s = _ from k s.left s.more hl)
        have k2 := k (s.left + m) s.more (by omega)
        show stepM R x { s with left := s.left + m, more := s.more } = _
        rw [k2, k1]
        simp only [addL]
        congr 2
        omega
      · exact absurd h' h6
  · rcases stepK R x s with ⟨-, p, k⟩ | ⟨h', -, -, -, -, -⟩ | h'
    · have k1 := (show stepM R x s = _ from k s.left s.more)
      show stepM R x { s with left := s.left + m, more := s.more } = _
      rw [k (s.left + m) s.more, k1]; rfl
    · exact absurd h' hp
    · exact absurd (by unfold Paid; omega) hp
theorem endS_more {e : Fin4} {s : Rs} {m : Int} (h0 : 0 ≤ s.left) (hm : 0 ≤ m) (hl : s.left ≠ 0) : endS e (addL s m) = (addL (endS e s).1 m, (endS e s).2) := by
  have hl2 : (addL s m).left ≠ 0 := by show s.left + m ≠ 0; omega
  have e1 : s.left + m - 1 = s.left - 1 + m := by omega
  by_cases k3 : e.kind = 3
  · rw [endS_3 hl k3, endS_3 hl2 k3]; simp only [addL, e1]; rfl
  · by_cases k : e.kind = 2 ∧ getP s e.a = 0
    · rw [endS_b hl k3 k, endS_b hl2 k3 k]; simp only [addL, e1]
    · rw [endS_t hl k3 k, endS_t hl2 k3 k]; simp only [addL, e1]
section
variable {bs : List Blk} {R R' : Int} {i at_ m : Nat} {x : Blk} {ys : List Ins}
def insB (x : Blk) (k : Nat) (ys : List Ins) : Blk := ⟨x.ins.take k ++ ys ++ x.ins.drop k, x.en⟩
def phi (i at_ m b k : Nat) : Nat := if b = i ∧ at_ ≤ k then k + m else k
def psi (i at_ m b k : Nat) : Nat := if b = i ∧ at_ < k then k + m else k
theorem insB_get (hx : bs[i]? = some x) (hat : at_ ≤ x.ins.length) {b k : Nat} {z : Blk} {y : Ins} (h1 : bs[b]? = some z) (h2 : z.ins[k]? = some y) :
    ∃ z', (bs.set i (insB x at_ ys))[b]? = some z' ∧ z'.ins[phi i at_ ys.length b k]? = some y := by
  have hil := (List.getElem?_eq_some_iff.1 hx).1
  by_cases hb : b = i
  · subst hb
    rw [hx] at h1; cases h1
    refine ⟨insB x at_ ys, by rw [List.getElem?_set_self hil], ?_⟩
    unfold phi insB
    by_cases hk : at_ ≤ k
    · rw [if_pos ⟨rfl, hk⟩]
      rw [List.getElem?_append_right (by simp; omega)]
      rw [List.getElem?_drop]
      have : at_ + (k + ys.length - (List.take at_ x.ins ++ ys).length) = k := by simp; omega
      rw [this]; exact h2
    · rw [if_neg (by omega), List.getElem?_append_left (by simp; omega), List.getElem?_append_left (by simp; omega), List.getElem?_take, if_pos (by omega)]
      exact h2
  · refine ⟨z, by rw [List.getElem?_set_ne (by omega)]; exact h1, ?_⟩
    unfold phi; rw [if_neg (by omega)]; exact h2
theorem insB_end (hx : bs[i]? = some x) (hat : at_ ≤ x.ins.length) {b k : Nat} {z : Blk} (h1 : bs[b]? = some z) (h2 : k = z.ins.length) :
    ∃ z', (bs.set i (insB x at_ ys))[b]? = some z' ∧ phi i at_ ys.length b k = z'.ins.length ∧ z'.en = z.en := by
  have hil := (List.getElem?_eq_some_iff.1 hx).1
  by_cases hb : b = i
  · subst hb
    rw [hx] at h1; cases h1
    refine ⟨insB x at_ ys, by rw [List.getElem?_set_self hil], ?_, rfl⟩
    unfold phi insB
    rw [if_pos ⟨rfl, by omega⟩]
    simp; omega
  · refine ⟨z, by rw [List.getElem?_set_ne (by omega)]; exact h1, ?_, rfl⟩
    unfold phi; rw [if_neg (by omega)]; exact h2
end
def constI (r n : Int) : Ins := ⟨1, 0, r, 0, 0, n, []⟩
/-- Alike but for the fuel that is left. -/
def SameL (s t : Rs) : Prop := s.how = t.how ∧ s.value = t.value ∧ s.calls = t.calls ∧ s.mem = t.mem
def cps (i at_ b k : Nat) : Int := if b = i ∧ at_ < k then 1 else 2
def cph (i at_ b k : Nat) : Int := if b = i ∧ at_ ≤ k then 1 else 2
theorem phi_next (i at_ b k : Nat) : phi i at_ 1 b k + 1 = psi i at_ 1 b (k + 1) := by unfold phi psi; split <;> split <;> omega
theorem cph_next (i at_ b k : Nat) : cph i at_ b k = cps i at_ b (k + 1) := by unfold cph cps; split <;> split <;> omega
theorem stepM_left0 {R : Int} {x : Ins} {s : Rs} (h0 : 0 ≤ s.left) : (stepM R x s).1.left ≤ s.left ∧ ((stepM R x s).2 = true → 0 ≤ (stepM R x s).1.left) := by
  by_cases hp : Paid x
  · by_cases hl : s.left = 0
    · rw [stepM_0 hp hl]; exact ⟨Int.le_refl _, fun h => (by cases h)⟩
    · have h1 : 0 ≤ s.left - 1 := by omega
      unfold stepM
      rw [if_neg hp.1, if_neg hp.2.1, if_neg hp.2.2, if_neg hl]
      split
      · exact ⟨by show s.left - 1 ≤ s.left; omega, fun _ => h1⟩
      · split
        · split
          · exact ⟨by show s.left - 1 ≤ s.left; omega, fun _ => h1⟩
          · exact ⟨by show s.left - 1 ≤ s.left; omega, fun _ => h1⟩
        · split
          · exact ⟨by show s.left - 1 ≤ s.left; omega, fun _ => h1⟩
          · split
            · exact ⟨by show s.left - 1 ≤ s.left; omega, fun _ => h1⟩
            · split
              · exact ⟨by show s.left - 1 ≤ s.left; omega, fun _ => h1⟩
              · exact ⟨by show s.left - 1 ≤ s.left; omega, fun _ => h1⟩
  · unfold stepM
    split
    · exact ⟨Int.le_refl _, fun _ => h0⟩
    · split
      · exact ⟨Int.le_refl _, fun _ => h0⟩
      · split
        · exact ⟨Int.le_refl _, fun _ => h0⟩
        · rename_i h1 h2 h3
          exact absurd ⟨h1, h2, h3⟩ hp
section
variable {B : List Blk} {V : Int} {L : List SP} {i at_ r : Nat} {n : Int} {x : Blk}
theorem given_run (hO : OkB B) (hR : RegL B) (hK : KindB B) (K : Solved (flV B) L) (hx : B[i]? = some x) (hat : at_ ≤ x.ins.length) (hr : fromP B L i at_ r = false) {b k : Nat} {s t : Rs} (h : Runs B V b k s t) : t.how ≠ 3 → 0 ≤ s.left →
    ∀ {s' : Rs} {m : Int}, EqR (fromP B L b k) s s' → s.left + cph i at_ b k ≤ m → ∃ t', Runs (B.set i (insB x at_ [constI r n])) V b (phi i at_ 1 b k) (addL s' m) t' ∧ SameL t t' := by
  have get : ∀ {b x}, B[b]? = some x → ∃ p, L[b]? = some p := fun {b x} hb => ⟨_, List.getElem?_eq_getElem (by rw [K.len]; exact (List.getElem?_eq_some_iff.1 hb).1)⟩
  have hil := (List.getElem?_eq_some_iff.1 hx).1
  -- ahead of what was put in
  have back : ∀ {b k : Nat} {s t : Rs}, 0 ≤ s.left → (∀ {s' : Rs} {m : Int}, EqR (fromP B L b k) s s' → s.left + cph i at_ b k ≤ m → ∃ t', Runs (B.set i (insB x at_ [constI r n])) V b (phi i at_ 1 b k) (addL s' m) t' ∧ SameL t t') →
      ∀ {s' : Rs} {m : Int}, EqR (fromP B L b k) s s' → s.left + cps i at_ b k ≤ m → ∃ t', Runs (B.set i (insB x at_ [constI r n])) V b (psi i at_ 1 b k) (addL s' m) t' ∧ SameL t t' := fun {b k s t} h0 ih {s' m} E hm => by
    by_cases hc : b = i ∧ k = at_
    · obtain ⟨rfl, rfl⟩ := hc
      have hm' : s.left + 2 ≤ m := by unfold cps at hm; rw [if_neg (by omega)] at hm; exact hm
      have E2 : EqR (fromP B L b k) s (setP s' r n) := by
        refine ⟨E.how, E.value, E.calls, E.mem, E.left, E.more, ?_, fun y hy => ?_⟩
        · show _ = (s'.places.set _ _).length
          rw [List.length_set]; exact E.len
        · have hne : (r : Int).toNat ≠ y := fun e => by
            rw [Int.toNat_natCast] at e
            rw [← e, hr] at hy; cases hy
          show _ = (s'.places.set (r : Int).toNat n).getD y 0
          rw [List.getD_eq_getElem?_getD (l := s'.places.set _ _), List.getElem?_set_ne hne, ← List.getD_eq_getElem?_getD]
          exact E.at_ y hy
      obtain ⟨t', q1, q2⟩ := ih (s' := setP s' r n) (m := m - 1) E2 (by unfold cph; rw [if_pos ⟨rfl, Nat.le_refl _⟩]; omega)
      refine ⟨t', ?_, q2⟩
      unfold psi; rw [if_neg (by omega)]
      unfold phi at q1; rw [if_pos ⟨rfl, Nat.le_refl _⟩] at q1
      refine .step (x := insB x k [constI r n]) (y := constI r n) (by rw [List.getElem?_set_self hil]) ?_ ?_ q1
      · unfold insB
        show (x.ins.take k ++ [constI r n] ++ x.ins.drop k)[k]? = _
        rw [List.append_assoc, List.getElem?_append_right (by rw [List.length_take]; omega)]
        rw [List.length_take, Nat.min_eq_left hat, Nat.sub_self]; rfl
      · have hl : (addL s' m).left ≠ 0 := by
          show s'.left + m ≠ 0
          have := E.left
          omega
        rw [stepM_1 (show (constI r n).kind = 1 from rfl) hl]
        show (setP _ r n, true) = (addL (setP s' r n) (m - 1), true)
        unfold addL setP
        simp only [Prod.mk.injEq, Rs.mk.injEq, and_true, true_and]
        omega
    · have e1 : psi i at_ 1 b k = phi i at_ 1 b k := by unfold psi phi; split <;> split <;> omega
      have e2 : cps i at_ b k = cph i at_ b k := by unfold cps cph; split <;> split <;> omega
      rw [e1]; rw [e2] at hm
      exact ih E hm
  have cpos : ∀ b k, 1 ≤ cph i at_ b k ∧ cph i at_ b k ≤ 2 := fun b k => by unfold cph; split <;> omega
  induction h with
  | @stop b k s t z y h1 h2 h3 =>
    intro hw h0 s' m E hm
    obtain ⟨p, hp⟩ := get h1
    have hzm := List.mem_of_getElem? h1
    have hym := List.mem_of_getElem? h2
    rw [fromP_at h1 hp, drop_foldr h2] at E
    obtain ⟨e1, e2, e3⟩ := E.step (R := V) ((hR z hzm).ins y hym) ((hK z hzm).2 y hym)
    rw [h3] at e1 e3
    replace e1 : false = (stepM V y s').2 := e1
    obtain ⟨z', w1, w2⟩ := insB_get (ys := [constI r n]) hx hat h1 h2
    have hl : s'.left ≠ 0 ∨ ¬ Paid y := by
      by_cases hpd : Paid y
      · left
        intro hz
        have hs : s.left = 0 := by rw [E.left]; exact hz
        rw [stepM_0 hpd hs] at h3
        cases h3
        exact hw rfl
      · exact .inr hpd
    have hmo := stepM_more (R := V) (x := y) (s := s') (m := m) (by rw [← E.left]; exact h0) (by have := (cpos b k).1; omega) hl
    refine ⟨addL (stepM V y s').1 m, .stop w1 w2 (by rw [hmo, ← e1]), ?_⟩
    exact ⟨e3.1, e3.2.1, e3.2.2.1, e3.2.2.2.1⟩
  | @step b k s t f z y h1 h2 h3 h4 ih =>
    intro hw h0 s' m E hm
    obtain ⟨p, hp⟩ := get h1
    have hzm := List.mem_of_getElem? h1
    have hym := List.mem_of_getElem? h2
    rw [fromP_at h1 hp, drop_foldr h2] at E
    obtain ⟨e1, e2, e3⟩ := E.step (R := V) ((hR z hzm).ins y hym) ((hK z hzm).2 y hym)
    have hleft := stepM_left0 (R := V) (x := y) h0
    rw [h3] at e1 e2 hleft
    replace e1 : true = (stepM V y s').2 := e1
    have E2 := e2 rfl
    have ht0 := hleft.2 rfl
    have htl := hleft.1
    rw [← fromP_at h1 hp] at E2
    obtain ⟨z', w1, w2⟩ := insB_get (ys := [constI r n]) hx hat h1 h2
    have hl : s'.left ≠ 0 ∨ ¬ Paid y := by
      by_cases hpd : Paid y
      · left
        intro hz
        have hs : s.left = 0 := by rw [E.left]; exact hz
        rw [stepM_0 hpd hs] at h3
        cases h3
      · exact .inr hpd
    have hmo := stepM_more (R := V) (x := y) (s := s') (m := m) (by rw [← E.left]; exact h0) (by have := (cpos b k).1; omega) hl
    have ih' := back (t := f) ht0 (fun {s' m} a c => ih hw ht0 a c) E2 (m := m) (by rw [← cph_next]; replace htl : t.left ≤ s.left := htl; omega)
    obtain ⟨t', q1, q2⟩ := ih'
    refine ⟨t', .step w1 w2 (by rw [hmo, ← e1]) ?_, q2⟩
    rw [phi_next]; exact q1
  | @fin b k s t z h1 hk h2 =>
    intro hw h0 s' m E hm
    obtain ⟨p, hp⟩ := get h1
    have hzm := List.mem_of_getElem? h1
    rw [fromP_at h1 hp, hk, List.drop_length] at E
    obtain ⟨e1, e2⟩ := EqR.fin (p := p) (hR z hzm) (hK z hzm).1 E
    rw [h2] at e1 e2
    replace e1 : none = (endS z.en s').2 := e1
    obtain ⟨z', w1, w2, w3⟩ := insB_end (ys := [constI r n]) hx hat h1 hk
    have hl : s'.left ≠ 0 := fun hz => by
      have hs : s.left = 0 := by rw [E.left]; exact hz
      rw [endS_0 hs] at h2
      cases h2
      exact hw rfl
    have hmo := endS_more (e := z.en) (s := s') (m := m) (by rw [← E.left]; exact h0) (by have := (cpos b k).1; omega) hl
    refine ⟨addL (endS z.en s').1 m, .fin w1 w2 (by rw [w3, hmo, ← e1]), ?_⟩
    exact ⟨e2.how, e2.value, e2.calls, e2.mem⟩
  | @go b k s t f z c h1 hk h2 h3 ih =>
    intro hw h0 s' m E hm
    obtain ⟨p, hp⟩ := get h1
    have hzm := List.mem_of_getElem? h1
    rw [fromP_at h1 hp, hk, List.drop_length] at E
    obtain ⟨e1, e2⟩ := EqR.fin (p := p) (hR z hzm) (hK z hzm).1 E
    rw [h2] at e1 e2
    replace e1 : some (c : Int) = (endS z.en s').2 := e1
    obtain ⟨z', w1, w2, w3⟩ := insB_end (ys := [constI r n]) hx hat h1 hk
    have hs0 : s.left ≠ 0 := fun hz => by
      rw [endS_0 hz] at h2
      cases h2
    have hl : s'.left ≠ 0 := by rw [← E.left]; exact hs0
    have htl : t.left = s.left - 1 := by
      unfold endS at h2
      rw [if_neg hs0] at h2
      split at h2
      · cases h2
      · split at h2
        · simp only [Prod.mk.injEq] at h2; rw [← h2.1]
        · simp only [Prod.mk.injEq] at h2; rw [← h2.1]
    have hmo := endS_more (e := z.en) (s := s') (m := m) (by rw [← E.left]; exact h0) (by have := (cpos b k).1; omega) hl
    have hc : c ∈ nextN B b := (mem_next hO h1).1 (endS_next (hK z hzm).1 h2)
    have hcN := nextN_lt hO hc
    have hcx := List.getElem?_eq_getElem hcN
    obtain ⟨q, hq⟩ := get hcx
    have low : LeP (fromP B L c 0) p := fun y hy => by
      rw [fromP_at hcx hq, List.drop_zero] at hy
      have : blkP B c q y = true := by rw [blkP_at hcx]; exact hy
      exact (eqV hO K hp y).2 ⟨c, q, hc, hq, this⟩
    have ht0 : 0 ≤ t.left := by omega
    have ih' := back (t := f) ht0 (fun {s' m} a d => ih hw ht0 a d) (e2.mono low) (m := m) (by have := (cpos b k).1; unfold cps; rw [if_neg (by omega)]; omega)
    obtain ⟨t', z1, z2⟩ := ih'
    refine ⟨t', .go w1 w2 (c := c) (by rw [w3, hmo, ← e1]) ?_, z2⟩
    have : psi i at_ 1 c 0 = 0 := by unfold psi; rw [if_neg (by omega)]
    rw [this] at z1; exact z1
/-- From the beginning on. -/
theorem given_start (hO : OkB B) (hR : RegL B) (hK : KindB B) (K : Solved (flV B) L) (hx : B[i]? = some x) (hat : at_ ≤ x.ins.length) (hr : fromP B L i at_ r = false) {s t : Rs} (h : Runs B V 0 0 s t) (hw : t.how ≠ 3) (h0 : 0 ≤ s.left) {m : Int} (hm : s.left + 2 ≤ m) :
    ∃ t', Runs (B.set i (insB x at_ [constI r n])) V 0 0 (addL s m) t' ∧ SameL t t' := by
  have E : EqR (fromP B L 0 0) s s := ⟨rfl, rfl, rfl, rfl, rfl, rfl, rfl, fun _ _ => rfl⟩
  have hil := (List.getElem?_eq_some_iff.1 hx).1
  by_cases hc : 0 = i ∧ at_ = 0
  · obtain ⟨rfl, rfl⟩ := hc
    have E2 : EqR (fromP B L 0 0) s (setP s r n) := by
      refine ⟨rfl, rfl, rfl, rfl, rfl, rfl, ?_, fun y hy => ?_⟩
      · show _ = (s.places.set _ _).length
        rw [List.length_set]
      · have hne : (r : Int).toNat ≠ y := fun e => by
          rw [Int.toNat_natCast] at e
          rw [← e, hr] at hy; cases hy
        show _ = (s.places.set (r : Int).toNat n).getD y 0
        rw [List.getD_eq_getElem?_getD (l := s.places.set _ _), List.getElem?_set_ne hne, ← List.getD_eq_getElem?_getD]
    obtain ⟨t', q1, q2⟩ := given_run (n := n) hO hR hK K hx hat hr h hw h0 (s' := setP s r n) (m := m - 1) E2 (by unfold cph; rw [if_pos ⟨rfl, Nat.le_refl _⟩]; omega)
    refine ⟨t', ?_, q2⟩
    unfold phi at q1; rw [if_pos ⟨rfl, Nat.le_refl _⟩] at q1
    refine .step (x := insB x 0 [constI r n]) (y := constI r n) (by rw [List.getElem?_set_self hil]) rfl ?_ q1
    have hl : (addL s m).left ≠ 0 := by
      show s.left + m ≠ 0
      omega
    rw [stepM_1 (show (constI r n).kind = 1 from rfl) hl]
    show (setP _ r n, true) = (addL (setP s r n) (m - 1), true)
    unfold addL setP
    simp only [Prod.mk.injEq, Rs.mk.injEq, and_true, true_and]
    omega
  · obtain ⟨t', q1, q2⟩ := given_run (n := n) hO hR hK K hx hat hr h hw h0 E (m := m) (by unfold cph; split <;> omega)
    refine ⟨t', ?_, q2⟩
    have : phi i at_ 1 0 0 = 0 := by unfold phi; rw [if_neg (by omega)]
    rw [this] at q1; exact q1
end
end Go.Proofs.YtbbicdfipheaeaaDoor
