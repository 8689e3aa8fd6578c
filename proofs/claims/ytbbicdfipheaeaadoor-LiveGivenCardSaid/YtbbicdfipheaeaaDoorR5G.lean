/-
  What flows, told without a worklist: what comes by some way, and rounds over all blocks that find it. Conditions: none (definitions and plain lemmas).
-/
import Derived.Test.YtbbicdfipheaeaaDoorR5F
set_option linter.unusedVariables false
set_option linter.unusedSimpArgs false
namespace Go.Proofs.YtbbicdfipheaeaaDoor
open Go

section
variable {B : List Blk} {back : Bool} {S M : List (List Nat)} {n : Nat}
/-- It comes to a block by some way. -/
inductive Der (B : List Blk) (back : Bool) (S M : List (List Nat)) (n : Nat) : Nat → Prop
  | new {b a : Nat} : b < B.length → a ∈ frmB back B b → n ∈ rowAt M a → Der B back S M n b
  | on {b a : Nat} : b < B.length → a ∈ frmB back B b → Der B back S M n a → n ∉ rowAt S a → Der B back S M n b
theorem pass_true {b : Nat} {p : SP} : passP S M b p n = true ↔ n ∈ rowAt M b ∨ (p n = true ∧ n ∉ rowAt S b) := by
  unfold passP orP lessP ofP
  simp only [Bool.or_eq_true, Bool.and_eq_true, Bool.not_eq_true', decide_eq_true_eq, decide_eq_false_iff_not]
  exact Or.comm
theorem way_der {l : List SP} (h : Way (flS B back (fun _ _ => false) S M) l) : ∀ {b : Nat} {x : SP}, l[b]? = some x → x n = true → Der B back S M n b := by
  induction h with
  | first =>
    intro b x hx hn
    rw [List.getElem?_map, Option.map_eq_some_iff] at hx
    obtain ⟨c, h1, rfl⟩ := hx
    cases hn
  | @step l b a x y z hw hb ha hx hy hz ok ih =>
    intro c w hc hn
    rw [List.getElem?_set] at hc
    split at hc
    · rename_i e
      subst e
      split at hc
      · cases hc
        replace hn : (x n || passP S M a z n) = true := hn
        rw [Bool.or_eq_true] at hn
        rcases hn with hn | hn
        · exact ih hx hn
        · rcases pass_true.1 hn with q | ⟨q1, q2⟩
          · exact .new hb ha q
          · exact .on hb ha (ih hy (hz n q1)) q2
      · cases hc
    · exact ih hc hn
theorem der_in (hB : OkB B) {l : List SP} (K : Solved (flS B back (fun _ _ => false) S M) l) {b : Nat} (h : Der B back S M n b) : ∀ {x : SP}, l[b]? = some x → x n = true := by
  have get : ∀ {a}, a < B.length → ∃ y, l[a]? = some y := fun {a} ha => ⟨_, List.getElem?_eq_getElem (by rw [K.len]; exact ha)⟩
  induction h with
  | new hb ha hm =>
    intro x hx
    obtain ⟨y, hy⟩ := get (frmB_lt hB ha)
    exact K.closed hb ha hx hy n (pass_true.2 (.inl hm))
  | on hb ha _ hs ih =>
    intro x hx
    obtain ⟨y, hy⟩ := get (frmB_lt hB ha)
    exact K.closed hb ha hx hy n (pass_true.2 (.inr ⟨ih hy, hs⟩))

/-! ### Rounds over all blocks -/
def Cond (S M : List (List Nat)) (n : Nat) (l : List Bool) (a : Nat) : Prop := n ∈ rowAt M a ∨ (l[a]? = some true ∧ n ∉ rowAt S a)
def Clo (B : List Blk) (back : Bool) (S M : List (List Nat)) (n : Nat) (l : List Bool) : Prop := ∀ b, b < B.length → ∀ a ∈ frmB back B b, Cond S M n l a → l[b]? = some true
def unk (l : List Bool) : Nat := potS (fun v => if v then 0 else 1) l
theorem unk_le : ∀ l : List Bool, unk l ≤ l.length
  | [] => Nat.le_refl _
  | v :: l => by
    have := unk_le l
    unfold unk potS at *
    simp only [List.map_cons, List.foldr_cons, List.length_cons]
    split <;> omega
theorem unk_zero : ∀ {l : List Bool}, unk l = 0 → ∀ {b : Nat} {v : Bool}, l[b]? = some v → v = true
  | [], _, b, v, h => by simp at h
  | w :: l, h0, b, v, h => by
    have h1 : (if w then 0 else 1) + unk l = 0 := h0
    cases b with
    | zero =>
      simp at h; subst h
      cases w with
      | true => rfl
      | false => simp at h1
    | succ b => exact unk_zero (l := l) (b := b) (by omega) (by simpa using h)
structure RI (B : List Blk) (back : Bool) (S M : List (List Nat)) (n r : Nat) (l : List Bool) : Prop where
  len : l.length = B.length
  sound : ∀ {b}, l[b]? = some true → Der B back S M n b
  more : Clo B back S M n l ∨ unk l + r ≤ B.length
theorem RI.zero : RI B back S M n 0 (List.replicate B.length false) := by
  refine ⟨by simp, fun {b} h => ?_, .inr ?_⟩
  · rw [List.getElem?_replicate] at h; split at h <;> cases h
  · have := unk_le (List.replicate B.length false)
    rw [List.length_replicate] at this; omega
theorem RI.fin {l : List Bool} (K : RI B back S M n B.length l) {b : Nat} {v : Bool} (h : l[b]? = some v) : v = true ↔ Der B back S M n b := by
  constructor
  · rintro rfl; exact K.sound h
  · intro hd
    rcases K.more with c | c
    · have : ∀ {b}, Der B back S M n b → l[b]? = some true := fun {b} hd => by
        induction hd with
        | new hb ha hm => exact c _ hb _ ha (.inl hm)
        | on hb ha _ hs ih => exact c _ hb _ ha (.inr ⟨ih, hs⟩)
      have := this hd
      rw [h] at this; cases this; rfl
    · exact unk_zero (by omega) h
structure RIn (B : List Blk) (back : Bool) (S M : List (List Nat)) (n : Nat) (l0 : List Bool) (b j : Nat) (l : List Bool) : Prop where
  len : l.length = B.length
  sound : ∀ {b}, l[b]? = some true → Der B back S M n b
  more : (unk l < unk l0 ∧ ¬ Clo B back S M n l0) ∨ (l = l0 ∧ (∀ c, c < b → ∀ a ∈ frmB back B c, Cond S M n l a → l[c]? = some true) ∧ ∀ a ∈ (frmB back B b).take j, Cond S M n l a → l[b]? = some true)
theorem RI.begin {r : Nat} {l : List Bool} (K : RI B back S M n r l) : RIn B back S M n l 0 0 l := ⟨K.len, K.sound, .inr ⟨rfl, fun c hc => by omega, fun a ha => by simp at ha⟩⟩
theorem RIn.end_ {r : Nat} {l0 l : List Bool} (K0 : RI B back S M n r l0) (K : RIn B back S M n l0 B.length 0 l) : RI B back S M n (r + 1) l := by
  refine ⟨K.len, K.sound, ?_⟩
  rcases K.more with ⟨h1, h2⟩ | ⟨h1, h2, -⟩
  · rcases K0.more with c | c
    · exact absurd c h2
    · exact .inr (by omega)
  · exact .inl h2
theorem RIn.next {b : Nat} {l0 l : List Bool} (K : RIn B back S M n l0 b (frmB back B b).length l) : RIn B back S M n l0 (b + 1) 0 l := by
  refine ⟨K.len, K.sound, ?_⟩
  rcases K.more with h | ⟨h1, h2, h3⟩
  · exact .inl h
  · refine .inr ⟨h1, fun c hc => ?_, fun a ha => by simp at ha⟩
    by_cases e : c = b
    · subst e; rw [List.take_length] at h3; exact h3
    · exact h2 c (by omega)
theorem RIn.skip {b j a : Nat} {l0 l : List Bool} (K : RIn B back S M n l0 b j l) (ha : (frmB back B b)[j]? = some a) (hc : ¬ Cond S M n l a) : RIn B back S M n l0 b (j + 1) l := by
  refine ⟨K.len, K.sound, ?_⟩
  rcases K.more with h | ⟨h1, h2, h3⟩
  · exact .inl h
  · refine .inr ⟨h1, h2, fun c hc' => ?_⟩
    rw [List.take_add_one, ha] at hc'
    rcases List.mem_append.1 hc' with q | q
    · exact h3 c q
    · simp at q; subst q; exact fun h => absurd h hc
theorem RIn.put {b j a : Nat} {l0 l : List Bool} (K : RIn B back S M n l0 b j l) (hb : b < B.length) (ha : (frmB back B b)[j]? = some a) (hc : Cond S M n l a) : RIn B back S M n l0 b (j + 1) (l.set b true) := by
  have ham : a ∈ frmB back B b := List.mem_of_getElem? ha
  have hd : Der B back S M n b := by
    rcases hc with q | ⟨q1, q2⟩
    · exact .new hb ham q
    · exact .on hb ham (K.sound q1) q2
  have hbl : b < l.length := by rw [K.len]; exact hb
  obtain ⟨v, hv⟩ : ∃ v, l[b]? = some v := ⟨_, List.getElem?_eq_getElem hbl⟩
  cases v with
  | true =>
    have e : l.set b true = l := by
      apply List.ext_getElem?
      intro i
      rw [List.getElem?_set]
      by_cases e : b = i
      · subst e; rw [if_pos rfl, if_pos hbl, hv]
      · rw [if_neg e]
    rw [e]
    refine ⟨K.len, K.sound, ?_⟩
    rcases K.more with h | ⟨h1, h2, h3⟩
    · exact .inl h
    · refine .inr ⟨h1, h2, fun c hc' => ?_⟩
      rw [List.take_add_one, ha] at hc'
      rcases List.mem_append.1 hc' with q | q
      · exact h3 c q
      · exact fun _ => hv
  | false =>
    have hlt : unk (l.set b true) < unk l := potS_set _ hv (by simp)
    refine ⟨by rw [List.length_set]; exact K.len, fun {c} h => ?_, .inl ⟨?_, ?_⟩⟩
    · rw [List.getElem?_set] at h
      split at h
      · rename_i e; subst e; exact hd
      · exact K.sound h
    · rcases K.more with ⟨h, _⟩ | ⟨h, _⟩
      · omega
      · rw [h] at hlt ⊢; exact hlt
    · rcases K.more with ⟨_, h⟩ | ⟨h, _⟩
      · exact h
      · intro hcl
        rw [h] at hv hc
        have := hcl b hb a ham hc
        rw [hv] at this; cases this
end
end Go.Proofs.YtbbicdfipheaeaaDoor
