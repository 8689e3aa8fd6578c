/-
  Facts that flow from block to block: what a worklist comes to. Conditions: none (definitions and plain lemmas).
-/
import Derived.Test.YtgcaicdmjbkplaaDoorVa
set_option linter.unusedVariables false
set_option linter.unusedSimpArgs false
namespace Go.Proofs.YtgcaicdmjbkplaaDoor
open Go

/-- What flows: how many blocks, from where facts come, what is known at first, what blocks make of facts, how they are joined, whether that changes something; an order of facts, how often a fact may still change, which facts may be at a block. -/
structure FlowS (A : Type) where
  N : Nat
  frm : Nat → List Nat
  first : Nat → A
  pass : Nat → A → A
  join : A → A → A
  chg : A → A → Bool
  le : A → A → Prop
  pot : A → Nat
  ok : Nat → A → Prop
structure FlowS.Good {A : Type} (F : FlowS A) : Prop where
  frm_lt : ∀ {b a}, b < F.N → a ∈ F.frm b → a < F.N
  refl : ∀ x, F.le x x
  trans : ∀ {x y z}, F.le x y → F.le y z → F.le x z
  left : ∀ x y, F.le x (F.join x y)
  right : ∀ x y, F.le y (F.join x y)
  same : ∀ {b a x y}, b < F.N → a ∈ F.frm b → F.ok b x → F.ok a y → F.chg x (F.pass a y) = false → F.join x (F.pass a y) = x
  fall : ∀ {b a x y}, b < F.N → a ∈ F.frm b → F.ok b x → F.ok a y → F.chg x (F.pass a y) = true → F.pot (F.join x (F.pass a y)) < F.pot x
  first_ok : ∀ {b}, b < F.N → F.ok b (F.first b)
  step_ok : ∀ {b a x y}, b < F.N → a ∈ F.frm b → F.ok b x → F.ok a y → F.ok b (F.join x (F.pass a y))
section
variable {A : Type} {F : FlowS A}
/-- What may be come to, join by join. -/
inductive Way (F : FlowS A) : List A → Prop
  | first : Way F ((List.range F.N).map F.first)
  | step {l : List A} {b a : Nat} {x y z : A} : Way F l → b < F.N → a ∈ F.frm b → l[b]? = some x → l[a]? = some y → F.le z y → F.ok a z → Way F (l.set b (F.join x (F.pass a z)))
structure Solved (F : FlowS A) (l : List A) : Prop where
  len : l.length = F.N
  way : Way F l
  ok : ∀ {b x}, l[b]? = some x → F.ok b x
  fst : ∀ {b x}, l[b]? = some x → F.le (F.first b) x
  closed : ∀ {b a x y}, b < F.N → a ∈ F.frm b → l[b]? = some x → l[a]? = some y → F.le (F.pass a y) x
def potS (pot : A → Nat) (l : List A) : Nat := (l.map pot).foldr (· + ·) 0
theorem potS_set (pot : A → Nat) : ∀ {l : List A} {n : Nat} {x y : A}, l[n]? = some x → pot y < pot x → potS pot (l.set n y) < potS pot l
  | [], n, x, y, h, _ => by simp at h
  | u :: l, 0, x, y, h, hp => by
    simp at h; subst h
    simp only [potS, List.set_cons_zero, List.map_cons, List.foldr_cons]; omega
  | u :: l, n + 1, x, y, h, hp => by
    have := potS_set pot (l := l) (n := n) (by simpa using h) hp
    simp only [potS, List.set_cons_succ, List.map_cons, List.foldr_cons] at this ⊢; omega
/-- Between two rounds. -/
structure Round (F : FlowS A) (l : List A) (q : List Nat) : Prop where
  len : l.length = F.N
  way : Way F l
  ok : ∀ {b x}, l[b]? = some x → F.ok b x
  fst : ∀ {b x}, l[b]? = some x → F.le (F.first b) x
  nd : q.Nodup
  lt : ∀ b ∈ q, b < F.N
  closed : ∀ {b a x y}, a ∉ q → b < F.N → a ∈ F.frm b → l[b]? = some x → l[a]? = some y → F.le (F.pass a y) x
theorem Round.solved {l : List A} (K : Round F l []) : Solved F l := ⟨K.len, K.way, K.ok, K.fst, fun h1 h2 h3 h4 => K.closed (by simp) h1 h2 h3 h4⟩
theorem Round.begin (G : F.Good) : Round F ((List.range F.N).map F.first) (List.range F.N) := by
  have get : ∀ {b x}, ((List.range F.N).map F.first)[b]? = some x → b < F.N ∧ x = F.first b := fun {b x} h => by
    rw [List.getElem?_map, Option.map_eq_some_iff] at h
    obtain ⟨c, h1, h2⟩ := h
    obtain ⟨h3, h4⟩ := List.getElem?_eq_some_iff.1 h1
    rw [List.length_range] at h3
    rw [List.getElem_range] at h4
    subst h4
    exact ⟨h3, h2.symm⟩
  refine ⟨by simp, .first, fun h => ?_, fun h => ?_, List.nodup_range, fun b hb => List.mem_range.1 hb, fun hn h1 h2 => absurd (List.mem_range.2 (G.frm_lt h1 h2)) hn⟩
  · obtain ⟨h1, rfl⟩ := get h; exact G.first_ok h1
  · obtain ⟨h1, rfl⟩ := get h; exact G.refl _
/-- Within a round: block b is done with as far as its first followers go; z is what it had when it was taken. -/
structure Within (F : FlowS A) (b : Nat) (z : A) (D : List Nat) (j : Nat) (l : List A) (q : List Nat) : Prop where
  len : l.length = F.N
  way : Way F l
  ok : ∀ {b x}, l[b]? = some x → F.ok b x
  fst : ∀ {b x}, l[b]? = some x → F.le (F.first b) x
  nd : q.Nodup
  lt : ∀ b ∈ q, b < F.N
  zle : ∃ y, l[b]? = some y ∧ F.le z y
  zok : F.ok b z
  cl1 : ∀ {c a x y}, a ∉ q → a ≠ b → c < F.N → a ∈ F.frm c → l[c]? = some x → l[a]? = some y → F.le (F.pass a y) x
  cl2 : b ∉ q → l[b]? = some z ∧ ∀ n ∈ D.take j, ∀ x, l[n]? = some x → F.le (F.pass b z) x
theorem Round.take (G : F.Good) {l : List A} {b : Nat} {q D : List Nat} (K : Round F l (b :: q)) {z : A} (hz : l[b]? = some z) : Within F b z D 0 l q := by
  obtain ⟨h1, h2⟩ := List.nodup_cons.1 K.nd
  refine ⟨K.len, K.way, K.ok, K.fst, h2, fun c hc => K.lt c (List.mem_cons_of_mem _ hc), ⟨z, hz, G.refl _⟩, K.ok hz, fun ha hne hc hf hx hy => ?_, fun _ => ⟨hz, fun n hn => by simp at hn⟩⟩
  exact K.closed (by rw [List.mem_cons]; rintro (e | e); exact hne e; exact ha e) hc hf hx hy
theorem Within.done {l : List A} {b : Nat} {z : A} {q D : List Nat} (K : Within F b z D D.length l q) (hD : ∀ n, n < F.N → b ∈ F.frm n → n ∈ D) : Round F l q := by
  refine ⟨K.len, K.way, K.ok, K.fst, K.nd, K.lt, fun {c a x y} ha hc hf hx hy => ?_⟩
  by_cases e : a = b
  · subst e
    obtain ⟨h1, h2⟩ := K.cl2 ha
    rw [h1] at hy; cases hy
    rw [List.take_length] at h2
    exact h2 c (hD c hc hf) x hx
  · exact K.cl1 ha e hc hf hx hy
theorem Within.skip {l : List A} {b n j : Nat} {z x : A} {q D : List Nat} (G : F.Good) (K : Within F b z D j l q) (hn : D[j]? = some n) (hnN : n < F.N) (hf : b ∈ F.frm n) (hx : l[n]? = some x) (hc : F.chg x (F.pass b z) = false) : Within F b z D (j + 1) l q := by
  refine ⟨K.len, K.way, K.ok, K.fst, K.nd, K.lt, K.zle, K.zok, K.cl1, fun hb => ?_⟩
  obtain ⟨h1, h2⟩ := K.cl2 hb
  refine ⟨h1, fun m hm y hy => ?_⟩
  rw [List.take_add_one, hn, List.mem_append] at hm
  rcases hm with hm | hm
  · exact h2 m hm y hy
  · simp at hm
    subst hm
    rw [hx] at hy; cases hy
    have := G.right x (F.pass b z)
    rwa [G.same hnN hf (K.ok hx) K.zok hc] at this
theorem Within.put {l : List A} {b n j : Nat} {z x : A} {q D : List Nat} (G : F.Good) (K : Within F b z D j l q) (hn : D[j]? = some n) (hnN : n < F.N) (hf : b ∈ F.frm n) (hx : l[n]? = some x) (hc : F.chg x (F.pass b z) = true) :
    Within F b z D (j + 1) (l.set n (F.join x (F.pass b z))) (if n ∈ q then q else q ++ [n]) ∧ potS F.pot (l.set n (F.join x (F.pass b z))) < potS F.pot l := by
  have hlt := (List.getElem?_eq_some_iff.1 hx).1
  have self : (l.set n (F.join x (F.pass b z)))[n]? = some (F.join x (F.pass b z)) := List.getElem?_set_self hlt
  have other : ∀ m, m ≠ n → (l.set n (F.join x (F.pass b z)))[m]? = l[m]? := fun m hm => List.getElem?_set_ne (fun e => hm e.symm)
  have up : ∀ m y, (l.set n (F.join x (F.pass b z)))[m]? = some y → ∃ y', l[m]? = some y' ∧ F.le y' y := fun m y hy => by
    by_cases e : m = n
    · subst e; rw [self] at hy; cases hy; exact ⟨x, hx, G.left _ _⟩
    · rw [other m e] at hy; exact ⟨y, hy, G.refl _⟩
  obtain ⟨y0, z1, z2⟩ := K.zle
  have inq : ∀ m, m ∉ (if n ∈ q then q else q ++ [n]) → m ∉ q ∧ m ≠ n := fun m hm => by
    split at hm
    · rename_i h; exact ⟨hm, fun e => hm (by rw [e]; exact h)⟩
    · simp only [List.mem_append, List.mem_singleton, not_or] at hm; exact hm
  refine ⟨⟨by rw [List.length_set]; exact K.len, Way.step K.way hnN hf hx z1 z2 K.zok, fun {c y} hy => ?_, fun {c y} hy => ?_, ?_, fun c hc => ?_, ?_, K.zok, fun {c a x' y'} ha hne hcN hfc hx' hy' => ?_, fun hb => ?_⟩, potS_set F.pot hx (G.fall hnN hf (K.ok hx) K.zok hc)⟩
  · by_cases e : c = n
    · subst e; rw [self] at hy; cases hy; exact G.step_ok hnN hf (K.ok hx) K.zok
    · rw [other c e] at hy; exact K.ok hy
  · obtain ⟨y', h1, h2⟩ := up c y hy
    exact G.trans (K.fst h1) h2
  · split
    · exact K.nd
    · rename_i h
      refine List.nodup_append.2 ⟨K.nd, by simp, fun a ha c hc e => ?_⟩
      rw [List.mem_singleton] at hc; subst hc; subst e; exact h ha
  · split at hc
    · exact K.lt c hc
    · rcases List.mem_append.1 hc with hc | hc
      · exact K.lt c hc
      · rw [List.mem_singleton] at hc; subst hc; exact hnN
  · by_cases e : b = n
    · subst e
      rw [hx] at z1; cases z1
      exact ⟨_, self, G.trans z2 (G.left _ _)⟩
    · exact ⟨y0, by rw [other b e]; exact z1, z2⟩
  · obtain ⟨q1, q2⟩ := inq a ha
    rw [other a q2] at hy'
    obtain ⟨x'', h1, h2⟩ := up c x' hx'
    exact G.trans (K.cl1 q1 hne hcN hfc h1 hy') h2
  · obtain ⟨q1, q2⟩ := inq b hb
    obtain ⟨c1, c2⟩ := K.cl2 q1
    refine ⟨by rw [other b q2]; exact c1, fun m hm y hy => ?_⟩
    rw [List.take_add_one, hn, List.mem_append] at hm
    by_cases e : m = n
    · subst e; rw [self] at hy; cases hy; exact G.right _ _
    · rcases hm with hm | hm
      · rw [other m e] at hy; exact c2 m hm y hy
      · simp at hm; exact absurd hm e
end
end Go.Proofs.YtgcaicdmjbkplaaDoor
