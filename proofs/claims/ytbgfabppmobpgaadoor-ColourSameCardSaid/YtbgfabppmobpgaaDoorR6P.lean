/-
  Registers that leave out as little as may be: the plain law of the search. Conditions: none (definitions and plain lemmas).
-/
import Derived.Test.YtbgfabppmobpgaaDoorR5T
set_option linter.unusedVariables false
set_option linter.unusedSimpArgs false
namespace Go.Proofs.YtbgfabppmobpgaaDoor
open Go

/-! ### Sets that are near -/
def nrL (L : List SP) (v : Nat) : SP := L.getD v fun _ => false
@[irreducible] def allS (p : SP) : List Nat := (List.range 4096).filter p
def linkL (a : Nat) (L : List SP) (v : Nat) : List SP := (L.set a (insP (nrL L a) v)).set v (insP (nrL (L.set a (insP (nrL L a) v)) v) a)
theorem mem_allS {p : SP} {x : Nat} : x ∈ allS p ↔ x < 4096 ∧ p x = true := by unfold allS; rw [List.mem_filter, List.mem_range]
theorem allS_len (p : SP) : (allS p).length = cntP p := by unfold allS cntP; rfl
theorem nrL_set {L : List SP} {i x : Nat} {p : SP} (hi : i < L.length) : nrL (L.set i p) x = if x = i then p else nrL L x := by
  unfold nrL
  simp only [List.getD_eq_getElem?_getD, List.getElem?_set]
  by_cases e : i = x
  · subst e; simp [hi]
  · rw [if_neg e, if_neg (fun h => e h.symm)]
theorem nrL_some {L : List SP} {v : Nat} (h : v < L.length) : L[v]? = some (nrL L v) := by
  unfold nrL; rw [List.getD_eq_getElem?_getD, List.getElem?_eq_getElem h]; rfl
theorem linkL_len (a v : Nat) (L : List SP) : (linkL a L v).length = L.length := by simp [linkL]
theorem linkL_nr {a v : Nat} {L : List SP} (ha : a < L.length) (hv : v < L.length) (x y : Nat) : nrL (linkL a L v) x y = true ↔ nrL L x y = true ∨ (x = a ∧ y = v) ∨ (y = a ∧ x = v) := by
  unfold linkL
  rw [nrL_set (by simpa using hv)]
  have e1 : ∀ z, nrL (L.set a (insP (nrL L a) v)) z = if z = a then insP (nrL L a) v else nrL L z := fun z => nrL_set ha
  by_cases hxv : x = v
  · rw [if_pos hxv, e1]
    by_cases hva : v = a
    · rw [if_pos hva]; subst hva; subst hxv; unfold insP; simp
    · rw [if_neg hva]; unfold insP; subst hxv; simp [hva]
  · rw [if_neg hxv, e1]
    by_cases hxa : x = a
    · rw [if_pos hxa]; unfold insP; subst hxa; simp [hxv]
    · rw [if_neg hxa]; simp [hxa, hxv]

abbrev gt (got : List Int) (v : Nat) : Int := got.getD v (-1)
theorem gt_set {got : List Int} {v u : Nat} {x : Int} (hv : v < got.length) : gt (got.set v x) u = if u = v then x else gt got u := by
  unfold gt
  simp only [List.getD_eq_getElem?_getD, List.getElem?_set]
  by_cases e : v = u
  · subst e; simp [hv]
  · rw [if_neg e, if_neg (fun h => e h.symm)]
theorem gt_some {l : List Int} {v : Nat} (hv : v < l.length) : l[v]? = some (gt l v) := by
  unfold gt; rw [List.getD_eq_getElem?_getD, List.getElem?_eq_getElem hv]; rfl
/-! ### Edges -/
abbrev EdgeL := List (Int × Int)
def Adj (E : EdgeL) (u v : Nat) : Prop := ((u : Int), (v : Int)) ∈ E ∨ ((v : Int), (u : Int)) ∈ E
instance (E : EdgeL) (u v : Nat) : Decidable (Adj E u v) := by unfold Adj; infer_instance
theorem Adj.symm {E : EdgeL} {u v : Nat} (h : Adj E u v) : Adj E v u := Or.symm h
/-- Registers, so far as the first vregs go. -/
def OkTo (E : EdgeL) (k : Int) (n : Nat) (f : Nat → Int) : Prop := (∀ u, u < n → -1 ≤ f u ∧ f u < k) ∧ ∀ u v, u < v → v < n → Adj E u v → 0 ≤ f u → f u ≠ f v
theorem OkTo.less {E : EdgeL} {k : Int} {n m : Nat} {f : Nat → Int} (h : OkTo E k n f) (hm : m ≤ n) : OkTo E k m f :=
  ⟨fun u hu => h.1 u (by omega), fun u v h1 h2 => h.2 u v h1 (by omega)⟩
theorem OkTo.congr {E : EdgeL} {k : Int} {n : Nat} {f g : Nat → Int} (h : OkTo E k n f) (e : ∀ u, u < n → g u = f u) : OkTo E k n g :=
  ⟨fun u hu => by rw [e u hu]; exact h.1 u hu, fun u v h1 h2 ha h0 => by
    rw [e u (by omega)] at h0 ⊢; rw [e v h2]; exact h.2 u v h1 h2 ha h0⟩
/-- What those cost that are left out, of so many from one on. -/
def costL (cost f : Nat → Int) (a : Nat) : Nat → Int
  | 0 => 0
  | n + 1 => (if f a < 0 then cost a else 0) + costL cost f (a + 1) n
theorem costL_snoc (cost f : Nat → Int) : ∀ (n a : Nat), costL cost f a (n + 1) = costL cost f a n + if f (a + n) < 0 then cost (a + n) else 0
  | 0, a => by simp [costL]
  | n + 1, a => by
    have := costL_snoc cost f n (a + 1)
    rw [costL, this, costL, show a + 1 + n = a + (n + 1) by omega]; omega
theorem costL_congr {cost cost' f g : Nat → Int} : ∀ (n a : Nat), (∀ u, a ≤ u → u < a + n → g u = f u) → (∀ u, a ≤ u → u < a + n → cost' u = cost u) → costL cost' g a n = costL cost f a n
  | 0, a, _, _ => rfl
  | n + 1, a, h, h' => by
    rw [costL, costL, h a (by omega) (by omega), h' a (by omega) (by omega), costL_congr n (a + 1) (fun u h1 h2 => h u (by omega) (by omega)) fun u h1 h2 => h' u (by omega) (by omega)]
theorem costL_neg {cost f g : Nat → Int} : ∀ (n a : Nat), (∀ u, a ≤ u → u < a + n → (g u < 0 ↔ f u < 0)) → costL cost g a n = costL cost f a n
  | 0, a, _ => rfl
  | n + 1, a, h => by
    rw [costL, costL, costL_neg n (a + 1) fun u h1 h2 => h u (by omega) (by omega)]
    simp only [h a (by omega) (by omega)]
theorem costL_nonneg {cost f : Nat → Int} : ∀ (n a : Nat), (∀ u, a ≤ u → u < a + n → 0 ≤ cost u) → 0 ≤ costL cost f a n
  | 0, a, _ => Int.le_refl _
  | n + 1, a, h => by
    have h1 := costL_nonneg n (a + 1) (f := f) fun u h1 h2 => h u (by omega) (by omega)
    have h2 := h a (by omega) (by omega)
    rw [costL]; split <;> omega
theorem costL_add (cost f : Nat → Int) : ∀ (n m a : Nat), costL cost f a (n + m) = costL cost f a n + costL cost f (a + n) m
  | 0, m, a => by simp [costL]
  | n + 1, m, a => by
    have := costL_add cost f n m (a + 1)
    rw [show n + 1 + m = (n + m) + 1 by omega, costL, this, costL, show a + 1 + n = a + (n + 1) by omega]; omega
theorem costL_shift (cost f : Nat → Int) (s : Nat) : ∀ (n a : Nat), costL cost f (a + s) n = costL (fun u => cost (u + s)) (fun u => f (u + s)) a n
  | 0, a => rfl
  | n + 1, a => by
    have := costL_shift cost f s n (a + 1)
    rw [costL, costL, ← this, show a + 1 + s = a + s + 1 by omega]
theorem costL_le {cost f : Nat → Int} {c : Int} (hc : 0 ≤ c) : ∀ (n a : Nat), (∀ u, a ≤ u → u < a + n → cost u ≤ c) → costL cost f a n ≤ n * c
  | 0, a, _ => by simp [costL]
  | n + 1, a, h => by
    have h1 := costL_le hc n (a + 1) (f := f) fun u h1 h2 => h u (by omega) (by omega)
    have h2 := h a (by omega) (by omega)
    rw [costL, Int.natCast_succ, Int.add_mul, Int.one_mul]; split <;> omega

/-! ### A search's step -/
/-- No way on that keeps what stands is better. -/
def Low (E : EdgeL) (k : Int) (cost : Nat → Int) (N v : Nat) (now : Nat → Int) (sum S : Int) (Q : Int → Prop) : Prop :=
  ∀ f, OkTo E k N f → (∀ u, u < v → f u = now u) → Q (f v) → S ≤ sum + costL cost f v (N - v)
def swp (x y : Int) (n : Int) : Int := if n = x then y else if n = y then x else n
theorem swp_neg {x y n : Int} (hx : 0 ≤ x) (hy : 0 ≤ y) : swp x y n < 0 ↔ n < 0 := by unfold swp; split <;> (try split) <;> omega
theorem swp_inj {x y n m : Int} (h : swp x y n = swp x y m) : n = m := by
  unfold swp at h
  split at h <;> (try split at h) <;> (try split at h) <;> (try split at h) <;> omega
theorem swp_okTo {E : EdgeL} {k : Int} {n : Nat} {f : Nat → Int} {x y : Int} (h : OkTo E k n f) (hx : 0 ≤ x) (hy : 0 ≤ y) (hxk : x < k) (hyk : y < k) : OkTo E k n fun u => swp x y (f u) :=
  ⟨fun u hu => by have := h.1 u hu; show -1 ≤ swp x y (f u) ∧ swp x y (f u) < k; unfold swp; split <;> (try split) <;> omega, fun u v h1 h2 ha h0 e => by
    have h0' : 0 ≤ f u := by have := swp_neg (n := f u) hx hy; simp only at h0; omega
    exact h.2 u v h1 h2 ha h0' (swp_inj e)⟩
/-- Which register a new one is doesn't matter. -/
theorem low_swap {E : EdgeL} {k : Int} {cost : Nat → Int} {N v : Nat} {now : Nat → Int} {sum S : Int} {used : Nat} (hv : v < N) (hu : ∀ u, u < v → now u < used) (hk : (used : Int) < k)
    (h : Low E k cost N v now sum S fun c => 0 ≤ c ∧ c < (used : Int) + 1) : Low E k cost N v now sum S fun c => 0 ≤ c := by
  intro f hf hp h0
  by_cases hc : f v < (used : Int) + 1
  · exact h f hf hp ⟨h0, hc⟩
  · have h1 := hf.1 v hv
    have h2 := h (fun u => swp (f v) used (f u)) (swp_okTo hf h0 (by omega) (by omega) hk) (fun u hu' => by
      have e := hp u hu'
      have := hu u hu'
      simp only [swp, e]
      rw [if_neg (by omega), if_neg (by omega)]) (by simp only [swp, if_pos]; omega)
    rw [costL_neg (f := f) _ _ fun u _ _ => swp_neg h0 (by omega)] at h2
    exact h2
theorem low_stop {E : EdgeL} {k : Int} {cost : Nat → Int} {N v : Nat} {now : Nat → Int} {sum S : Int} (hc : ∀ u, u < N → 0 ≤ cost u) (hv : v ≤ N) (hs : S ≤ sum) : Low E k cost N v now sum S fun _ => True := fun f _ _ _ => by
  have := costL_nonneg (cost := cost) (f := f) (N - v) v fun u _ h2 => hc u (by omega)
  omega
/-- One vreg more is set. -/
theorem low_step {E : EdgeL} {k : Int} {cost : Nat → Int} {N v : Nat} {now now' : Nat → Int} {sum S S' : Int} {c : Int} {Q : Int → Prop} (hv : v < N) (hn : ∀ u, u < v → now' u = now u) (hc : now' v = c)
    (h0 : Low E k cost N v now sum S Q) (hle : S' ≤ S) (h1 : Low E k cost N (v + 1) now' (sum + if c < 0 then cost v else 0) S' fun _ => True) : Low E k cost N v now sum S' fun x => Q x ∨ x = c := by
  rintro f hf hp (hq | hq)
  · exact Int.le_trans hle (h0 f hf hp hq)
  · have := h1 f hf (fun u hu => by
      by_cases e : u = v
      · subst e; rw [hq, hc]
      · rw [hp u (by omega), hn u (by omega)]) trivial
    rw [show N - v = (N - (v + 1)) + 1 by omega, costL, hq]
    omega
theorem low_not {E : EdgeL} {k : Int} {cost : Nat → Int} {N v : Nat} {now : Nat → Int} {sum S : Int} {c : Int} {Q : Int → Prop} (hv : v < N) (hc : 0 ≤ c) (h : Low E k cost N v now sum S Q) {u : Nat} (hu : u < v) (ha : Adj E u v) (he : now u = c) : Low E k cost N v now sum S fun x => Q x ∨ x = c := by
  rintro f hf hp (hq | hq)
  · exact h f hf hp hq
  · exact absurd ((hp u hu).trans (he.trans hq.symm)) (hf.2 u v hu hv ha (by rw [hp u hu, he]; exact hc))
theorem okTo_step {E : EdgeL} {k : Int} {v : Nat} {now : Nat → Int} {c : Int} (h : OkTo E k v now) (hc : now v = c) (h1 : -1 ≤ c) (h2 : c < k) (h3 : ∀ u, u < v → Adj E u v → 0 ≤ c → now u ≠ c) : OkTo E k (v + 1) now := by
  refine ⟨fun u hu => ?_, fun u w hu hw ha h0 => ?_⟩
  · by_cases e : u = v
    · subst e; omega
    · exact h.1 u (by omega)
  · by_cases e : w = v
    · subst e
      intro e2
      refine h3 u hu ha (by rw [← hc, ← e2]; exact h0) (by rw [e2, hc])
    · exact h.2 u w hu (by omega) ha h0

/-! ### The least cost -/
def LeastIs (E : EdgeL) (k : Int) (cost : Nat → Int) (N : Nat) (S : Int) : Prop := (∃ f, OkTo E k N f ∧ S = costL cost f 0 N) ∧ ∀ f, OkTo E k N f → S ≤ costL cost f 0 N
theorem LeastIs.uniq {E : EdgeL} {k : Int} {cost : Nat → Int} {N : Nat} {S T : Int} (a : LeastIs E k cost N S) (b : LeastIs E k cost N T) : S = T := by
  obtain ⟨⟨f, f1, f2⟩, f3⟩ := a
  obtain ⟨⟨g, g1, g2⟩, g3⟩ := b
  have := f3 g g1
  have := g3 f f1
  omega
theorem LeastIs.congr {E E' : EdgeL} {k : Int} {cost cost' : Nat → Int} {N : Nat} {S : Int} (a : LeastIs E k cost N S) (hc : ∀ u, u < N → cost' u = cost u) : LeastIs E k cost' N S := by
  obtain ⟨⟨f, f1, f2⟩, f3⟩ := a
  refine ⟨⟨f, f1, ?_⟩, fun g hg => ?_⟩
  · rw [f2, costL_congr N 0 (fun _ _ _ => rfl) fun u _ h => hc u (by omega)]
  · rw [costL_congr (cost := cost) N 0 (fun _ _ _ => rfl) fun u _ h => hc u (by omega)]; exact f3 g hg
theorem LeastIs.nonneg {E : EdgeL} {k : Int} {cost : Nat → Int} {N : Nat} {S : Int} (a : LeastIs E k cost N S) (hc : ∀ u, u < N → 0 ≤ cost u) : 0 ≤ S := by
  obtain ⟨⟨f, f1, f2⟩, f3⟩ := a
  rw [f2]; exact costL_nonneg _ _ fun u _ h => hc u (by omega)
theorem LeastIs.mono {E E' : EdgeL} {k k' : Int} {cost : Nat → Int} {N : Nat} {S S' : Int} (a : LeastIs E k cost N S) (b : LeastIs E' k' cost N S') (hk : k ≤ k') (hE : ∀ e ∈ E', e ∈ E) : S' ≤ S := by
  obtain ⟨⟨f, f1, f2⟩, f3⟩ := a
  rw [f2]
  exact b.2 f ⟨fun u hu => by have := f1.1 u hu; omega, fun u v h1 h2 ha => f1.2 u v h1 h2 (ha.imp (hE _) (hE _))⟩
theorem LeastIs.all {E : EdgeL} {k : Int} {cost : Nat → Int} {N : Nat} {S : Int} (a : LeastIs E k cost N S) (hc : ∀ u, u < N → 0 ≤ cost u) (hk : (N : Int) ≤ k) : S = 0 := by
  have h1 := a.nonneg hc
  have h2 := a.2 (fun u => (u : Int)) ⟨fun u hu => by show -1 ≤ (u : Int) ∧ (u : Int) < k; omega, fun u v h1 h2 _ _ => by show (u : Int) ≠ (v : Int); omega⟩
  have h3 : ∀ (n a : Nat), costL cost (fun u => (u : Int)) a n = 0 := by
    intro n
    induction n with
    | zero => intro a; rfl
    | succ n ih => intro a; rw [costL, ih]; rw [if_neg (by omega)]; rfl
  rw [h3] at h2; omega
theorem LeastIs.apart {Ea Eb : EdgeL} {k : Int} {cost : Nat → Int} {n m : Nat} {S T U : Int} (ha : ∀ e ∈ Ea, 0 ≤ e.1 ∧ e.1 < n ∧ 0 ≤ e.2 ∧ e.2 < n) (hb : ∀ e ∈ Eb, 0 ≤ e.1 ∧ e.1 < m ∧ 0 ≤ e.2 ∧ e.2 < m)
    (a : LeastIs Ea k cost n S) (b : LeastIs Eb k (fun u => cost (u + n)) m T) (c : LeastIs (Ea ++ Eb.map fun e => ((n : Int) + e.1, (n : Int) + e.2)) k cost (n + m) U) : U = S + T := by
  have hsp : ∀ f : Nat → Int, costL cost f 0 (n + m) = costL cost f 0 n + costL (fun u => cost (u + n)) (fun u => f (u + n)) 0 m := fun f => by
    rw [costL_add, Nat.zero_add, ← costL_shift cost f n m 0, Nat.zero_add]
  apply Int.le_antisymm
  · obtain ⟨⟨f, f1, f2⟩, _⟩ := a
    obtain ⟨⟨g, g1, g2⟩, _⟩ := b
    have key := c.2 (fun u => if u < n then f u else g (u - n)) ⟨fun u hu => ?_, fun u v h1 h2 had h0 => ?_⟩
    · rw [hsp] at key
      rw [costL_congr (cost := cost) (f := f) (g := fun u => if u < n then f u else g (u - n)) n 0 (fun u _ h => if_pos (by omega)) (fun _ _ _ => rfl), ← f2] at key
      rw [costL_congr (cost := fun u => cost (u + n)) (f := g) (g := fun u => if u + n < n then f (u + n) else g (u + n - n)) m 0 (fun u _ h => by show (if u + n < n then f (u + n) else g (u + n - n)) = g u; rw [if_neg (by omega), Nat.add_sub_cancel]) (fun _ _ _ => rfl), ← g2] at key
      exact key
    · simp only; split
      · exact f1.1 u (by omega)
      · exact g1.1 _ (by omega)
    · have had' : ∀ {x y : Nat}, ((x : Int), (y : Int)) ∈ (Ea ++ Eb.map fun e => ((n : Int) + e.1, (n : Int) + e.2)) → (x < n ∧ y < n ∧ ((x : Int), (y : Int)) ∈ Ea) ∨ (n ≤ x ∧ n ≤ y ∧ (((x - n : Nat) : Int), ((y - n : Nat) : Int)) ∈ Eb) := by
        intro x y h
        rcases List.mem_append.1 h with h | h
        · have := ha _ h
          simp only at this
          exact .inl ⟨by omega, by omega, h⟩
        · obtain ⟨e, he, e2⟩ := List.mem_map.1 h
          have := hb _ he
          simp only [Prod.mk.injEq] at e2
          obtain ⟨p, q⟩ := e
          simp only at this e2
          refine .inr ⟨by omega, by omega, ?_⟩
          rw [show (((x - n : Nat) : Int), ((y - n : Nat) : Int)) = (p, q) by simp only [Prod.mk.injEq]; omega]; exact he
      simp only at h0 ⊢
      rcases had with had | had
      · rcases had' had with ⟨q1, q2, q3⟩ | ⟨q1, q2, q3⟩
        · rw [if_pos q1] at h0 ⊢; rw [if_pos q2]; exact f1.2 u v h1 q2 (.inl q3) h0
        · rw [if_neg (by omega)] at h0 ⊢; rw [if_neg (by omega)]; exact g1.2 (u - n) (v - n) (by omega) (by omega) (.inl q3) h0
      · rcases had' had with ⟨q1, q2, q3⟩ | ⟨q1, q2, q3⟩
        · rw [if_pos q2] at h0 ⊢; rw [if_pos q1]; exact f1.2 u v h1 q1 (.inr q3) h0
        · rw [if_neg (by omega)] at h0 ⊢; rw [if_neg (by omega)]; exact g1.2 (u - n) (v - n) (by omega) (by omega) (.inr q3) h0
  · obtain ⟨⟨f, f1, f2⟩, _⟩ := c
    rw [f2, hsp]
    have ka := a.2 f ⟨fun u hu => f1.1 u (by omega), fun u v h1 h2 had h0 => f1.2 u v h1 (by omega) (had.imp (List.mem_append_left _) (List.mem_append_left _)) h0⟩
    have kb := b.2 (fun u => f (u + n)) ⟨fun u hu => f1.1 _ (by omega), fun u v h1 h2 had h0 => f1.2 (u + n) (v + n) (by omega) (by omega) (had.imp (fun h => List.mem_append_right _ (List.mem_map.2 ⟨_, h, by simp only [Prod.mk.injEq]; omega⟩)) (fun h => List.mem_append_right _ (List.mem_map.2 ⟨_, h, by simp only [Prod.mk.injEq]; omega⟩))) h0⟩
    omega
/-- A number whose bits are these. -/
theorem bits_of (p : Nat → Bool) : ∀ n : Nat, ∃ s, s < 2 ^ n ∧ ∀ u, u < n → s.testBit u = p u
  | 0 => ⟨0, by simp, fun u h => absurd h (Nat.not_lt_zero _)⟩
  | n + 1 => by
    obtain ⟨s, h1, h2⟩ := bits_of p n
    by_cases hp : p n = true
    · refine ⟨2 ^ n * 1 + s, by rw [Nat.pow_succ]; omega, fun u hu => ?_⟩
      rw [Nat.testBit_two_pow_mul_add 1 h1]
      by_cases e : u < n
      · rw [if_pos e]; exact h2 u e
      · obtain rfl : u = n := by omega
        rw [if_neg e, Nat.sub_self, hp]; rfl
    · refine ⟨s, by rw [Nat.pow_succ]; omega, fun u hu => ?_⟩
      by_cases e : u < n
      · exact h2 u e
      · obtain rfl : u = n := by omega
        rw [Nat.testBit_lt_two_pow h1]; simpa using hp
/-- Can just these all have registers? -/
def Can (E : EdgeL) (k : Int) (N : Nat) (is : Nat → Bool) (v : Nat) (now : Nat → Int) : Prop :=
  ∃ f : Nat → Int, (∀ u, u < v → is u = true → f u = now u) ∧ (∀ u, u < N → is u = true → 0 ≤ f u ∧ f u < k) ∧ ∀ u w, u < w → w < N → is u = true → is w = true → Adj E u w → f u ≠ f w
/-- What is left out of all that can. -/
theorem can_ok {E : EdgeL} {k : Int} {N : Nat} {is : Nat → Bool} {now : Nat → Int} (hk : 0 ≤ k) : Can E k N is 0 now ↔ ∃ f, OkTo E k N f ∧ ∀ u, u < N → (f u < 0 ↔ is u = false) := by
  constructor
  · rintro ⟨f, -, h1, h2⟩
    refine ⟨fun u => if is u = true then f u else -1, ⟨fun u hu => ?_, fun u v huv hv ha h0 => ?_⟩, fun u hu => ?_⟩
    · simp only; split
      · rename_i h; have := h1 u hu h; omega
      · omega
    · simp only at h0 ⊢
      split at h0
      · rename_i hu
        rw [if_pos hu]
        split
        · rename_i hw; exact h2 u v huv hv hu hw ha
        · omega
      · omega
    · simp only
      cases h : is u with
      | true => have := h1 u hu h; simp; omega
      | false => simp
  · rintro ⟨f, h1, h2⟩
    refine ⟨f, fun u hu => absurd hu (Nat.not_lt_zero _), fun u hu h => ?_, fun u w hu hw hi hj ha => ?_⟩
    · have := h1.1 u hu
      have := h2 u hu
      rw [h] at this
      simp at this
      omega
    · refine h1.2 u w hu hw ha ?_
      have := h2 u (by omega)
      rw [hi] at this
      simp at this
      omega
end Go.Proofs.YtbgfabppmobpgaaDoor
