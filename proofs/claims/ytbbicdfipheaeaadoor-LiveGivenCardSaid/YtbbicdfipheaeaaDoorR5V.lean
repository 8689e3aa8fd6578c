/-
  What isn't needed changes nothing of a run. Conditions: as each lemma says (plain lemmas).
-/
import Derived.Test.YtbbicdfipheaeaaDoorR5P
import Derived.Test.YtbbicdfipheaeaaDoorRnJ
set_option linter.unusedVariables false
set_option linter.unusedSimpArgs false
namespace Go.Proofs.YtbbicdfipheaeaaDoor
open Go

/-- Alike in all but places that aren't in a set. -/
structure EqR (p : SP) (s s' : Rs) : Prop where
  how : s.how = s'.how
  value : s.value = s'.value
  calls : s.calls = s'.calls
  mem : s.mem = s'.mem
  left : s.left = s'.left
  more : s.more = s'.more
  len : s.places.length = s'.places.length
  at_ : ∀ y : Nat, p y = true → s.places.getD y 0 = s'.places.getD y 0
theorem EqR.mono {p q : SP} {s s' : Rs} (h : LeP q p) (K : EqR p s s') : EqR q s s' := ⟨K.how, K.value, K.calls, K.mem, K.left, K.more, K.len, fun y hy => K.at_ y (h y hy)⟩
theorem EqR.same {p : SP} {s s' : Rs} (K : EqR p s s') : SameO s s' := ⟨K.how, K.value, K.calls, K.mem, K.left⟩
theorem EqR.get {p : SP} {s s' : Rs} {i : Int} (K : EqR p s s') (h0 : 0 ≤ i) (hp : p i.toNat = true) : getP s i = getP s' i := K.at_ i.toNat hp
/-- One place set, alike. -/
theorem EqR.set {p q : SP} {s s' : Rs} {d v : Int} (K : EqR p s s') (hq : ∀ y : Nat, q y = true → y ≠ d.toNat → p y = true) : EqR q (setP s d v) (setP s' d v) := by
  refine ⟨K.how, K.value, K.calls, K.mem, K.left, K.more, ?_, fun y hy => ?_⟩
  · show (s.places.set _ _).length = (s'.places.set _ _).length
    rw [List.length_set, List.length_set]; exact K.len
  · show (s.places.set d.toNat v).getD y 0 = (s'.places.set d.toNat v).getD y 0
    by_cases e : y = d.toNat
    · subst e
      rw [List.getD_eq_getElem?_getD, List.getD_eq_getElem?_getD, List.getElem?_set, List.getElem?_set, if_pos rfl, if_pos rfl, K.len]
    · rw [List.getD_eq_getElem?_getD, List.getD_eq_getElem?_getD, List.getElem?_set_ne (fun q => e q.symm), List.getElem?_set_ne (fun q => e q.symm), ← List.getD_eq_getElem?_getD, ← List.getD_eq_getElem?_getD]
      exact K.at_ y (hq y hy e)
theorem EqR.use {x : Ins} {p : SP} {s s' : Rs} {i : Int} (K : EqR (backP x p) s s') (hx : RegI x) (hi : i ∈ usesM x) : getP s i = getP s' i := by
  have h0 := (hx.uses i hi).1
  refine K.get h0 ?_
  unfold backP orP useP
  rw [Bool.or_eq_true]
  right
  rw [decide_eq_true_eq, show ((i.toNat : Nat) : Int) = i by omega]; exact hi
theorem back_keep {x : Ins} {p : SP} {y : Nat} (hx : RegI x) (hp : p y = true) (hd : givesM x.kind = true → y ≠ x.d.toNat) : backP x p y = true := by
  unfold backP orP lessP givP
  rw [Bool.or_eq_true]
  left
  rw [hp, Bool.true_and, Bool.not_eq_true', Bool.and_eq_false_iff]
  cases h : givesM x.kind with
  | false => exact .inl rfl
  | true =>
    right
    rw [decide_eq_false_iff_not]
    have h0 := (hx.gives h).1
    have := hd h
    omega
theorem EqR.fewer {p : SP} {s s' : Rs} (K : EqR p s s') : EqR p { s with left := s.left - 1 } { s' with left := s'.left - 1 } := ⟨K.how, K.value, K.calls, K.mem, by rw [K.left], K.more, K.len, K.at_⟩
/-- A step. -/
theorem EqR.step {R : Int} {x : Ins} {p : SP} {s s' : Rs} (hx : RegI x) (hk : 1 ≤ x.kind ∧ x.kind ≤ 6) (K : EqR (backP x p) s s') : (stepM R x s).2 = (stepM R x s').2 ∧ ((stepM R x s).2 = true → EqR p (stepM R x s).1 (stepM R x s').1) ∧ SameO (stepM R x s).1 (stepM R x s').1 := by
  have hl := K.left
  have keepG : givesM x.kind = true → ∀ y : Nat, p y = true → y ≠ x.d.toNat → backP x p y = true := fun _ y hy hd => back_keep hx hy fun _ => hd
  have keepN : givesM x.kind = false → LeP p (backP x p) := fun h y hy => back_keep hx hy fun q => by rw [h] at q; cases q
  have uses : ∀ {i}, i ∈ usesM x → getP s i = getP s' i := fun hi => K.use hx hi
  by_cases h2 : x.kind = 2
  · have hu := uses (i := x.a) (by unfold usesM; rw [if_pos (.inl h2)]; simp)
    rw [stepM_2 h2, stepM_2 h2, hu]
    have := EqR.set (d := x.d) (v := getP s' x.a) K (keepG (by rw [h2]; rfl))
    exact ⟨rfl, fun _ => this, this.same⟩
  have hp : Paid x := ⟨h2, by omega, by omega⟩
  by_cases hl0 : s.left = 0
  · rw [stepM_0 hp hl0, stepM_0 hp (hl ▸ hl0)]
    exact ⟨rfl, fun h => (by cases h), rfl, K.value, K.calls, K.mem, K.left⟩
  have hl0' : s'.left ≠ 0 := by rw [← hl]; exact hl0
  have F := K.fewer
  by_cases h1 : x.kind = 1
  · rw [stepM_1 h1 hl0, stepM_1 h1 hl0']
    have := EqR.set (d := x.d) (v := x.n) F (keepG (by rw [h1]; rfl))
    exact ⟨rfl, fun _ => this, this.same⟩
  by_cases h3 : x.kind = 3
  · have ha := uses (i := x.a) (by unfold usesM; rw [if_neg (by omega), if_pos (.inl h3)]; simp)
    have hb := uses (i := x.b) (by unfold usesM; rw [if_neg (by omega), if_pos (.inl h3)]; simp)
    rw [stepM_3 h3 hl0, stepM_3 h3 hl0', ha, hb]
    cases binM x.op (getP s' x.a) (getP s' x.b) with
    | none => exact ⟨rfl, fun h => (by cases h), rfl, K.value, K.calls, K.mem, by show s.left - 1 = s'.left - 1; rw [hl]⟩
    | some v =>
      have := EqR.set (d := x.d) (v := v) F (keepG (by rw [h3]; rfl))
      exact ⟨rfl, fun _ => this, this.same⟩
  by_cases h4 : x.kind = 4
  · have ha := uses (i := x.a) (by unfold usesM; rw [if_pos (.inr (.inl h4))]; simp)
    rw [stepM_4 h4 hl0, stepM_4 h4 hl0', ha, show s.mem.getD (wordI (getP s' x.a)) 0 = s'.mem.getD (wordI (getP s' x.a)) 0 by rw [K.mem]]
    have := EqR.set (d := x.d) (v := s'.mem.getD (wordI (getP s' x.a)) 0) F (keepG (by rw [h4]; rfl))
    exact ⟨rfl, fun _ => this, this.same⟩
  by_cases h5 : x.kind = 5
  · have ha := uses (i := x.a) (by unfold usesM; rw [if_neg (by omega), if_pos (.inr h5)]; simp)
    have hb := uses (i := x.b) (by unfold usesM; rw [if_neg (by omega), if_pos (.inr h5)]; simp)
    rw [stepM_5 h5 hl0, stepM_5 h5 hl0', ha, hb, K.mem]
    have G := F.mono (keepN (by rw [h5]; rfl))
    have : EqR p { s with left := s.left - 1, mem := s'.mem.set (wordI (getP s' x.a)) (getP s' x.b) } { s' with left := s'.left - 1, mem := s'.mem.set (wordI (getP s' x.a)) (getP s' x.b) } := ⟨G.how, G.value, G.calls, rfl, G.left, G.more, G.len, G.at_⟩
    exact ⟨rfl, fun _ => this, this.same⟩
  have h6 : x.kind = 6 := by omega
  have ha : x.args.map (getP s) = x.args.map (getP s') := List.map_congr_left fun i hi => uses (by unfold usesM; rw [if_neg (by omega), if_neg (by omega), if_pos h6]; exact hi)
  rw [stepM_6 h6 hl0, stepM_6 h6 hl0', ha, K.more, K.calls]
  have : EqR (backP x p) { s with left := s.left - 1, calls := s'.calls ++ [(x.n, x.args.map (getP s'))], more := s'.more.tail } { s' with left := s'.left - 1, calls := s'.calls ++ [(x.n, x.args.map (getP s'))], more := s'.more.tail } := ⟨F.how, F.value, rfl, F.mem, F.left, rfl, F.len, F.at_⟩
  have := EqR.set (d := x.d) (v := s'.more.headD 0) this (keepG (by rw [h6]; rfl))
  exact ⟨rfl, fun _ => this, this.same⟩
/-- An end. -/
theorem EqR.fin {b : Blk} {p : SP} {s s' : Rs} (hb : RegB b) (hk : 1 ≤ b.en.kind ∧ b.en.kind ≤ 3) (K : EqR (topP b p) s s') : (endS b.en s).2 = (endS b.en s').2 ∧ EqR p (endS b.en s).1 (endS b.en s').1 := by
  have hl := K.left
  have low : LeP p (topP b p) := fun y hy => by unfold topP orP; rw [hy]; rfl
  have use : lastM b.en = true → getP s b.en.a = getP s' b.en.a := fun h => by
    have h0 := (hb.last h).1
    refine K.get h0 ?_
    unfold topP orP lastP
    rw [h, Bool.or_eq_true]
    right
    rw [Bool.true_and, decide_eq_true_eq]; omega
  have K0 := K.mono low
  by_cases hl0 : s.left = 0
  · rw [endS_0 hl0, endS_0 (hl ▸ hl0)]
    exact ⟨rfl, rfl, K0.value, K0.calls, K0.mem, K0.left, K0.more, K0.len, K0.at_⟩
  have hl0' : s'.left ≠ 0 := by rw [← hl]; exact hl0
  have F := K0.fewer
  by_cases h3 : b.en.kind = 3
  · have hu := use (by unfold lastM; simp [h3])
    rw [endS_3 hl0 h3, endS_3 hl0' h3, hu]
    exact ⟨rfl, rfl, rfl, F.calls, F.mem, F.left, F.more, F.len, F.at_⟩
  by_cases h2 : b.en.kind = 2
  · have hu := use (by unfold lastM; simp [h2])
    by_cases hz : getP s b.en.a = 0
    · rw [endS_b hl0 h3 ⟨h2, hz⟩, endS_b hl0' h3 ⟨h2, by rw [← hu]; exact hz⟩]
      exact ⟨rfl, F⟩
    · rw [endS_t hl0 h3 (fun q => hz q.2), endS_t hl0' h3 (fun q => hz (by rw [hu]; exact q.2))]
      exact ⟨rfl, F⟩
  · rw [endS_t hl0 h3 (fun q => h2 q.1), endS_t hl0' h3 (fun q => h2 q.1)]
    exact ⟨rfl, F⟩
theorem endS_next {e : Fin4} {s t : Rs} {c : Nat} (hk : 1 ≤ e.kind ∧ e.kind ≤ 3) (h : endS e s = (t, some (c : Int))) : (c : Int) ∈ nextL e := by
  unfold endS at h
  unfold nextL
  split at h
  · cases h
  · split at h
    · cases h
    · split at h
      · rename_i h1 h2 h3
        simp only [Prod.mk.injEq, Option.some.injEq] at h
        rw [← h.2]
        by_cases hq : e.kind = 1 ∨ (e.kind = 2 ∧ e.to = e.el)
        · rw [if_pos hq]
          rcases hq with q | q
          · omega
          · simp [q.2]
        · rw [if_neg hq, if_pos h3.1]; simp
      · rename_i h1 h2 h3
        simp only [Prod.mk.injEq, Option.some.injEq] at h
        rw [← h.2]
        by_cases hq : e.kind = 1 ∨ (e.kind = 2 ∧ e.to = e.el)
        · rw [if_pos hq]; simp
        · rw [if_neg hq, if_pos (by omega)]; simp
/-- Needed from a place on. -/
def fromP (B : List Blk) (L : List SP) (b k : Nat) : SP := match B[b]? with | some x => (x.ins.drop k).foldr backP (topP x (L.getD b fun _ => false)) | none => fun _ => false
theorem fromP_at {B : List Blk} {L : List SP} {b k : Nat} {x : Blk} {p : SP} (h : B[b]? = some x) (hp : L[b]? = some p) : fromP B L b k = (x.ins.drop k).foldr backP (topP x p) := by
  unfold fromP; rw [h]; simp [List.getD_eq_getElem?_getD, hp]
/-- Blocks as ir.Check lets them be. -/
def KindB (B : List Blk) : Prop := ∀ b ∈ B, (1 ≤ b.en.kind ∧ b.en.kind ≤ 3) ∧ ∀ x ∈ b.ins, 1 ≤ x.kind ∧ x.kind ≤ 6
/-- Runs from states that are alike in what is needed end alike. -/
theorem run_alike {B : List Blk} (hO : OkB B) (hR : RegL B) (hK : KindB B) {V : Int} {L : List SP} (K : Solved (flV B) L) {b k : Nat} {s t : Rs} (h : Runs B V b k s t) : ∀ {s' : Rs}, EqR (fromP B L b k) s s' → ∃ t', Runs B V b k s' t' ∧ SameO t t' := by
  have get : ∀ {b x}, B[b]? = some x → ∃ p, L[b]? = some p := fun {b x} hb => ⟨_, List.getElem?_eq_getElem (by rw [K.len]; exact (List.getElem?_eq_some_iff.1 hb).1)⟩
  induction h with
  | @stop b k s t x y h1 h2 h3 =>
    intro s' E
    obtain ⟨p, hp⟩ := get h1
    have hxm := List.mem_of_getElem? h1
    have hym := List.mem_of_getElem? h2
    rw [fromP_at h1 hp, drop_foldr h2] at E
    obtain ⟨e1, e2, e3⟩ := E.step (R := V) ((hR x hxm).ins y hym) ((hK x hxm).2 y hym)
    rw [h3] at e1 e3
    refine ⟨(stepM V y s').1, .stop h1 h2 ?_, e3⟩
    replace e1 : false = (stepM V y s').2 := e1
    rw [e1]
  | @step b k s t f x y h1 h2 h3 h4 ih =>
    intro s' E
    obtain ⟨p, hp⟩ := get h1
    have hxm := List.mem_of_getElem? h1
    have hym := List.mem_of_getElem? h2
    rw [fromP_at h1 hp, drop_foldr h2] at E
    obtain ⟨e1, e2, e3⟩ := E.step (R := V) ((hR x hxm).ins y hym) ((hK x hxm).2 y hym)
    rw [h3] at e1 e2
    have E2 := e2 rfl
    rw [← fromP_at h1 hp] at E2
    obtain ⟨t', q1, q2⟩ := ih E2
    refine ⟨t', .step h1 h2 ?_ q1, q2⟩
    replace e1 : true = (stepM V y s').2 := e1
    rw [e1]
  | @fin b k s t x h1 h0 h2 =>
    intro s' E
    obtain ⟨p, hp⟩ := get h1
    have hxm := List.mem_of_getElem? h1
    rw [fromP_at h1 hp, h0, List.drop_length] at E
    obtain ⟨e1, e2⟩ := EqR.fin (p := p) (hR x hxm) (hK x hxm).1 E
    rw [h2] at e1 e2
    refine ⟨(endS x.en s').1, .fin h1 h0 ?_, e2.same⟩
    replace e1 : none = (endS x.en s').2 := e1
    rw [e1]
  | @go b k s t f x c h1 h0 h2 h3 ih =>
    intro s' E
    obtain ⟨p, hp⟩ := get h1
    have hxm := List.mem_of_getElem? h1
    rw [fromP_at h1 hp, h0, List.drop_length] at E
    obtain ⟨e1, e2⟩ := EqR.fin (p := p) (hR x hxm) (hK x hxm).1 E
    rw [h2] at e1 e2
    have hc : c ∈ nextN B b := by
      have := endS_next (hK x hxm).1 h2
      exact (mem_next hO h1).1 this
    have hcN := nextN_lt hO hc
    have hcx := List.getElem?_eq_getElem hcN
    obtain ⟨q, hq⟩ := get hcx
    have low : LeP (fromP B L c 0) p := fun y hy => by
      rw [fromP_at hcx hq, List.drop_zero] at hy
      have : blkP B c q y = true := by rw [blkP_at hcx]; exact hy
      exact (eqV hO K hp y).2 ⟨c, q, hc, hq, this⟩
    obtain ⟨t', z1, z2⟩ := ih (e2.mono low)
    refine ⟨t', .go h1 h0 (c := c) ?_ z1, z2⟩
    replace e1 : some (c : Int) = (endS x.en s').2 := e1
    rw [e1]
end Go.Proofs.YtbbicdfipheaeaaDoor
