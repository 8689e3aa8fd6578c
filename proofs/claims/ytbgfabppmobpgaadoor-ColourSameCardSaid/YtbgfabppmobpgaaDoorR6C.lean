/-
  Colouring a graph: a functional account of what the layer does, and what holds of it. Conditions: none (definitions and plain lemmas).
-/
import Derived.Test.YtbgfabppmobpgaaDoorR5T
import Derived.Test.YtbgfabppmobpgaaDoorR6P
set_option linter.unusedVariables false
set_option linter.unusedSimpArgs false
namespace Go.Proofs.YtbgfabppmobpgaaDoor
open Go

/-- What is left of a graph. -/
structure CW where
  near : List SP
  moves : List (Nat × Nat)
  st : List Nat
  left : SP
  stack : List Nat
def rootN (st : List Nat) : Nat → Nat → Nat
  | 0, v => v
  | n + 1, v => if st.getD v v = v then v else rootN st n (st.getD v v)
def cutP (p : SP) (x : Nat) : SP := fun y => p y && !decide (y = x)
namespace CW
def nr (w : CW) (v : Nat) : SP := nrL w.near v
def of (w : CW) (v : Nat) : Nat := rootN w.st w.st.length v
def deg (w : CW) (v : Nat) : Nat := cntP fun y => w.nr v y && w.left y
def at_ (w : CW) (v : Nat) (m : Nat × Nat) : Bool := decide (w.of m.1 = v) || decide (w.of m.2 = v)
def moving (w : CW) (v : Nat) : Bool := w.moves.any (w.at_ v)
def push (w : CW) (v : Nat) : CW := { w with left := cutP w.left v, stack := w.stack ++ [v] }
def simp (k : Nat) (w : CW) : Option CW := ((allS w.left).find? fun v => decide (w.deg v < k) && !w.moving v).map w.push
def drops (firm : List Bool) (w : CW) (a b : Nat) : Bool := decide (a = b) || w.nr a b || firm.getD a false || firm.getD b false || !w.left a || !w.left b
def both (w : CW) (a b : Nat) : SP := fun y => (w.nr a y || w.nr b y) && w.left y
def great (k : Nat) (w : CW) (a b : Nat) : Nat := ((allS (w.both a b)).filter fun v => decide (k ≤ w.deg v)).length
def merge (w : CW) (a b : Nat) (ms : List (Nat × Nat)) : CW := { w with near := (allS (w.nr b)).foldl (linkL a) w.near, moves := ms, st := w.st.set b a, left := cutP w.left b }
def coal (k : Nat) (firm : List Bool) (w : CW) : List (Nat × Nat) → List (Nat × Nat) → Option CW
  | _, [] => none
  | d, m :: r => if w.drops firm (w.of m.1) (w.of m.2) = true then some { w with moves := d ++ r } else if w.great k (w.of m.1) (w.of m.2) < k then some (w.merge (w.of m.1) (w.of m.2) (d ++ r)) else coal k firm w (d ++ [m]) r
def without (w : CW) (v : Nat) : CW := { w with moves := w.moves.filter fun m => !w.at_ v m }
def freeze (k : Nat) (w : CW) : Option CW := ((allS w.left).find? fun v => decide (w.deg v < k)).map w.without
def better (firm : List Bool) (w : CW) (b v : Nat) : Bool := (firm.getD b false && !firm.getD v false) || ((firm.getD b false == firm.getD v false) && decide (w.deg b < w.deg v))
def best (firm : List Bool) (w : CW) (l : List Nat) : Option Nat := l.foldl (fun o v => match o with | none => some v | some b => if w.better firm b v = true then some v else some b) none
def spill (firm : List Bool) (w : CW) : Option CW := (w.best firm (allS w.left)).map fun b => (w.without b).push b
def step (k : Nat) (firm : List Bool) (w : CW) : Option CW := (w.simp k).or ((w.coal k firm [] w.moves).or ((w.freeze k).or (w.spill firm)))
def run (k : Nat) (firm : List Bool) : Nat → CW → CW
  | 0, w => w
  | n + 1, w => match w.step k firm with | none => w | some w' => run k firm n w'
def pickC (k : Nat) (w : CW) (got : List Int) (v : Nat) : Option Nat := (List.range k).find? fun c => !((allS (w.nr v)).any fun n => decide (got.getD (w.of n) (-1) = (c : Int)))
def pick1 (k : Nat) (w : CW) (got : List Int) (v : Nat) : List Int := match w.pickC k got v with | some c => got.set v (c : Int) | none => got
def pick (k : Nat) (w : CW) : List Int := w.stack.reverse.foldl (w.pick1 k) (List.replicate w.st.length (-1))
def out (k : Nat) (w : CW) : List Int := (List.range w.st.length).map fun v => (w.pick k).getD (w.of v) (-1)
def mu (w : CW) : Nat := cntP w.left + w.moves.length
end CW

/-! ### How many there are -/
theorem cntP_eq (p : SP) : cntP p = (List.range 4096).countP p := by unfold cntP; rw [List.countP_eq_length_filter]
theorem cntP_mono {p q : SP} (h : ∀ y, p y = true → q y = true) : cntP p ≤ cntP q := by
  rw [cntP_eq, cntP_eq]; exact List.countP_mono_left fun x _ => h x
theorem countP_or : ∀ (l : List Nat) (p q : Nat → Bool), (∀ y, p y = true → q y = false) → l.countP (fun y => p y || q y) = l.countP p + l.countP q
  | [], p, q, _ => rfl
  | a :: l, p, q, h => by
    have ih := countP_or l p q h
    simp only [List.countP_cons, ih]
    have := h a
    cases hp : p a <;> cases hq : q a <;> simp_all <;> omega
theorem countP_one {x : Nat} (hx : x < 4096) : (List.range 4096).countP (fun y => decide (y = x)) = 1 := by
  have : (List.range 4096).countP (fun y => decide (y = x)) = (List.range 4096).count x := by
    unfold List.count; congr 1
  rw [this, List.nodup_range.count, if_pos (List.mem_range.2 hx)]
theorem cntP_ins {p : SP} {x : Nat} (hx : x < 4096) (h : p x = false) : cntP (insP p x) = cntP p + 1 := by
  rw [cntP_eq, cntP_eq, ← countP_one hx]
  exact countP_or _ _ _ fun y hy => by
    simp only [decide_eq_false_iff_not]; intro e; rw [e, h] at hy; cases hy
theorem cntP_cut {p : SP} {x : Nat} (hx : x < 4096) (h : p x = true) : cntP p = cntP (cutP p x) + 1 := by
  have := cntP_ins (p := cutP p x) hx (by simp [cutP])
  rw [← this]; congr 1; funext y
  unfold insP cutP
  by_cases e : y = x
  · subst e; simp [h]
  · simp [e]
theorem cutP_at {p : SP} {x y : Nat} : cutP p x y = true ↔ p y = true ∧ y ≠ x := by simp [cutP]
/-- One for another. -/
theorem cntP_swap {p q : SP} {a b : Nat} (ha : a < 4096) (hb : b < 4096) (h : ∀ y, y ≠ a → p y = true → q y = true) (hab : p a = true → q a = false → q b = true ∧ p b = false) : cntP p ≤ cntP q := by
  by_cases hq : q a = true
  · exact cntP_mono fun y hy => by
      by_cases e : y = a
      · rw [e]; exact hq
      · exact h y e hy
  · rw [Bool.not_eq_true] at hq
    by_cases hp : p a = true
    · obtain ⟨h1, h2⟩ := hab hp hq
      have hne : a ≠ b := fun e => by rw [e, h2] at hp; cases hp
      have e1 := cntP_cut hb h1
      have e2 := cntP_ins (p := cutP q b) ha (by simp [cutP, hq])
      have : cntP p ≤ cntP (insP (cutP q b) a) := cntP_mono fun y hy => by
        unfold insP
        by_cases e : y = a
        · simp [e]
        · by_cases e' : y = b
          · rw [e', h2] at hy; cases hy
          · simp [cutP, h y e hy, e']
      omega
    · exact cntP_mono fun y hy => by
        by_cases e : y = a
        · rw [e] at hy; exact absurd hy hp
        · exact h y e hy

/-! ### Who stands for whom -/
structure Rk (N : Nat) (st : List Nat) (r : Nat → Nat) : Prop where
  len : st.length = N
  lt : ∀ v, v < N → st.getD v v < N
  le : ∀ v, v < N → r v ≤ N
  dec : ∀ v, v < N → st.getD v v ≠ v → r (st.getD v v) < r v
section
variable {N : Nat} {st : List Nat} {r : Nat → Nat}
theorem rootN_lt (K : Rk N st r) : ∀ (n v : Nat), v < N → rootN st n v < N
  | 0, v, h => h
  | n + 1, v, h => by
    rw [rootN]; split
    · exact h
    · exact rootN_lt K n _ (K.lt v h)
theorem rootN_fix (K : Rk N st r) : ∀ (n v : Nat), v < N → r v ≤ n → st.getD (rootN st n v) (rootN st n v) = rootN st n v
  | 0, v, h, hr => by
    rw [rootN]
    by_cases e : st.getD v v = v
    · exact e
    · have := K.dec v h e; omega
  | n + 1, v, h, hr => by
    rw [rootN]; split
    · assumption
    · rename_i e
      have := K.dec v h e
      exact rootN_fix K n _ (K.lt v h) (by omega)
theorem rootN_any (K : Rk N st r) : ∀ (n m v : Nat), v < N → r v ≤ n → r v ≤ m → rootN st n v = rootN st m v
  | 0, 0, v, _, _, _ => rfl
  | 0, m + 1, v, h, hr, _ => by
    rw [rootN, rootN]; split
    · rfl
    · rename_i e; have := K.dec v h e; omega
  | n + 1, 0, v, h, _, hr => by
    rw [rootN, rootN]; split
    · rfl
    · rename_i e; have := K.dec v h e; omega
  | n + 1, m + 1, v, h, h1, h2 => by
    rw [rootN, rootN]; split
    · rfl
    · rename_i e
      have := K.dec v h e
      exact rootN_any K n m _ (K.lt v h) (by omega) (by omega)
def ofL (st : List Nat) (v : Nat) : Nat := rootN st st.length v
theorem Rk.of_lt (K : Rk N st r) {v : Nat} (h : v < N) : ofL st v < N := rootN_lt K _ _ h
theorem Rk.of_root (K : Rk N st r) {v : Nat} (h : v < N) : st.getD (ofL st v) (ofL st v) = ofL st v := rootN_fix K _ _ h (by rw [K.len]; exact K.le v h)
theorem of_self {v : Nat} (h : st.getD v v = v) : ofL st v = v := by
  unfold ofL
  cases st.length with
  | zero => rfl
  | succ n => rw [rootN, if_pos h]
theorem Rk.of_step (K : Rk N st r) {v : Nat} (h : v < N) : ofL st (st.getD v v) = ofL st v := by
  by_cases e : st.getD v v = v
  · rw [e]
  · have h1 := K.dec v h e
    have h2 := K.le v h
    obtain ⟨n, hn⟩ : ∃ n, N = n + 1 := ⟨N - 1, by omega⟩
    have : rootN st (n + 1) v = rootN st n (st.getD v v) := by rw [rootN, if_neg e]
    unfold ofL
    rw [K.len, hn, this]
    exact rootN_any K _ _ _ (K.lt v h) (by rw [← hn]; exact K.le _ (K.lt v h)) (by omega)
theorem getD_set {l : List Nat} {i x v d : Nat} (hi : i < l.length) : (l.set i x).getD v d = if v = i then x else l.getD v d := by
  simp only [List.getD_eq_getElem?_getD, List.getElem?_set]
  by_cases e : i = v
  · subst e; simp [hi]
  · rw [if_neg e, if_neg (fun h => e h.symm)]
/-- One root is put under another. -/
theorem Rk.link {r' : Nat → Nat} {a b : Nat} (K : Rk N st r) (K' : Rk N (st.set b a) r') (ha : a < N) (hb : b < N) (hab : a ≠ b) (ra : st.getD a a = a) (rb : st.getD b b = b) : ∀ {v : Nat}, v < N → ofL (st.set b a) v = if ofL st v = b then a else ofL st v := by
  have hbl : b < st.length := by rw [K.len]; exact hb
  have key : ∀ (n v : Nat), r v ≤ n → v < N → ofL (st.set b a) v = if ofL st v = b then a else ofL st v := by
    intro n
    induction n with
    | zero =>
      intro v hr hv
      have e : st.getD v v = v := by
        by_cases e : st.getD v v = v
        · exact e
        · have := K.dec v hv e; omega
      rw [of_self e]
      by_cases hvb : v = b
      · subst hvb
        rw [if_pos rfl, ← K'.of_step hv, getD_set hbl, if_pos rfl]
        exact of_self (by rw [getD_set hbl, if_neg hab]; exact ra)
      · rw [if_neg hvb]; exact of_self (by rw [getD_set hbl, if_neg hvb]; exact e)
    | succ n ih =>
      intro v hr hv
      by_cases e : st.getD v v = v
      · rw [of_self e]
        by_cases hvb : v = b
        · subst hvb
          rw [if_pos rfl, ← K'.of_step hv, getD_set hbl, if_pos rfl]
          exact of_self (by rw [getD_set hbl, if_neg hab]; exact ra)
        · rw [if_neg hvb]; exact of_self (by rw [getD_set hbl, if_neg hvb]; exact e)
      · have hvb : v ≠ b := fun h => e (by rw [h]; exact rb)
        have := K.dec v hv e
        rw [← K'.of_step hv, getD_set hbl, if_neg hvb, ih _ (by omega) (K.lt v hv), K.of_step hv]
  intro v hv
  exact key _ _ (Nat.le_refl _) hv
end

/-! ### What holds -/
structure CInv (N : Nat) (w : CW) : Prop where
  ln : w.near.length = N
  hN : N ≤ 4096
  bnd : ∀ v n, w.nr v n = true → v < N ∧ n < N
  sym : ∀ v n, w.nr v n = true → w.nr n v = true
  irr : ∀ v, w.nr v v = false
  rank : ∃ r, Rk N w.st r ∧ (∀ v, w.left v = true → r v = 0) ∧ ∀ v, v < N → w.left v = false → cntP w.left < r v
  cle : cntP w.left ≤ N
  leftN : ∀ v, w.left v = true → v < N
  leftR : ∀ v, w.left v = true → w.st.getD v v = v
  stk : ∀ v ∈ w.stack, v < N ∧ w.st.getD v v = v ∧ w.left v = false
  cov : ∀ v, v < N → w.st.getD v v = v → w.left v = true ∨ v ∈ w.stack
  clo : ∀ v n, w.nr v n = true → w.nr v (w.of n) = true
  mv : ∀ m ∈ w.moves, m.1 < N ∧ m.2 < N
section
variable {N k : Nat} {firm : List Bool} {w w' : CW}
theorem CInv.of_lt (K : CInv N w) {v : Nat} (h : v < N) : w.of v < N := by obtain ⟨r, h1, _⟩ := K.rank; exact h1.of_lt h
theorem CInv.of_root (K : CInv N w) {v : Nat} (h : v < N) : w.st.getD (w.of v) (w.of v) = w.of v := by obtain ⟨r, h1, _⟩ := K.rank; exact h1.of_root h
theorem CW.of_self {w : CW} {v : Nat} (h : w.st.getD v v = v) : w.of v = v := Go.Proofs.YtbgfabppmobpgaaDoor.of_self h
theorem CInv.len (K : CInv N w) : w.st.length = N := by obtain ⟨r, h1, _⟩ := K.rank; exact h1.len
/-- A vreg is done with. -/
theorem CInv.push (K : CInv N w) {v : Nat} (hv : w.left v = true) {ms : List (Nat × Nat)} (hm : ∀ m ∈ ms, m ∈ w.moves) : CInv N ({ w with moves := ms }.push v) := by
  have hvN := K.leftN v hv
  have hc := cntP_cut (p := w.left) (x := v) (Nat.lt_of_lt_of_le hvN K.hN) hv
  obtain ⟨r, k1, k2, k3⟩ := K.rank
  have hlt : ∀ x, cutP w.left v x = true → w.left x = true := fun x h => (cutP_at.1 h).1
  refine ⟨K.ln, K.hN, K.bnd, K.sym, K.irr, ⟨fun x => if x = v then cntP w.left else r x, ⟨k1.len, k1.lt, fun x hx => ?_, fun x hx hne => ?_⟩, fun x hx => ?_, fun x hx hl => ?_⟩, ?_, fun x hx => K.leftN x (hlt x hx), fun x hx => K.leftR x (hlt x hx), fun x hx => ?_, fun x hx hr => ?_, K.clo, fun m h => K.mv m (hm m h)⟩
  · split
    · exact K.cle
    · exact k1.le x hx
  · have hne' : w.st.getD x x ≠ x := hne
    have hxv : x ≠ v := fun e => hne' (by rw [e]; exact K.leftR v hv)
    have hd := k1.dec x hx hne'
    have hxl : w.left x = false := by
      cases h : w.left x with
      | false => rfl
      | true => exact absurd (K.leftR x h) hne'
    have := k3 x hx hxl
    show (if w.st.getD x x = v then cntP w.left else r (w.st.getD x x)) < if x = v then cntP w.left else r x
    rw [if_neg hxv]; split <;> omega
  · have := cutP_at.1 hx
    simp only [if_neg this.2]; exact k2 x this.1
  · show cntP (cutP w.left v) < _
    simp only
    by_cases e : x = v
    · rw [if_pos e]; omega
    · rw [if_neg e]
      have := k3 x hx (by
        cases h : w.left x with
        | false => rfl
        | true => have hl' : cutP w.left v x = false := hl; rw [cutP_at.2 ⟨h, e⟩] at hl'; cases hl')
      omega
  · show cntP (cutP w.left v) ≤ N
    have := K.cle; omega
  · rcases List.mem_append.1 hx with h | h
    · obtain ⟨q1, q2, q3⟩ := K.stk x h
      refine ⟨q1, q2, ?_⟩
      show cutP w.left v x = false
      unfold cutP; rw [q3]; rfl
    · rw [List.mem_singleton] at h; subst h
      exact ⟨hvN, K.leftR x hv, by show cutP w.left x x = false; simp [cutP]⟩
  · by_cases e : x = v
    · exact .inr (List.mem_append_right _ (by rw [e]; simp))
    · rcases K.cov x hx hr with h | h
      · exact .inl (cutP_at.2 ⟨h, e⟩)
      · exact .inr (List.mem_append_left _ h)
theorem CInv.drop (K : CInv N w) {ms : List (Nat × Nat)} (hm : ∀ m ∈ ms, m ∈ w.moves) : CInv N { w with moves := ms } :=
  ⟨K.ln, K.hN, K.bnd, K.sym, K.irr, K.rank, K.cle, K.leftN, K.leftR, K.stk, K.cov, K.clo, fun m h => K.mv m (hm m h)⟩
theorem link_nr {a : Nat} : ∀ (l : List Nat) (L : List SP), a < L.length → (∀ v ∈ l, v < L.length) → (l.foldl (linkL a) L).length = L.length ∧ ∀ x y, nrL (l.foldl (linkL a) L) x y = true ↔ nrL L x y = true ∨ (x = a ∧ y ∈ l) ∨ (y = a ∧ x ∈ l)
  | [], L, _, _ => ⟨rfl, fun x y => by simp⟩
  | v :: l, L, ha, hl => by
    have hv := hl v (List.mem_cons_self ..)
    obtain ⟨h1, h2⟩ := link_nr l (linkL a L v) (by rw [linkL_len]; exact ha) (fun u hu => by rw [linkL_len]; exact hl u (List.mem_cons_of_mem _ hu))
    refine ⟨by rw [List.foldl_cons, h1, linkL_len], fun x y => ?_⟩
    rw [List.foldl_cons, h2]
    rw [linkL_nr ha hv]
    simp only [List.mem_cons]
    constructor
    · rintro ((h | ⟨h, h'⟩ | ⟨h, h'⟩) | ⟨h, h'⟩ | ⟨h, h'⟩)
      · exact .inl h
      · exact .inr (.inl ⟨h, .inl h'⟩)
      · exact .inr (.inr ⟨h, .inl h'⟩)
      · exact .inr (.inl ⟨h, .inr h'⟩)
      · exact .inr (.inr ⟨h, .inr h'⟩)
    · rintro (h | ⟨h, h' | h'⟩ | ⟨h, h' | h'⟩)
      · exact .inl (.inl h)
      · exact .inl (.inr (.inl ⟨h, h'⟩))
      · exact .inr (.inl ⟨h, h'⟩)
      · exact .inl (.inr (.inr ⟨h, h'⟩))
      · exact .inr (.inr ⟨h, h'⟩)
/-- What two vregs that are one are to each other. -/
structure Mg (w : CW) (a b : Nat) : Prop where
  ne : a ≠ b
  la : w.left a = true
  lb : w.left b = true
  ab : w.nr a b = false
theorem merge_nr (K : CInv N w) {a b : Nat} (M : Mg w a b) (ms : List (Nat × Nat)) (x y : Nat) : (w.merge a b ms).nr x y = true ↔ w.nr x y = true ∨ (x = a ∧ w.nr b y = true) ∨ (y = a ∧ w.nr b x = true) := by
  have hl : ∀ v ∈ allS (w.nr b), v < w.near.length := fun v hv => by rw [K.ln]; exact (K.bnd _ _ (mem_allS.1 hv).2).2
  have := (link_nr (a := a) (allS (w.nr b)) w.near (by rw [K.ln]; exact K.leftN a M.la) hl).2 x y
  refine this.trans ?_
  have hm : ∀ z, z ∈ allS (w.nr b) ↔ w.nr b z = true := fun z => ⟨fun h => (mem_allS.1 h).2, fun h => mem_allS.2 ⟨Nat.lt_of_lt_of_le (K.bnd _ _ h).2 K.hN, h⟩⟩
  rw [hm, hm]; rfl
theorem Mg.ba (K : CInv N w) {a b : Nat} (M : Mg w a b) : w.nr b a = false := by
  cases h : w.nr b a with
  | false => rfl
  | true => have := K.sym _ _ h; rw [M.ab] at this; cases this
theorem merge_rank (K : CInv N w) {a b : Nat} (M : Mg w a b) : ∃ r r', Rk N w.st r ∧ Rk N (w.st.set b a) r' ∧ (∀ v, cutP w.left b v = true → r' v = 0) ∧ ∀ v, v < N → cutP w.left b v = false → cntP (cutP w.left b) < r' v := by
  obtain ⟨r, k1, k2, k3⟩ := K.rank
  have hbN := K.leftN b M.lb
  have haN := K.leftN a M.la
  have hbl : b < w.st.length := by rw [k1.len]; exact hbN
  have hc := cntP_cut (p := w.left) (x := b) (Nat.lt_of_lt_of_le hbN K.hN) M.lb
  refine ⟨r, fun x => if x = b then cntP w.left else r x, k1, ⟨by rw [List.length_set]; exact k1.len, fun x hx => ?_, fun x hx => ?_, fun x hx hne => ?_⟩, fun x hx => ?_, fun x hx hl => ?_⟩
  · rw [getD_set hbl]; split
    · exact haN
    · exact k1.lt x hx
  · split
    · exact K.cle
    · exact k1.le x hx
  · rw [getD_set hbl] at hne ⊢
    by_cases e : x = b
    · rw [if_pos e, if_pos e, if_neg M.ne, k2 a M.la]; omega
    · rw [if_neg e] at hne ⊢
      rw [if_neg e]
      have hd := k1.dec x hx hne
      have hxl : w.left x = false := by
        cases h : w.left x with
        | false => rfl
        | true => exact absurd (K.leftR x h) hne
      have := k3 x hx hxl
      split <;> omega
  · have := cutP_at.1 hx
    simp only [if_neg this.2]; exact k2 x this.1
  · simp only
    by_cases e : x = b
    · rw [if_pos e]; omega
    · rw [if_neg e]
      have := k3 x hx (by
        cases h : w.left x with
        | false => rfl
        | true => rw [cutP_at.2 ⟨h, e⟩] at hl; cases hl)
      omega
theorem merge_of (K : CInv N w) {a b : Nat} (M : Mg w a b) (ms : List (Nat × Nat)) {v : Nat} (hv : v < N) : (w.merge a b ms).of v = if w.of v = b then a else w.of v := by
  obtain ⟨r, r', k1, k2, -⟩ := merge_rank K M
  exact k1.link k2 (K.leftN a M.la) (K.leftN b M.lb) M.ne (K.leftR a M.la) (K.leftR b M.lb) hv
theorem merge_st (K : CInv N w) {a b : Nat} (M : Mg w a b) (ms : List (Nat × Nat)) (v : Nat) : (w.merge a b ms).st.getD v v = if v = b then a else w.st.getD v v :=
  getD_set (by rw [K.len]; exact K.leftN b M.lb)
theorem CInv.merge (K : CInv N w) {a b : Nat} (M : Mg w a b) {ms : List (Nat × Nat)} (hm : ∀ m ∈ ms, m ∈ w.moves) : CInv N (w.merge a b ms) := by
  have hbN := K.leftN b M.lb
  have haN := K.leftN a M.la
  have hc := cntP_cut (p := w.left) (x := b) (Nat.lt_of_lt_of_le hbN K.hN) M.lb
  have hlt : ∀ x, cutP w.left b x = true → w.left x = true := fun x h => (cutP_at.1 h).1
  have hba := Mg.ba K M
  have hnr := merge_nr K M ms
  obtain ⟨r, r', k1, k2, k3, k4⟩ := merge_rank K M
  have hl : ∀ v ∈ allS (w.nr b), v < w.near.length := fun v hv => by rw [K.ln]; exact (K.bnd _ _ (mem_allS.1 hv).2).2
  refine ⟨?_, K.hN, fun v n h => ?_, fun v n h => ?_, fun v => ?_, ⟨r', k2, k3, k4⟩, ?_, fun x hx => K.leftN x (hlt x hx), fun x hx => ?_, fun x hx => ?_, fun x hx hr => ?_, fun v n h => ?_, fun m h => K.mv m (hm m h)⟩
  · exact (link_nr (a := a) (allS (w.nr b)) w.near (by rw [K.ln]; exact haN) hl).1.trans K.ln
  · rcases (hnr v n).1 h with h | ⟨h, h'⟩ | ⟨h, h'⟩
    · exact K.bnd _ _ h
    · rw [h]; exact ⟨haN, (K.bnd _ _ h').2⟩
    · rw [h]; exact ⟨(K.bnd _ _ h').2, haN⟩
  · rcases (hnr v n).1 h with h | ⟨h, h'⟩ | ⟨h, h'⟩
    · exact (hnr n v).2 (.inl (K.sym _ _ h))
    · exact (hnr n v).2 (.inr (.inr ⟨h, h'⟩))
    · exact (hnr n v).2 (.inr (.inl ⟨h, h'⟩))
  · cases h : (w.merge a b ms).nr v v with
    | false => rfl
    | true =>
      rcases (hnr v v).1 h with h | ⟨h, h'⟩ | ⟨h, h'⟩
      · rw [K.irr] at h; cases h
      · rw [h, hba] at h'; cases h'
      · rw [h, hba] at h'; cases h'
  · show cntP (cutP w.left b) ≤ N
    have := K.cle; omega
  · have := cutP_at.1 hx
    rw [merge_st K M, if_neg this.2]; exact K.leftR x this.1
  · obtain ⟨q1, q2, q3⟩ := K.stk x hx
    have hxb : x ≠ b := fun e => by rw [e, M.lb] at q3; cases q3
    refine ⟨q1, by rw [merge_st K M, if_neg hxb]; exact q2, ?_⟩
    show cutP w.left b x = false
    unfold cutP; rw [q3]; rfl
  · rw [merge_st K M] at hr
    by_cases e : x = b
    · rw [if_pos e] at hr; exact absurd (hr.trans e) M.ne
    · rw [if_neg e] at hr
      rcases K.cov x hx hr with h | h
      · exact .inl (cutP_at.2 ⟨h, e⟩)
      · exact .inr h
  · have ha' : (w.merge a b ms).of a = a := CW.of_self (by rw [merge_st K M, if_neg M.ne]; exact K.leftR a M.la)
    rcases (hnr v n).1 h with h | ⟨h, h'⟩ | ⟨h, h'⟩
    · rw [merge_of K M ms (K.bnd _ _ h).2]
      have hc := K.clo _ _ h
      split
      · rename_i e
        rw [e] at hc
        exact (hnr v a).2 (.inr (.inr ⟨rfl, K.sym _ _ hc⟩))
      · exact (hnr _ _).2 (.inl hc)
    · rw [merge_of K M ms (K.bnd _ _ h').2]
      have hc := K.clo _ _ h'
      have : w.of n ≠ b := fun e => by rw [e, K.irr] at hc; cases hc
      rw [if_neg this]
      exact (hnr _ _).2 (.inr (.inl ⟨h, hc⟩))
    · rw [h, ha']; exact (hnr v a).2 (.inr (.inr ⟨rfl, h'⟩))

/-! ### The steps there are -/
inductive Stp (k : Nat) (w : CW) : CW → Prop
  | push {v : Nat} (hv : w.left v = true) (hd : w.deg v < k) : Stp k w (w.push v)
  | drop {ms : List (Nat × Nat)} (hm : ∀ m ∈ ms, m ∈ w.moves) (hl : ms.length < w.moves.length) : Stp k w { w with moves := ms }
  | merge {a b : Nat} {ms : List (Nat × Nat)} (M : Mg w a b) (hm : ∀ m ∈ ms, m ∈ w.moves) (hl : ms.length < w.moves.length) (hx : ∃ m ∈ w.moves, w.of m.1 = a ∧ w.of m.2 = b) (hg : w.great k a b < k) : Stp k w (w.merge a b ms)
  | spill {v : Nat} (hv : w.left v = true) (hn : ∀ u, w.left u = true → u < 4096 → k ≤ w.deg u) : Stp k w ((w.without v).push v)
theorem coal_stp : ∀ (d r : List (Nat × Nat)), d ++ r = w.moves → ∀ {w' : CW}, w.coal k firm d r = some w' → Stp k w w'
  | d, [], _, w', h => by cases h
  | d, m :: r, e, w', h => by
    have hm : ∀ x ∈ d ++ r, x ∈ w.moves := fun x hx => by
      rw [← e]; rcases List.mem_append.1 hx with h | h
      · exact List.mem_append_left _ h
      · exact List.mem_append_right _ (List.mem_cons_of_mem _ h)
    have hl : (d ++ r).length < w.moves.length := by rw [← e]; simp
    have hmm : m ∈ w.moves := by rw [← e]; simp
    rw [CW.coal] at h
    split at h
    · cases h; exact .drop hm hl
    · rename_i hd
      split at h
      · rename_i hg
        cases h
        rw [Bool.not_eq_true] at hd
        simp only [CW.drops, Bool.or_eq_false_iff, decide_eq_false_iff_not, Bool.not_eq_false'] at hd
        exact .merge ⟨hd.1.1.1.1.1, hd.1.2, hd.2, hd.1.1.1.1.2⟩ hm hl ⟨m, hmm, rfl, rfl⟩ hg
      · exact coal_stp (d ++ [m]) r (by rw [← e]; simp) h
theorem best_mem (firm : List Bool) (w : CW) : ∀ (l : List Nat) {o : Option Nat} {b : Nat}, l.foldl (fun o v => match o with | none => some v | some b => if w.better firm b v = true then some v else some b) o = some b → b ∈ l ∨ o = some b
  | [], o, b, h => .inr h
  | v :: l, o, b, h => by
    rw [List.foldl_cons] at h
    rcases best_mem firm w l h with h | h
    · exact .inl (List.mem_cons_of_mem _ h)
    · cases o with
      | none => simp at h; exact .inl (by rw [h]; simp)
      | some c =>
        simp only at h
        split at h
        · simp at h; exact .inl (by rw [h]; simp)
        · exact .inr h
theorem best_none (firm : List Bool) (w : CW) : ∀ (l : List Nat) {o : Option Nat}, l.foldl (fun o v => match o with | none => some v | some b => if w.better firm b v = true then some v else some b) o = none → l = []
  | [], o, h => rfl
  | v :: l, o, h => by
    rw [List.foldl_cons] at h
    have h1 := best_none firm w l h
    subst h1
    exfalso
    simp only [List.foldl_nil] at h
    cases o with
    | none => cases h
    | some c => simp only at h; split at h <;> cases h
theorem step_stp (h : w.step k firm = some w') : Stp k w w' := by
  unfold CW.step at h
  cases h1 : w.simp k with
  | some x =>
    rw [h1] at h
    simp only [Option.some_or, Option.some.injEq] at h
    subst h
    unfold CW.simp at h1
    rw [Option.map_eq_some_iff] at h1
    obtain ⟨v, hv, rfl⟩ := h1
    have h2 := List.find?_some hv
    have h3 := List.mem_of_find?_eq_some hv
    simp only [Bool.and_eq_true, decide_eq_true_eq] at h2
    exact .push (mem_allS.1 h3).2 h2.1
  | none =>
    rw [h1, Option.none_or] at h
    cases h2 : w.coal k firm [] w.moves with
    | some x =>
      rw [h2] at h
      simp only [Option.some_or, Option.some.injEq] at h
      subst h
      exact coal_stp [] w.moves rfl h2
    | none =>
      rw [h2, Option.none_or] at h
      cases h3 : w.freeze k with
      | some x =>
        rw [h3] at h
        simp only [Option.some_or, Option.some.injEq] at h
        subst h
        unfold CW.freeze at h3
        rw [Option.map_eq_some_iff] at h3
        obtain ⟨v, hv, rfl⟩ := h3
        have q2 := List.find?_some hv
        have q3 := List.mem_of_find?_eq_some hv
        refine .drop (fun m hm => (List.mem_filter.1 hm).1) ?_
        have hmov : w.moving v = true := by
          unfold CW.simp at h1
          rw [Option.map_eq_none_iff] at h1
          have := List.find?_eq_none.1 h1 v q3
          rw [q2] at this
          simpa using this
        obtain ⟨m, hm, hat⟩ := List.any_eq_true.1 hmov
        have : (w.moves.filter fun m => !w.at_ v m).length ≠ w.moves.length := fun e => by
          have := List.length_filter_eq_length_iff.1 e m hm
          rw [hat] at this; cases this
        have := List.length_filter_le (fun m => !w.at_ v m) w.moves
        omega
      | none =>
        rw [h3, Option.none_or] at h
        unfold CW.spill at h
        rw [Option.map_eq_some_iff] at h
        obtain ⟨v, hv, rfl⟩ := h
        rcases best_mem firm w _ hv with h4 | h4
        · refine .spill (mem_allS.1 h4).2 fun u hu hu2 => ?_
          unfold CW.freeze at h3
          rw [Option.map_eq_none_iff] at h3
          have := List.find?_eq_none.1 h3 u (mem_allS.2 ⟨hu2, hu⟩)
          simpa using this
        · cases h4
theorem step_none (h : w.step k firm = none) {v : Nat} (hv : v < 4096) : w.left v = false := by
  unfold CW.step at h
  simp only [Option.or_eq_none_iff] at h
  have h4 := h.2.2.2
  unfold CW.spill at h4
  rw [Option.map_eq_none_iff] at h4
  have := best_none firm w _ h4
  cases hl : w.left v with
  | false => rfl
  | true => have := mem_allS.2 ⟨hv, hl⟩; rw [‹allS w.left = []›] at this; cases this
theorem Stp.inv (K : CInv N w) (S : Stp k w w') : CInv N w' ∧ w'.mu < w.mu := by
  cases S with
  | push hv hd =>
    have hc := cntP_cut (p := w.left) (Nat.lt_of_lt_of_le (K.leftN _ hv) K.hN) hv
    refine ⟨K.push hv (ms := w.moves) fun m h => h, ?_⟩
    show cntP (cutP w.left _) + w.moves.length < cntP w.left + w.moves.length
    omega
  | @drop ms hm hl => exact ⟨K.drop hm, by show cntP w.left + ms.length < cntP w.left + w.moves.length; omega⟩
  | @merge a b ms M hm hl hx hg =>
    have hc := cntP_cut (p := w.left) (Nat.lt_of_lt_of_le (K.leftN _ M.lb) K.hN) M.lb
    refine ⟨K.merge M hm, ?_⟩
    show cntP (cutP w.left b) + ms.length < cntP w.left + w.moves.length
    omega
  | @spill v hv hn =>
    have hc := cntP_cut (p := w.left) (Nat.lt_of_lt_of_le (K.leftN _ hv) K.hN) hv
    refine ⟨K.push hv fun m h => (List.mem_filter.1 h).1, ?_⟩
    have h2 := List.length_filter_le (fun m => !w.at_ v m) w.moves
    show cntP (cutP w.left v) + (w.moves.filter fun m => !w.at_ v m).length < cntP w.left + w.moves.length
    omega
end
end Go.Proofs.YtbgfabppmobpgaaDoor
