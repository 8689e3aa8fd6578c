/-
  Runs of blocks whose places have other names. Conditions: none (plain lemmas).
-/
import Derived.Test.YtodeffobplpcnaaR2Ins
set_option linter.unusedVariables false
set_option linter.unusedSimpArgs false
namespace Go.Proofs.Ytodeffobplpcnaa
open Go

theorem Runs.mapB {bs : List Blk} {R : Int} {f : Blk → Blk} {fi : Ins → Ins} {Rel : Rs → Rs → Prop} (hins : ∀ z ∈ bs, (f z).ins = z.ins.map fi)
    (hstep : ∀ {z : Blk} {y : Ins} {s s' : Rs}, z ∈ bs → y ∈ z.ins → Rel s s' → Rel (stepM R y s).1 (stepM R (fi y) s').1 ∧ (stepM R (fi y) s').2 = (stepM R y s).2)
    (hend : ∀ {z : Blk} {s s' : Rs}, z ∈ bs → Rel s s' → Rel (endS z.en s).1 (endS (f z).en s').1 ∧ (endS (f z).en s').2 = (endS z.en s).2)
    {b k : Nat} {s t : Rs} (h : Runs bs R b k s t) : ∀ {s' : Rs}, Rel s s' → ∃ t', Rel t t' ∧ Runs (bs.map f) R b k s' t' := by
  have get : ∀ {b : Nat} {z : Blk}, bs[b]? = some z → (bs.map f)[b]? = some (f z) := fun h => by rw [List.getElem?_map, h]; rfl
  have geti : ∀ {z : Blk} {k : Nat} {y : Ins}, z ∈ bs → z.ins[k]? = some y → (f z).ins[k]? = some (fi y) := fun hz h => by rw [hins _ hz, List.getElem?_map, h]; rfl
  induction h with
  | stop h1 h2 h3 =>
    intro s' hs
    obtain ⟨k3, k4⟩ := hstep (List.mem_of_getElem? h1) (List.mem_of_getElem? h2) hs
    rw [h3] at k3 k4
    exact ⟨_, k3, .stop (get h1) (geti (List.mem_of_getElem? h1) h2) (Prod.ext rfl k4)⟩
  | step h1 h2 h3 h4 ih =>
    intro s' hs
    obtain ⟨k3, k4⟩ := hstep (List.mem_of_getElem? h1) (List.mem_of_getElem? h2) hs
    rw [h3] at k3 k4
    obtain ⟨t', k5, k6⟩ := ih k3
    exact ⟨t', k5, .step (get h1) (geti (List.mem_of_getElem? h1) h2) (Prod.ext rfl k4) k6⟩
  | fin h1 h0 h2 =>
    intro s' hs
    obtain ⟨k3, k4⟩ := hend (List.mem_of_getElem? h1) hs
    rw [h2] at k3 k4
    exact ⟨_, k3, .fin (get h1) (by rw [hins _ (List.mem_of_getElem? h1), List.length_map]; exact h0) (Prod.ext rfl k4)⟩
  | go h1 h0 h2 h4 ih =>
    rename_i b' k' s0 t0 f0 x0 c0
    intro s' hs
    obtain ⟨k3, k4⟩ := hend (List.mem_of_getElem? h1) hs
    rw [h2] at k3 k4
    obtain ⟨t', k5, k6⟩ := ih k3
    exact ⟨t', k5, .go (get h1) (by rw [hins _ (List.mem_of_getElem? h1), List.length_map]; exact h0) (t := (endS (f x0).en s').1) (c := c0) (Prod.ext rfl k4) k6⟩
/-- The same, but for where things stand: place i has become place p i. -/
structure RelP (n : Int) (p : Int → Int) (s s' : Rs) : Prop where
  len : (s.places.length : Int) = n
  len' : (s'.places.length : Int) = n
  at_ : ∀ i, inN n i → getP s' (p i) = getP s i
  eq : s' = { s with places := s'.places }
theorem getP_set {s : Rs} {n a b v : Int} (hl : (s.places.length : Int) = n) (ha : inN n a) (hb : inN n b) : getP (setP s a v) b = if a = b then v else getP s b := by
  obtain ⟨a1, a2⟩ := ha
  obtain ⟨b1, b2⟩ := hb
  unfold getP setP
  simp only [List.getD_eq_getElem?_getD, List.getElem?_set]
  by_cases h : a = b
  · subst h; rw [if_pos rfl, if_pos rfl, if_pos (by omega)]; rfl
  · rw [if_neg h, if_neg (by omega)]
theorem RelP.set {n : Int} {p : Int → Int} {s s' : Rs} (K : RelP n p s s') (hp : ∀ i, inN n i → inN n (p i)) (hj : ∀ i j, inN n i → inN n j → p i = p j → i = j) {d v : Int} (hd : inN n d) : RelP n p (setP s d v) (setP s' (p d) v) := by
  refine ⟨by rw [setP_len]; exact K.len, by rw [setP_len]; exact K.len', fun i hi => ?_, ?_⟩
  · rw [getP_set K.len' (hp d hd) (hp i hi), getP_set K.len hd hi, K.at_ i hi]
    by_cases h : d = i
    · rw [if_pos (by rw [h]), if_pos h]
    · rw [if_neg (fun e => h (hj d i hd hi e)), if_neg h]
  · have := K.eq
    unfold setP
    rw [this]
def renI (p : Int → Int) (y : Ins) : Ins := { y with d := if y.kind ≠ 5 then p y.d else y.d, a := if y.kind ≠ 1 ∧ y.kind ≠ 6 then p y.a else y.a, b := if y.kind = 3 ∨ y.kind = 5 then p y.b else y.b, args := y.args.map p }
def renE (p : Int → Int) (e : Fin4) : Fin4 := { e with a := if e.kind ≠ 1 then p e.a else e.a }
def renB (p : Int → Int) (x : Blk) : Blk := ⟨x.ins.map (renI p), renE p x.en⟩
section
variable {n R : Int} {p : Int → Int} {s s' : Rs}
theorem RelP.left (K : RelP n p s s') : s'.left = s.left := by rw [K.eq]
theorem RelP.withF (K : RelP n p s s') (l : Int) (c : List (Int × List Int)) (m : List Int) (mo : List Int) (hw : Int) (va : Int) :
    RelP n p { s with left := l, calls := c, mem := m, more := mo, how := hw, value := va } { s' with left := l, calls := c, mem := m, more := mo, how := hw, value := va } :=
  ⟨K.len, K.len', K.at_, by rw [K.eq]⟩
theorem RelP.step (K : RelP n p s s') (hp : ∀ i, inN n i → inN n (p i)) (hj : ∀ i j, inN n i → inN n j → p i = p j → i = j) {y : Ins} (ho : PlOk R n y) (hk : y.kind ≠ 7 ∧ y.kind ≠ 8) :
    RelP n p (stepM R y s).1 (stepM R (renI p y) s').1 ∧ (stepM R (renI p y) s').2 = (stepM R y s).2 := by
  have hl := K.left
  have hc : s'.calls = s.calls := by rw [K.eq]
  have hm : s'.mem = s.mem := by rw [K.eq]
  have hmo : s'.more = s.more := by rw [K.eq]
  have hh : s'.how = s.how := by rw [K.eq]
  have hv : s'.value = s.value := by rw [K.eq]
  have Kl : RelP n p { s with left := s.left - 1 } { s' with left := s'.left - 1 } := by
    have := K.withF (s.left - 1) s.calls s.mem s.more s.how s.value
    rw [hl]
    rw [← hc, ← hm, ← hmo, ← hh, ← hv] at this
    exact ⟨K.len, K.len', K.at_, by rw [K.eq]⟩
  by_cases k2 : y.kind = 2
  · obtain ⟨p1, p2⟩ := ho.k2 k2
    have e1 : (renI p y).d = p y.d := by simp [renI, k2]
    have e2 : (renI p y).a = p y.a := by simp [renI, k2]
    rw [stepM_2 k2, stepM_2 (show (renI p y).kind = 2 from k2), e1, e2, K.at_ _ p2]
    exact ⟨K.set hp hj p1, rfl⟩
  have hpd : Paid y := ⟨k2, hk.1, hk.2⟩
  have hpd' : Paid (renI p y) := ⟨k2, hk.1, hk.2⟩
  by_cases hl0 : s.left = 0
  · rw [stepM_0 hpd hl0, stepM_0 hpd' (hl.trans hl0)]
    exact ⟨⟨K.len, K.len', K.at_, by rw [K.eq]⟩, rfl⟩
  have hl1 : s'.left ≠ 0 := by rw [hl]; exact hl0
  by_cases k1 : y.kind = 1
  · have e1 : (renI p y).d = p y.d := by simp [renI, k1]
    rw [stepM_1 k1 hl0, stepM_1 (show (renI p y).kind = 1 from k1) hl1, e1]
    exact ⟨Kl.set hp hj (ho.k1 k1), rfl⟩
  by_cases k3 : y.kind = 3
  · obtain ⟨p1, p2, p3, -⟩ := ho.k3 k3
    have e1 : (renI p y).d = p y.d := by simp [renI, k3]
    have e2 : (renI p y).a = p y.a := by simp [renI, k3]
    have e3 : (renI p y).b = p y.b := by simp [renI, k3]
    rw [stepM_3 k3 hl0, stepM_3 (show (renI p y).kind = 3 from k3) hl1, e1, e2, e3, K.at_ _ p2, K.at_ _ p3, show (renI p y).op = y.op from rfl]
    cases binM y.op (getP s y.a) (getP s y.b) with
    | none => exact ⟨⟨K.len, K.len', K.at_, by rw [K.eq]⟩, rfl⟩
    | some v => exact ⟨Kl.set hp hj p1, rfl⟩
  by_cases k4 : y.kind = 4
  · obtain ⟨p1, p2⟩ := ho.k4 k4
    have e1 : (renI p y).d = p y.d := by simp [renI, k4]
    have e2 : (renI p y).a = p y.a := by simp [renI, k4]
    rw [stepM_4 k4 hl0, stepM_4 (show (renI p y).kind = 4 from k4) hl1, e1, e2, K.at_ _ p2, show s'.mem.getD (wordI (getP s y.a)) 0 = s.mem.getD (wordI (getP s y.a)) 0 by rw [hm]]
    exact ⟨Kl.set hp hj p1, rfl⟩
  by_cases k5 : y.kind = 5
  · obtain ⟨p1, p2⟩ := ho.k5 k5
    have e2 : (renI p y).a = p y.a := by simp [renI, k5]
    have e3 : (renI p y).b = p y.b := by simp [renI, k5]
    rw [stepM_5 k5 hl0, stepM_5 (show (renI p y).kind = 5 from k5) hl1, e2, e3, K.at_ _ p1, K.at_ _ p2, hm, hl]
    exact ⟨⟨K.len, K.len', K.at_, by rw [K.eq]⟩, rfl⟩
  by_cases k6 : y.kind = 6
  · obtain ⟨p1, p2⟩ := ho.k6 k6
    have e1 : (renI p y).d = p y.d := by simp [renI, k6]
    have e4 : (renI p y).args.map (getP s') = y.args.map (getP s) := by
      show (y.args.map p).map (getP s') = _
      rw [List.map_map]
      exact List.map_congr_left fun a ha => K.at_ a (p2 a ha)
    rw [stepM_6 k6 hl0, stepM_6 (show (renI p y).kind = 6 from k6) hl1, e1, e4, hc, hmo, hl, show (renI p y).n = y.n from rfl]
    refine ⟨RelP.set (s := { s with left := s.left - 1, calls := s.calls ++ [(y.n, y.args.map (getP s))], more := s.more.tail }) (s' := { s' with left := s.left - 1, calls := s.calls ++ [(y.n, y.args.map (getP s))], more := s.more.tail }) ⟨K.len, K.len', K.at_, by rw [K.eq]⟩ hp hj p1, rfl⟩
  · rw [stepM_n hpd k1 k3 k4 k5 k6 hl0, stepM_n hpd' k1 k3 k4 k5 k6 hl1]
    exact ⟨Kl, rfl⟩
theorem RelP.fin (K : RelP n p s s') {e : Fin4} (ha : e.kind ≠ 1 → inN n e.a) (h123 : 1 ≤ e.kind ∧ e.kind ≤ 3) : RelP n p (endS e s).1 (endS (renE p e) s').1 ∧ (endS (renE p e) s').2 = (endS e s).2 := by
  have hl := K.left
  by_cases hl0 : s.left = 0
  · rw [endS_0 hl0, endS_0 (hl.trans hl0)]; exact ⟨⟨K.len, K.len', K.at_, by rw [K.eq]⟩, rfl⟩
  have hl1 : s'.left ≠ 0 := by rw [hl]; exact hl0
  have e1 : e.kind ≠ 1 → (renE p e).a = p e.a := fun h => by simp [renE, h]
  by_cases k3 : e.kind = 3
  · rw [endS_3 hl0 k3, endS_3 (e := renE p e) hl1 k3, e1 (by omega), K.at_ _ (ha (by omega))]; exact ⟨⟨K.len, K.len', K.at_, by rw [K.eq]⟩, rfl⟩
  by_cases k : e.kind = 2 ∧ getP s e.a = 0
  · rw [endS_b hl0 k3 k, endS_b (e := renE p e) hl1 k3 ⟨k.1, by rw [e1 (by omega), K.at_ _ (ha (by omega))]; exact k.2⟩]; exact ⟨⟨K.len, K.len', K.at_, by rw [K.eq]⟩, rfl⟩
  · have k' : ¬ ((renE p e).kind = 2 ∧ getP s' (renE p e).a = 0) := fun q => k ⟨q.1, by
      have hk2 : e.kind = 2 := q.1
      have := q.2
      rw [e1 (by omega), K.at_ _ (ha (by omega))] at this; exact this⟩
    rw [endS_t hl0 k3 k, endS_t (e := renE p e) hl1 k3 k']; exact ⟨⟨K.len, K.len', K.at_, by rw [K.eq]⟩, rfl⟩
end
theorem start_get {V : Nat} {args mem ans : List Int} {fuel i : Int} (hal : args.length ≤ V) (hi : inN (V : Int) i) : getP (start V 0 args mem ans fuel) i = if i < (args.length : Int) then args.getD i.toNat 0 else 0 := by
  obtain ⟨h1, h2⟩ := hi
  unfold getP start places0
  simp only [List.replicate_zero, List.nil_append, Nat.sub_zero]
  rw [List.getD_eq_getElem?_getD]
  by_cases h : i < (args.length : Int)
  · rw [if_pos h, List.getElem?_append_left (by omega), List.getD_eq_getElem?_getD]
  · rw [if_neg h, List.getElem?_append_right (by omega), List.getElem?_replicate, if_pos (by omega)]; rfl
/-- A function whose vregs that are no parameters have other names: the same run. -/
theorem renamed_run {V : Nat} {B : List Blk} {p : Int → Int} {args mem ans : List Int} {fuel : Int} {t t2 : Rs} (hok : ∀ z ∈ B, BlOk (V : Int) (V : Int) B.length z) (hk : ∀ z ∈ B, ∀ y ∈ z.ins, y.kind ≠ 7 ∧ y.kind ≠ 8)
    (hp : ∀ i, inN (V : Int) i → inN (V : Int) (p i)) (hj : ∀ i j, inN (V : Int) i → inN (V : Int) j → p i = p j → i = j) (hf : ∀ i, inN (V : Int) i → if i < (args.length : Int) then p i = i else (args.length : Int) ≤ p i) (hal : args.length ≤ V)
    (h : Runs B V 0 0 (start V 0 args mem ans fuel) t) (h2 : Runs (B.map (renB p)) V 0 0 (start V 0 args mem ans fuel) t2) : SameO t t2 := by
  have hlen : (start V 0 args mem ans fuel).places.length = V := places0_len (by omega)
  have hs : RelP (V : Int) p (start V 0 args mem ans fuel) (start V 0 args mem ans fuel) := ⟨by rw [hlen], by rw [hlen], fun i hi => by
    rw [start_get hal (hp i hi), start_get hal hi]
    have := hf i hi
    by_cases q : i < (args.length : Int)
    · rw [if_pos q] at this; rw [this]
    · rw [if_neg q] at this; rw [if_neg q, if_neg (by omega)], rfl⟩
  obtain ⟨t', K, h4⟩ := Runs.mapB (f := renB p) (fi := renI p) (Rel := RelP (V : Int) p) (fun z _ => rfl)
    (fun {z y s s'} hz hy K => K.step hp hj ((hok z hz).ins y hy) (hk z hz y hy))
    (fun {z s s'} hz K => K.fin (hok z hz).en.1 (hok z hz).kd) h hs
  have := h4.same h2
  subst this
  rw [K.eq]
  exact ⟨rfl, rfl, rfl, rfl, rfl⟩
end Go.Proofs.Ytodeffobplpcnaa
