/-
  Sets that flow: from where they come, what blocks make of them, where that ends. Conditions: as each contract says.
-/
import Derived.Test.YtbbicdfipheaeaaDoorR5E
import Derived.Test.YtbbicdfipheaeaaDoorR5Ts
set_option linter.unusedVariables false
set_option linter.unusedSimpArgs false
namespace Go.Proofs.YtbbicdfipheaeaaDoor
open Go

/-! ### From where -/
def frmB (back : Bool) (B : List Blk) (b : Nat) : List Nat := if back then nextN B b else aheadM B b
theorem frmB_lt {back : Bool} {B : List Blk} (hB : OkB B) {b a : Nat} (h : a ∈ frmB back B b) : a < B.length := by
  unfold frmB at h
  split at h
  · exact nextN_lt hB h
  · unfold aheadM at h; simp at h; exact h.1
theorem nextN_len (B : List Blk) (b : Nat) : (nextN B b).length ≤ 2 := by
  unfold nextN
  split
  · rw [List.length_map]; unfold nextL; split <;> (try split) <;> simp
  · simp
theorem frmB_len (back : Bool) {B : List Blk} (h2 : B.length ≤ 1000) (b : Nat) : (frmB back B b).length ≤ 1000 := by
  unfold frmB
  split
  · have := nextN_len B b; omega
  · exact Nat.le_trans (aheadI_len B b B.length) h2
theorem next_nat {B : List Blk} (hB : OkB B) {b : Nat} {x : Blk} (hx : B[b]? = some x) : (nextN B b).map Int.ofNat = nextL x.en := by
  rw [nextN_at hx, List.map_map]
  have : ∀ l : List Int, (∀ n ∈ l, 0 ≤ n) → l.map (Int.ofNat ∘ Int.toNat) = l := fun l hl => by
    conv => rhs; rw [← List.map_id l]
    apply List.map_congr_left
    intro n hn
    have := hl n hn
    show ((n.toNat : Nat) : Int) = n
    omega
  exact this _ fun n hn => (hB x (List.mem_of_getElem? hx) n hn).1
def aheadV (back : Bool) (ad : Addr) : Value := .func (.func (if back then 46 else 48)) #[] #[.pointer (some ad)]
theorem s46 {h : H} {ad : Addr} {u : Value} {B : List Blk} {b : Nat} (hr : Reads h ad [u]) (hv : BlksAt h u B) (hB : OkB B) (hb : b < B.length) :
    CallsA Tryd.prog 46 (fun _ => [natV b, .pointer (some ad)]) [] h (Ret fun v h' => h.le h' ∧ OwnInts h h' v ((nextN B b).map Int.ofNat)) := by
  refine c46 (G := [natV b, .pointer (some ad)]) ⟨⟨_, rfl⟩, ⟨_, rfl⟩, trivial⟩ (h_load [u] ⟨hv.fit, trivial⟩ (fun _ => hr) ?_)
  have hx := List.getElem?_eq_getElem hb
  generalize B[b] = x at hx
  have hrd := blks_get hv hx
  refine ⟨fun _ => ?_, h_load (endC x.en) ⟨⟨_, rfl⟩, ⟨_, rfl⟩, ⟨_, rfl⟩, ⟨_, rfl⟩, trivial⟩ (fun _ => ?_) ?_⟩
  · refine ⟨ge0 b, ?_, trivial⟩
    show cmpOp .lss (b : Int) ((vlen u : Nat) : Int) = true
    rw [hv.len]; exact ltN hb
  · show Reads h (((vaddr u).add (b * 5)).add 1) _
    rw [add_add]; exact hrd
  refine h_call0 (s47 x.en) ?_
  rintro v g ⟨hl, ho⟩
  refine ⟨[v], ⟨ho.fit, trivial⟩, rfl, rfl, hl, ?_⟩
  rw [next_nat hB hx]; exact ho
theorem s48 {h : H} {ad : Addr} {u : Value} {B : List Blk} {b : Nat} (hr : Reads h ad [u]) (hv : BlksAt h u B) (hB : OkB B) (h2 : B.length ≤ 1000) :
    CallsA Tryd.prog 48 (fun _ => [natV b, .pointer (some ad)]) [] h (Ret fun v h' => h.le h' ∧ OwnInts h h' v ((aheadM B b).map Int.ofNat)) := by
  refine c48 (G := [natV b, .pointer (some ad)]) ⟨⟨_, rfl⟩, ⟨_, rfl⟩, trivial⟩ (h_load [u] ⟨hv.fit, trivial⟩ (fun _ => hr) ?_)
  refine h_call0 (s49o (n := b) hv hB h2) ?_
  rintro v g ⟨hl, ho⟩
  exact ⟨[v], ⟨ho.ints.fit, trivial⟩, rfl, rfl, hl, ho⟩
theorem ahead_calls {h : H} {ad : Addr} {u : Value} {B : List Blk} {b : Nat} (back : Bool) (hr : Reads h ad [u]) (hv : BlksAt h u B) (hB : OkB B) (h2 : B.length ≤ 1000) (hb : b < B.length) :
    CallvSpec Tryd.prog h (aheadV back ad) [natV b] fun v h' => h.le h' ∧ OwnInts h h' v ((frmB back B b).map Int.ofNat) := by
  cases back with
  | true => exact .of (enter (by decide)) (s46 hr hv hB hb)
  | false => exact .of (enter (by decide)) (s48 hr hv hB h2)
theorem s14 {h : H} {u : Value} {B : List Blk} (back : Bool) (hv : BlksAt h u B) :
    CallsA Tryd.prog 14 (fun _ => [u, .bool back]) [] h (Ret fun v h' => h.le h' ∧ ∃ ad, v = aheadV back ad ∧ Reads h' ad [u]) := by
  refine c14 (G := [u, .bool back]) ⟨hv.fit, ⟨_, rfl⟩, trivial⟩ fun c hc => ?_
  have hrd : Reads (h.put c (.cells [u].toArray 26 (0, 0))) ⟨c, 0, none⟩ [u] := by
    have := Reads.put (h := h) (b := c) (l := [u]) (e := 26) (o := 0) (cs := [u]) fun i w hi => by rw [Nat.zero_add]; exact hi
    rwa [add_lit] at this
  refine h_ite (fun q => ?_) fun q => ?_
  · replace q : back = true := q
    subst q
    exact ⟨rfl, H.le_put hc, ⟨c, 0, none⟩, rfl, hrd⟩
  · replace q : back = false := q
    subst q
    exact ⟨rfl, H.le_put hc, ⟨c, 0, none⟩, rfl, hrd⟩

/-! ### What a block makes of a set -/
def rowAt (T : List (List Nat)) (b : Nat) : List Nat := T.getD b []
theorem rowAt_eq {T : List (List Nat)} {b : Nat} {D : List Nat} (h : T[b]? = some D) : rowAt T b = D := by unfold rowAt; rw [List.getD_eq_getElem?_getD, h]; rfl
def passP (S M : List (List Nat)) (b : Nat) (p : SP) : SP := orP (lessP p (ofP (rowAt S b))) (ofP (rowAt M b))
/-- Rows of small numbers, not too long. -/
def SmallT (N : Nat) (T : List (List Nat)) : Prop := T.length = N ∧ ∀ {b : Nat} {D : List Nat}, T[b]? = some D → (∀ x ∈ D, x < 4096) ∧ D.length ≤ 100000
theorem MarkR.smallT {N : Nat} {A : List Int} {T : List (List Nat)} (K : MarkR N A T) : SmallT N T := ⟨K.len, fun {b D} h => ⟨fun x hx => by have := K.lt h x hx; omega, by have := K.small h; omega⟩⟩
theorem SmallT.bnd {N : Nat} {T : List (List Nat)} (K : SmallT N T) (b : Nat) : Bnd (ofP (rowAt T b)) := fun y hy => by
  unfold ofP at hy
  rw [decide_eq_true_eq] at hy
  cases e : T[b]? with
  | none => unfold rowAt at hy; rw [List.getD_eq_getElem?_getD, e] at hy; cases hy
  | some D => rw [rowAt_eq e] at hy; exact (K.2 e).1 y hy
theorem SmallT.get {N : Nat} {T : List (List Nat)} (K : SmallT N T) {b : Nat} (hb : b < N) : T[b]? = some (rowAt T b) := by
  have : b < T.length := by rw [K.1]; exact hb
  have e := List.getElem?_eq_getElem this
  rw [rowAt_eq e]; exact e
section
variable {h : H} {N b : Nat} {p : SP} {c vl vm : Value} {f : List Nat} {al am : Addr} {S M : List (List Nat)}
theorem MarkAt.row {v : Value} {T : List (List Nat)} {D : List Nat} (k : MarkAt h v T) (hD : T[b]? = some D) : ∃ u, IntsAt h u (D.map Int.ofNat) ∧ Reads h ((vaddr v).add (b * 1)) [u] := by
  obtain ⟨cs, ⟨u, rfl, h1⟩, h2⟩ := k.get b D hD
  exact ⟨u, h1, h2⟩
theorem pass_holds (ht : Tab h) (hb : b < N) (hS : SmallT N S) (hM : SmallT N M) (rl : Reads h al [vl]) (rm : Reads h am [vm]) (kl : MarkAt h vl S) (km : MarkAt h vm M) (hp : SetF h [c] p f) :
    holds Tryd.prog (Ret fun v h' => h.le h' ∧ ∃ c' f', v = .agg #[c'] ∧ SetF h' [c'] (passP S M b p) f' ∧ Fresh h f' ∧ f'.Nodup) t18 [natV b, c, .pointer (some al), .pointer (some am)] [] h := by
  obtain ⟨c0, ws, e0, hs, hws⟩ := hp
  obtain rfl : c = c0 := by simpa using e0
  have hwd := rowF_words hs.1
  have hDl := hS.get hb
  have hDm := hM.get hb
  have hll : vlen vl = N := by rw [kl.len, hS.1]
  have hml : vlen vm = N := by rw [km.len, hM.1]
  refine h_call0 (s19 hwd hs.2.1 hs.2.2) ?_
  rintro _ h1 ⟨k1, v1, f1, rfl, hs1, hf1⟩
  have l1 : h.le h1 := k1.le_nil
  refine ⟨[v1], ⟨hs1.fit, trivial⟩, rfl, ?_⟩
  simp only [List.cons_append, List.nil_append]
  obtain ⟨u, hu, ru⟩ := (MarkAt.le l1 kl).row hDl
  refine h_load [vl] ⟨kl.fit, trivial⟩ (fun _ => rl.le l1) ⟨fun _ => ?_, h_load [u] ⟨hu.fit, trivial⟩ (fun _ => ru) ?_⟩
  · refine ⟨ge0 b, ?_, trivial⟩
    show cmpOp .lss (b : Int) ((vlen vl : Nat) : Int) = true
    rw [hll]; exact ltN hb
  simp only [List.cons_append, List.nil_append]
  refine h_call0 (s21g hu (hS.2 hDl).1 (hS.2 hDl).2) ?_
  rintro _ h2 ⟨l2, o, wo, fo, rfl, hso, hwo, hfo⟩
  refine ⟨[o], ⟨hso.fit, trivial⟩, rfl, ?_⟩
  simp only [List.cons_append, List.nil_append]
  have hs2 : SetIs h2 v1 ws f1 := hs1.agree (le_agree' l2 hs1.live)
  have hdis : ∀ z ∈ fo, z ∉ f1 := fun z hz hz' => by
    have := hs1.live z hz'
    rw [hfo z hz] at this; cases this
  refine h_call1 (Q := fun r c h3 => r = .tuple #[] ∧ ∃ ws', c = [v1] ∧ SetIs h3 v1 ws' f1 ∧ hasW ws' = lessP (hasW ws) (hasW wo) ∧ KeptH h2 h3 f1) (s20k hs2 (rowF_words hso.1) hso.2.1 (rowF_words (hso.agree (cut_agree hdis)).1)) ?_
  rintro _ cc h3 ⟨rfl, ws3, rfl, hs3, hw3, k3⟩
  have l3 : h.le h3 := k3.le (l1.trans l2) hf1
  refine ⟨⟨hs3.fit, trivial⟩, [], trivial, rfl, ?_⟩
  simp only [List.cons_append, List.nil_append, List.append_nil]
  obtain ⟨u4, hu4, ru4⟩ := (MarkAt.le l3 km).row hDm
  refine h_load [vm] ⟨km.fit, trivial⟩ (fun _ => rm.le l3) ⟨fun _ => ?_, h_load [u4] ⟨hu4.fit, trivial⟩ (fun _ => ru4) ?_⟩
  · refine ⟨ge0 b, ?_, trivial⟩
    show cmpOp .lss (b : Int) ((vlen vm : Nat) : Int) = true
    rw [hml]; exact ltN hb
  simp only [List.cons_append, List.nil_append]
  refine h_call0 (s21g hu4 (hM.2 hDm).1 (hM.2 hDm).2) ?_
  rintro _ h4 ⟨l4, o4, wo4, fo4, rfl, hso4, hwo4, hfo4⟩
  refine ⟨[o4], ⟨hso4.fit, trivial⟩, rfl, ?_⟩
  simp only [List.cons_append, List.nil_append]
  have hs4 : SetIs h4 v1 ws3 f1 := hs3.agree (le_agree' l4 hs3.live)
  refine h_call1 (Q := fun r c h5 => r = .bool (decide (cntP (hasW ws3) < cntP (orP (hasW ws3) (hasW wo4)))) ∧ ∃ v' ws' fp', c = [v'] ∧ SetIs h5 v' ws' fp' ∧ (∀ y, hasW ws' y = (hasW ws3 y || hasW wo4 y)) ∧ KeptH h4 h5 f1 ∧ ∀ x ∈ fp', x ∈ f1 ∨ h4 x = none) (s17k (ht.le (l3.trans l4)) hs4 (rowF_words hso4.1) hso4.2.1 hso4.2.2) ?_
  rintro _ cc h5 ⟨rfl, v5, ws5, f5, rfl, hs5, hw5, k5, hn5⟩
  refine ⟨⟨hs5.fit, trivial⟩, [_], ⟨⟨_, rfl⟩, trivial⟩, rfl, ?_⟩
  refine ⟨rfl, k5.le (l3.trans l4) hf1, v5, f5, rfl, ⟨v5, ws5, rfl, hs5, ?_⟩, fun z hz => ?_, hs5.nodup⟩
  · funext y
    rw [hw5, hw3, hwo4, hwo, hws]; rfl
  · rcases hn5 z hz with q | q
    · exact hf1 z q
    · exact H.le_none (l3.trans l4) q
end
section
variable {h : H} {B : List Blk} {back : Bool} {fst : Nat → SP} {S M : List (List Nat)}
def flS (B : List Blk) (back : Bool) (fst : Nat → SP) (S M : List (List Nat)) : FlowS SP :=
  { N := B.length, frm := frmB back B, first := fst, pass := passP S M, join := orP, chg := fun x y => decide (cntP x < cntP (orP x y)), le := fun p q => ∀ y, p y = true → q y = true, pot := cu 4096, ok := fun _ p => Bnd p }
theorem bnd_or {p q : SP} (hp : Bnd p) (hq : Bnd q) : Bnd (orP p q) := fun y hy => by
  unfold orP at hy
  rw [Bool.or_eq_true] at hy
  exact hy.elim (hp y) (hq y)
theorem bnd_pass (hM : SmallT B.length M) {b : Nat} {p : SP} (hp : Bnd p) : Bnd (passP S M b p) := bnd_or (fun y hy => hp y (by unfold lessP at hy; rw [Bool.and_eq_true] at hy; exact hy.1)) (hM.bnd b)
attribute [local irreducible] cu in
theorem flS_good (hB : OkB B) (hf : ∀ {b}, b < B.length → Bnd (fst b)) (hM : SmallT B.length M) : (flS B back fst S M).Good where
  frm_lt := fun _ h => frmB_lt hB h
  refl := fun x y h => h
  trans := fun h1 h2 y hy => h2 y (h1 y hy)
  left := fun x y z hz => by show (x z || y z) = true; rw [hz]; rfl
  right := fun x y z hz => by show (x z || y z) = true; rw [hz, Bool.or_true]
  same := fun {b a x y} _ _ hx hy hc => by
    replace hc : decide (cntP x < cntP (orP x (passP S M a y))) = false := hc
    rw [decide_eq_false_iff_not] at hc
    show orP x (passP S M a y) = x
    exact or_same (bnd_pass hM hy) (by omega)
  fall := fun {b a x y} _ _ hx hy hc => by
    replace hc : decide (cntP x < cntP (orP x (passP S M a y))) = true := hc
    rw [decide_eq_true_eq] at hc
    show cu 4096 (orP x (passP S M a y)) < cu 4096 x
    have h1 := cnt_cu x
    have h2 := cnt_cu (orP x (passP S M a y))
    omega
  first_ok := fun hb => hf hb
  step_ok := fun {b a x y} _ _ hx hy => bnd_or hx (bnd_pass hM hy)
/-- Its closures, wherever they are told to be. -/
theorem flS_C {ad al am : Addr} {u vl vm vFi : Value} {pf : Nat} (ht : Tab h) (hr : Reads h ad [u]) (hv : BlksAt h u B) (hB : OkB B) (h2 : B.length ≤ 1000) (hS : SmallT B.length S) (hM : SmallT B.length M)
    (rl : Reads h al [vl]) (rm : Reads h am [vm]) (kl : MarkAt h vl S) (km : MarkAt h vm M) (hfi : Fits .fn vFi)
    (hfst : ∀ {h' b}, h.le h' → b < B.length → CallvSpec Tryd.prog h' vFi [natV b] fun v h2 => h'.le h2 ∧ ∃ c f, v = .agg #[c] ∧ SetF h2 [c] (fst b) f ∧ Fresh h' f ∧ f.Nodup)
    (hpe : hasN allF pf = true) (hps : ∀ {h' b p c f}, h.le h' → b < B.length → SetF h' [c] p f → CallsA Tryd.prog pf (fun _ => [natV b, .agg #[c], .pointer (some al), .pointer (some am)]) [] h' (Ret fun v h2 => h'.le h2 ∧ ∃ c' f', v = .agg #[c'] ∧ SetF h2 [c'] (passP S M b p) f' ∧ Fresh h' f' ∧ f'.Nodup)) :
    FlowC (fun c => .agg #[c]) .sl (flS B back fst S M) 39 SetF h (aheadV back ad) vFi (.func (.func 17) #[] #[]) (.func (.func pf) #[] #[.pointer (some al), .pointer (some am)]) where
  fits := ⟨.inr ⟨_, _, _, rfl⟩, hfi, .inr ⟨_, _, _, rfl⟩, .inr ⟨_, _, _, rfl⟩, trivial⟩
  shape := fun ⟨v, ws, e, k, _⟩ => by
    obtain rfl : _ = v := by simpa using e
    exact k.fit
  good := setF_good
  frm := fun {h' b} hl hb => (ahead_calls back (hr.le hl) (SlAt.le blkC_mono hl hv) hB h2 hb).mono fun v h' ⟨a, c⟩ => ⟨a, c, frmB_len back h2 b⟩
  first := fun hl hb => hfst hl hb
  pass := fun {h' b x c f} hl hb hx hr => .of (enter hpe) (hps hl hb hr)
  join := fun {h' va l fp i x a y c f} hl k hnd hf hi hN ha hx hy hr hd => by
    exact .of (enter (by decide)) (s17p (ht.le hl) k hnd hi hr hd)
end
theorem setF_nil {h : H} : SetF h [.slice none 0 0] (fun _ => false) [] := ⟨_, [], rfl, ⟨.inl ⟨rfl, rfl, rfl⟩, (fun w hw => by cases hw), by simp⟩, by funext y; simp [hasW]⟩
theorem zero_set {h1 : H} {b N : Nat} : SlF 39 1 SetF (h1.put b (.cells (repZ ((zeroCells Tryd.prog 39).getD []) N).toArray 39 (0, 0))) (.slice (some ⟨b, 0, none⟩) N N) (List.replicate N (fun _ => false)) [b] := by
  rw [show (zeroCells Tryd.prog 39).getD [] = [.slice none 0 0] by kernel_rfl]
  exact mk_same fun {h} => ⟨_, [], rfl, ⟨.inl ⟨rfl, rfl, rfl⟩, (fun w hw => by cases hw), by simp⟩, by funext y; simp [hasW]⟩
end Go.Proofs.YtbbicdfipheaeaaDoor
