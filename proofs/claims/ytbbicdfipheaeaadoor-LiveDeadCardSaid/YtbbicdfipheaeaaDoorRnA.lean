/-
  A run: its model, what its memory holds, and what a store makes of it. Conditions: none (definitions and plain lemmas).
-/
import Derived.Test.YtbbicdfipheaeaaDoorRnBase
set_option linter.unusedVariables false
set_option linter.unusedSimpArgs false
namespace Go.Proofs.YtbbicdfipheaeaaDoor
open Go

structure Rs where
  how : Int
  value : Int
  calls : List (Int × List Int)
  mem : List Int
  left : Int
  places : List Int
  more : List Int
def binM (op a b : Int) : Option Int :=
  if op = 1 then some (intOp .add .i64 a b) else if op = 2 then some (intOp .sub .i64 a b) else if op = 3 then some (intOp .mul .i64 a b)
  else if op = 4 then some (intOp .and .i64 a b) else if op = 5 then some (intOp .xor .i64 a b) else if op = 6 then some (if a < b then 1 else 0)
  else if b = 0 then none else some (intOp .quo .i64 a b)
def wordI (n : Int) : Nat := (intOp .rem .u64 (IntKind.u64.wrap n) 64).toNat
theorem word_val (n : Int) : intOp .rem .u64 (IntKind.u64.wrap n) 64 = (wordI n : Int) ∧ wordI n < 64 := by
  have h : 0 ≤ IntKind.u64.wrap n := by simp [IntKind.wrap, IntKind.bits, IntKind.signed]; omega
  have := tmod_range (a := IntKind.u64.wrap n) (n := 64) h (by omega)
  unfold wordI; simp only [intOp]; omega
def getP (s : Rs) (i : Int) : Int := s.places.getD i.toNat 0
def setP (s : Rs) (i v : Int) : Rs := { s with places := s.places.set i.toNat v }
def stepM (R : Int) (x : Ins) (s : Rs) : Rs × Bool :=
  if x.kind = 2 then (setP s x.d (getP s x.a), true)
  else if x.kind = 7 then (setP s (R + x.d) (getP s x.a), true)
  else if x.kind = 8 then (setP s x.d (getP s (R + x.a)), true)
  else if s.left = 0 then ({ s with how := 3 }, false)
  else if x.kind = 1 then (setP { s with left := s.left - 1 } x.d x.n, true)
  else if x.kind = 3 then (match binM x.op (getP s x.a) (getP s x.b) with
    | none => ({ s with left := s.left - 1, how := 2 }, false)
    | some v => (setP { s with left := s.left - 1 } x.d v, true))
  else if x.kind = 4 then (setP { s with left := s.left - 1 } x.d (s.mem.getD (wordI (getP s x.a)) 0), true)
  else if x.kind = 5 then ({ s with left := s.left - 1, mem := s.mem.set (wordI (getP s x.a)) (getP s x.b) }, true)
  else if x.kind = 6 then (setP { s with left := s.left - 1, calls := s.calls ++ [(x.n, x.args.map (getP s))], more := s.more.tail } x.d (s.more.headD 0), true)
  else ({ s with left := s.left - 1 }, true)
section
variable {R : Int} {x : Ins} {s : Rs}
theorem stepM_2 (k : x.kind = 2) : stepM R x s = (setP s x.d (getP s x.a), true) := by unfold stepM; rw [if_pos k]
theorem stepM_7 (k : x.kind = 7) : stepM R x s = (setP s (R + x.d) (getP s x.a), true) := by unfold stepM; rw [if_neg (by omega), if_pos k]
theorem stepM_8 (k : x.kind = 8) : stepM R x s = (setP s x.d (getP s (R + x.a)), true) := by unfold stepM; rw [if_neg (by omega), if_neg (by omega), if_pos k]
def Paid (x : Ins) : Prop := x.kind ≠ 2 ∧ x.kind ≠ 7 ∧ x.kind ≠ 8
theorem stepM_0 (k : Paid x) (hl : s.left = 0) : stepM R x s = ({ s with how := 3 }, false) := by unfold stepM; rw [if_neg k.1, if_neg k.2.1, if_neg k.2.2, if_pos hl]
theorem stepM_1 (k : x.kind = 1) (hl : s.left ≠ 0) : stepM R x s = (setP { s with left := s.left - 1 } x.d x.n, true) := by
  unfold stepM; rw [if_neg (by omega), if_neg (by omega), if_neg (by omega), if_neg hl, if_pos k]
theorem stepM_3 (k : x.kind = 3) (hl : s.left ≠ 0) : stepM R x s = (match binM x.op (getP s x.a) (getP s x.b) with
    | none => ({ s with left := s.left - 1, how := 2 }, false)
    | some v => (setP { s with left := s.left - 1 } x.d v, true)) := by
  unfold stepM; rw [if_neg (by omega), if_neg (by omega), if_neg (by omega), if_neg hl, if_neg (by omega), if_pos k]
theorem stepM_4 (k : x.kind = 4) (hl : s.left ≠ 0) : stepM R x s = (setP { s with left := s.left - 1 } x.d (s.mem.getD (wordI (getP s x.a)) 0), true) := by
  unfold stepM; rw [if_neg (by omega), if_neg (by omega), if_neg (by omega), if_neg hl, if_neg (by omega), if_neg (by omega), if_pos k]
theorem stepM_5 (k : x.kind = 5) (hl : s.left ≠ 0) : stepM R x s = ({ s with left := s.left - 1, mem := s.mem.set (wordI (getP s x.a)) (getP s x.b) }, true) := by
  unfold stepM; rw [if_neg (by omega), if_neg (by omega), if_neg (by omega), if_neg hl, if_neg (by omega), if_neg (by omega), if_neg (by omega), if_pos k]
theorem stepM_6 (k : x.kind = 6) (hl : s.left ≠ 0) : stepM R x s = (setP { s with left := s.left - 1, calls := s.calls ++ [(x.n, x.args.map (getP s))], more := s.more.tail } x.d (s.more.headD 0), true) := by
  unfold stepM; rw [if_neg (by omega), if_neg (by omega), if_neg (by omega), if_neg hl, if_neg (by omega), if_neg (by omega), if_neg (by omega), if_neg (by omega), if_pos k]
theorem stepM_n (k : Paid x) (k1 : x.kind ≠ 1) (k3 : x.kind ≠ 3) (k4 : x.kind ≠ 4) (k5 : x.kind ≠ 5) (k6 : x.kind ≠ 6) (hl : s.left ≠ 0) : stepM R x s = ({ s with left := s.left - 1 }, true) := by
  unfold stepM; rw [if_neg k.1, if_neg k.2.1, if_neg k.2.2, if_neg hl, if_neg k1, if_neg k3, if_neg k4, if_neg k5, if_neg k6]
end
def endS (e : Fin4) (s : Rs) : Rs × Option Int :=
  if s.left = 0 then ({ s with how := 3 }, none)
  else if e.kind = 3 then ({ s with left := s.left - 1, how := 1, value := getP s e.a }, none)
  else if e.kind = 2 ∧ getP s e.a = 0 then ({ s with left := s.left - 1 }, some e.el)
  else ({ s with left := s.left - 1 }, some e.to)
/-- From a place in blocks on, to where it is over. -/
inductive Runs (bs : List Blk) (R : Int) : Nat → Nat → Rs → Rs → Prop
  | stop {b k : Nat} {s t : Rs} {x : Blk} {y : Ins} : bs[b]? = some x → x.ins[k]? = some y → stepM R y s = (t, false) → Runs bs R b k s t
  | step {b k : Nat} {s t f : Rs} {x : Blk} {y : Ins} : bs[b]? = some x → x.ins[k]? = some y → stepM R y s = (t, true) → Runs bs R b (k + 1) t f → Runs bs R b k s f
  | fin {b k : Nat} {s t : Rs} {x : Blk} : bs[b]? = some x → k = x.ins.length → endS x.en s = (t, none) → Runs bs R b k s t
  | go {b k : Nat} {s t f : Rs} {x : Blk} {c : Nat} : bs[b]? = some x → k = x.ins.length → endS x.en s = (t, some (c : Int)) → Runs bs R c 0 t f → Runs bs R b k s f
theorem Runs.same {bs : List Blk} {R : Int} {b k : Nat} {s f g : Rs} (h : Runs bs R b k s f) : Runs bs R b k s g → f = g := by
  have lt : ∀ {x : Blk} {k : Nat} {y : Ins}, x.ins[k]? = some y → k ≠ x.ins.length := fun h e => by have := (List.getElem?_eq_some_iff.1 h).1; omega
  induction h with
  | stop h1 h2 h3 =>
    intro h'
    cases h' with
    | stop g1 g2 g3 => rw [h1] at g1; cases g1; rw [h2] at g2; cases g2; rw [h3] at g3; cases g3; rfl
    | step g1 g2 g3 _ => rw [h1] at g1; cases g1; rw [h2] at g2; cases g2; rw [h3] at g3; cases g3
    | fin g1 g0 g2 => rw [h1] at g1; cases g1; exact absurd g0 (lt h2)
    | go g1 g0 g2 _ => rw [h1] at g1; cases g1; exact absurd g0 (lt h2)
  | step h1 h2 h3 h4 ih =>
    intro h'
    cases h' with
    | stop g1 g2 g3 => rw [h1] at g1; cases g1; rw [h2] at g2; cases g2; rw [h3] at g3; cases g3
    | step g1 g2 g3 g4 => rw [h1] at g1; cases g1; rw [h2] at g2; cases g2; rw [h3] at g3; cases g3; exact ih g4
    | fin g1 g0 g2 => rw [h1] at g1; cases g1; exact absurd g0 (lt h2)
    | go g1 g0 g2 _ => rw [h1] at g1; cases g1; exact absurd g0 (lt h2)
  | fin h1 h0 h2 =>
    intro h'
    cases h' with
    | stop g1 g2 g3 => rw [h1] at g1; cases g1; exact absurd h0 (lt g2)
    | step g1 g2 g3 _ => rw [h1] at g1; cases g1; exact absurd h0 (lt g2)
    | fin g1 g0 g2 => rw [h1] at g1; cases g1; rw [h2] at g2; cases g2; rfl
    | go g1 g0 g2 _ => rw [h1] at g1; cases g1; rw [h2] at g2; cases g2
  | go h1 h0 h2 h3 ih =>
    intro h'
    cases h' with
    | stop g1 g2 g3 => rw [h1] at g1; cases g1; exact absurd h0 (lt g2)
    | step g1 g2 g3 _ => rw [h1] at g1; cases g1; exact absurd h0 (lt g2)
    | fin g1 g0 g2 => rw [h1] at g1; cases g1; rw [h2] at g2; cases g2
    | go g1 g0 g2 g3 =>
      rw [h1] at g1; cases g1; rw [h2] at g2
      simp only [Prod.mk.injEq, Option.some.injEq, Int.natCast_inj] at g2
      obtain ⟨rfl, rfl⟩ := g2
      exact ih g3

/-! ### What may be run -/
def inN (n : Int) (i : Int) : Prop := 0 ≤ i ∧ i < n
structure PlOk (R n : Int) (x : Ins) : Prop where
  k2 : x.kind = 2 → inN n x.d ∧ inN n x.a
  k7 : x.kind = 7 → inN n (R + x.d) ∧ inN n x.a
  k8 : x.kind = 8 → inN n x.d ∧ inN n (R + x.a)
  k1 : x.kind = 1 → inN n x.d
  k3 : x.kind = 3 → inN n x.d ∧ inN n x.a ∧ inN n x.b ∧ 1 ≤ x.op ∧ x.op ≤ 7
  k4 : x.kind = 4 → inN n x.d ∧ inN n x.a
  k5 : x.kind = 5 → inN n x.a ∧ inN n x.b
  k6 : x.kind = 6 → inN n x.d ∧ ∀ a ∈ x.args, inN n a
  al : x.args.length ≤ 1000
  lo : -1000 ≤ x.d ∧ x.d ≤ 1000 ∨ x.kind ≠ 7
  la : -1000 ≤ x.a ∧ x.a ≤ 1000 ∨ x.kind ≠ 8
structure BlOk (R n N : Int) (b : Blk) : Prop where
  len : b.ins.length ≤ 1000
  ins : ∀ x ∈ b.ins, PlOk R n x
  kd : 1 ≤ b.en.kind ∧ b.en.kind ≤ 3
  en : (b.en.kind ≠ 1 → inN n b.en.a) ∧ (b.en.kind ≠ 3 → inN N b.en.to) ∧ (b.en.kind = 2 → inN N b.en.el)
theorem ofM_pl {x : Ins} {R n : Int} (h : ofM x R = 0) (hR : R ≤ n) (hn : n ≤ 1000) : PlOk R n x := by
  obtain ⟨h1, h2⟩ := ofM_zeroJ h
  have hk : ¬ (¬ (1 ≤ x.kind ∧ x.kind ≤ 6) ∨ (x.kind = 3 ∧ ¬ (1 ≤ x.op ∧ x.op ≤ 7)) ∨ ¬ plainM x) := by
    intro hc; rw [ofM_20 hc] at h; cases h
  have hkk : 1 ≤ x.kind ∧ x.kind ≤ 6 := by grind
  have ho : x.kind = 3 → 1 ≤ x.op ∧ x.op ≤ 7 := by grind
  have up : ∀ y ∈ namedM x, inN n y := fun y hy => by have := h2 y hy; exact ⟨this.1, by omega⟩
  refine ⟨fun k => ?_, fun k => by omega, fun k => by omega, fun k => ?_, fun k => ?_, fun k => ?_, fun k => ?_, fun k => ?_, by omega, .inr (by omega), .inr (by omega)⟩
  · exact ⟨up _ (by simp [namedM, usesM, givesM, k]), up _ (by simp [namedM, usesM, givesM, k])⟩
  · exact up _ (by simp [namedM, usesM, givesM, k])
  · exact ⟨up _ (by simp [namedM, usesM, givesM, k]), up _ (by simp [namedM, usesM, givesM, k]), up _ (by simp [namedM, usesM, givesM, k]), ho k⟩
  · exact ⟨up _ (by simp [namedM, usesM, givesM, k]), up _ (by simp [namedM, usesM, givesM, k])⟩
  · exact ⟨up _ (by simp [namedM, usesM, givesM, k]), up _ (by simp [namedM, usesM, givesM, k])⟩
  · exact ⟨up _ (by simp [namedM, usesM, givesM, k]), fun a ha => up _ (by simp [namedM, usesM, givesM, k, ha])⟩
theorem endM_pl {e : Fin4} {R n N : Int} (h : endM e R N 21 = 0) (hR : R ≤ n) : (e.kind ≠ 1 → inN n e.a) ∧ (e.kind ≠ 3 → inN N e.to) ∧ (e.kind = 2 → inN N e.el) := by
  unfold endM at h; unfold inN; grind (splits := 60)
/-! ### What its memory holds -/
def CallF : RepF (Int × List Int) := fun h cs c fp => ∃ u, cs = [.int .i64 c.1, u] ∧ RowF h 2 1 u (c.2.map (.int .i64)) fp
theorem callF_good : GoodF CallF := ⟨fun ha ⟨u, h1, h2⟩ => ⟨u, h1, h2.agree ha⟩, fun ⟨u, h1, h2⟩ => h2.live⟩
def outC (s : Rs) (cv : Value) : List Value := .int .i64 s.how :: .int .i64 s.value :: cv :: (s.mem.map (.int .i64) ++ [.int .i64 s.left])
structure Mc (e : TypeId) (tl : List Value) (h0 h : H) (b : Nat) (pv cv : Value) (fP fC : List Nat) (s : Rs) : Prop where
  obj : h b = some (.cells (outC s cv ++ tl).toArray e (0, 0))
  m64 : s.mem.length = 64
  pl : RowF h 2 1 pv (s.places.map (.int .i64)) fP
  cl : SlF 123 2 CallF h cv s.calls fC
  nd : (b :: (fP ++ fC)).Nodup
  fr : Fresh h0 (b :: (fP ++ fC))
  kept : KeptH h0 h []
theorem set_obj {h : H} {b : Nat} {L : List Value} {e : TypeId} {k : Nat} {w : Value} (hb : h b = some (.cells L.toArray e (0, 0))) (hk : k < L.length) :
    (h.sets ((⟨b, 0, none⟩ : Addr).add k) [w]) b = some (.cells (L.set k w).toArray e (0, 0)) ∧ ∀ c, c ≠ b → (h.sets ((⟨b, 0, none⟩ : Addr).add k) [w]) c = h c := by
  have hL : L = L.take k ++ [L[k]] ++ L.drop (k + 1) := by
    conv => lhs; rw [← List.take_append_drop k L, List.drop_eq_getElem_cons hk]
    simp only [List.append_assoc, List.cons_append, List.nil_append]
  obtain ⟨s1, s2⟩ := sets_block (b := b) (e := e) (f := (0, 0)) [w] h k (L.take k) [L[k]] (L.drop (k + 1)) (by rw [List.length_take]; omega) rfl (by rw [← hL]; exact hb)
  rw [add_lit, Nat.zero_add]
  refine ⟨?_, s2⟩
  rw [s1, List.set_eq_take_append_cons_drop, if_pos hk]
  simp only [List.append_assoc, List.cons_append, List.nil_append]
section
variable {e : TypeId} {tl : List Value} {h0 h : H} {b : Nat} {pv cv : Value} {fP fC : List Nat} {s : Rs}
theorem outC_len (hm : s.mem.length = 64) : (outC s cv).length = 68 := by simp [outC, hm]
theorem Mc.cell (M : Mc e tl h0 h b pv cv fP fC s) {k : Nat} {w : Value} (hk : (outC s cv ++ tl)[k]? = some w) : Reads h ((⟨b, 0, none⟩ : Addr).add k) [w] := by
  intro i v hi
  obtain ⟨rfl, rfl⟩ := get_one hi
  rw [add_add, add_lit]
  have : (outC s cv ++ tl)[0 + (k + 0)]? = some v := by simpa using hk
  unfold H.cell?
  rw [M.obj]
  simpa using hk
theorem Mc.outs (M : Mc e tl h0 h b pv cv fP fC s) : Reads h (⟨b, 0, none⟩ : Addr) (outC s cv) := by
  intro i v hi
  have hlt := (List.getElem?_eq_some_iff.1 hi).1
  have := M.cell (k := i) (w := v) (by rw [List.getElem?_append_left hlt]; exact hi)
  have := this 0 v rfl
  rw [add_add] at this; simpa using this
theorem Mc.wr (M : Mc e tl h0 h b pv cv fP fC s) {k : Nat} (hk : k < (outC s cv ++ tl).length) : Writable h ((⟨b, 0, none⟩ : Addr).add k) 1 := by
  intro i hi
  obtain rfl : i = 0 := by omega
  rw [add_add, add_lit]
  unfold H.cell? H.frozen?
  rw [M.obj]
  simp at hk ⊢
  omega
/-- A cell of the object is set. -/
theorem Mc.setObj (M : Mc e tl h0 h b pv cv fP fC s) {k : Nat} {w : Value} {s' : Rs} {tl' : List Value} (hk : k < (outC s cv ++ tl).length) (he : (outC s cv ++ tl).set k w = outC s' cv ++ tl') (hm : s'.mem.length = 64) (hp : s'.places = s.places) (hc : s'.calls = s.calls) :
    Mc e tl' h0 (h.sets ((⟨b, 0, none⟩ : Addr).add k) [w]) b pv cv fP fC s' := by
  obtain ⟨s1, s2⟩ := set_obj (w := w) M.obj hk
  have hnb : ∀ c ∈ fP ++ fC, c ≠ b := fun c hc e => (List.nodup_cons.1 M.nd).1 (e ▸ hc)
  have ag : ∀ {g : List Nat}, (∀ c ∈ g, c ∈ fP ++ fC) → Agree h (h.sets ((⟨b, 0, none⟩ : Addr).add k) [w]) g := fun hg c hc => s2 c (hnb c (hg c hc))
  refine ⟨by rw [s1, he], hm, by rw [hp]; exact M.pl.agree (ag fun c hc => List.mem_append_left _ hc), by rw [hc]; exact M.cl.agree callF_good (ag fun c hc => List.mem_append_right _ hc), M.nd, M.fr, ?_⟩
  refine M.kept.trans_nil (f := [b]) (fun c hc _ => s2 c fun e => hc (by rw [e]; simp)) fun c hc => ?_
  rw [List.mem_singleton] at hc; subst hc
  exact M.fr c (by simp)
theorem Mc.setHow (M : Mc e tl h0 h b pv cv fP fC s) (n : Int) : Mc e tl h0 (h.sets ((⟨b, 0, none⟩ : Addr).add 0) [.int .i64 n]) b pv cv fP fC { s with how := n } :=
  M.setObj (by simp [outC]) (by simp [outC]) M.m64 rfl rfl
theorem Mc.setValue (M : Mc e tl h0 h b pv cv fP fC s) (n : Int) : Mc e tl h0 (h.sets ((⟨b, 0, none⟩ : Addr).add 1) [.int .i64 n]) b pv cv fP fC { s with value := n } :=
  M.setObj (by simp [outC]) (by simp [outC]) M.m64 rfl rfl
theorem Mc.setLeft (M : Mc e tl h0 h b pv cv fP fC s) (n : Int) : Mc e tl h0 (h.sets ((⟨b, 0, none⟩ : Addr).add 67) [.int .i64 n]) b pv cv fP fC { s with left := n } := by
  refine M.setObj (by simp [outC, M.m64]; omega) ?_ M.m64 rfl rfl
  have hm : (s.mem.map (Value.int .i64)).length = 64 := by simp [M.m64]
  simp only [outC, List.cons_append, List.set_cons_succ, List.append_assoc]
  rw [List.set_append_right _ _ (by omega), hm]; rfl
theorem Mc.setMem (M : Mc e tl h0 h b pv cv fP fC s) {i : Nat} (hi : i < 64) (n : Int) : Mc e tl h0 (h.sets ((⟨b, 0, none⟩ : Addr).add (3 + i)) [.int .i64 n]) b pv cv fP fC { s with mem := s.mem.set i n } := by
  refine M.setObj (by simp [outC, M.m64]; omega) ?_ (by simp [M.m64]) rfl rfl
  have hm : (s.mem.map (Value.int .i64)).length = 64 := by simp [M.m64]
  rw [Nat.add_comm]
  simp only [outC, List.cons_append, List.set_cons_succ, List.append_assoc]
  rw [List.set_append_left _ _ (by omega), List.map_set]
theorem Mc.left_ (M : Mc e tl h0 h b pv cv fP fC s) : Reads h ((⟨b, 0, none⟩ : Addr).add 67) [.int .i64 s.left] := by
  refine M.cell ?_
  have hm : (s.mem.map (Value.int .i64)).length = 64 := by simp [M.m64]
  simp only [outC, List.cons_append, List.getElem?_cons_succ, List.append_assoc]
  rw [List.getElem?_append_right (by omega), hm]; rfl
theorem Mc.mem_ (M : Mc e tl h0 h b pv cv fP fC s) {i : Nat} (hi : i < 64) : Reads h ((⟨b, 0, none⟩ : Addr).add (3 + i)) [.int .i64 (s.mem.getD i 0)] := by
  refine M.cell ?_
  rw [Nat.add_comm]
  have hm : (s.mem.map (Value.int .i64)).length = 64 := by simp [M.m64]
  simp only [outC, List.cons_append, List.getElem?_cons_succ, List.append_assoc]
  rw [List.getElem?_append_left (by omega), List.getElem?_map, List.getD_eq_getElem?_getD, List.getElem?_eq_getElem (by rw [M.m64]; exact hi)]; rfl
theorem Mc.calls_ (M : Mc e tl h0 h b pv cv fP fC s) : Reads h ((⟨b, 0, none⟩ : Addr).add 2) [cv] := M.cell (by simp [outC])
theorem Mc.tail_ (M : Mc e tl h0 h b pv cv fP fC s) {i : Nat} {w : Value} (hw : tl[i]? = some w) : Reads h ((⟨b, 0, none⟩ : Addr).add (68 + i)) [w] := by
  refine M.cell ?_
  rw [List.getElem?_append_right (by rw [outC_len M.m64]; omega), outC_len M.m64, Nat.add_sub_cancel_left]; exact hw
theorem Mc.plen (M : Mc e tl h0 h b pv cv fP fC s) : vlen pv = s.places.length := by have := M.pl.row0.len; simp at this; exact this.symm
theorem Mc.pfit (M : Mc e tl h0 h b pv cv fP fC s) : Fits .sl pv := M.pl.row0.fit
theorem Mc.place (M : Mc e tl h0 h b pv cv fP fC s) {i : Int} (hi : inN s.places.length i) : Reads h ((vaddr pv).add (i.toNat * 1)) [.int .i64 (getP s i)] := by
  have hlt : i.toNat < s.places.length := by have := hi.1; have := hi.2; omega
  rw [Nat.mul_one]
  refine M.pl.row0.reads fun j u hj => ?_
  obtain ⟨rfl, rfl⟩ := get_one hj
  unfold getP
  rw [Nat.add_zero, List.getElem?_map, List.getD_eq_getElem?_getD, List.getElem?_eq_getElem hlt]; rfl
/-- A place is set. -/
theorem Mc.setPlace (M : Mc e tl h0 h b pv cv fP fC s) {i : Int} (hi : inN s.places.length i) (v : Int) :
    Writable h ((vaddr pv).add (i.toNat * 1)) 1 ∧ Mc e tl h0 (h.sets ((vaddr pv).add (i.toNat * 1)) [.int .i64 v]) b pv cv fP fC (setP s i v) := by
  have hlt : i.toNat < s.places.length := by have := hi.1; have := hi.2; omega
  rw [Nat.mul_one]
  have hsp : s.places.map (Value.int .i64) = (s.places.take i.toNat).map (.int .i64) ++ [.int .i64 s.places[i.toNat]] ++ (s.places.drop (i.toNat + 1)).map (.int .i64) := by
    conv => lhs; rw [← List.take_append_drop i.toNat s.places, List.drop_eq_getElem_cons hlt]
    simp only [List.map_append, List.map_cons, List.append_assoc, List.cons_append, List.nil_append]
  have hsp' : (s.places.set i.toNat v).map (Value.int .i64) = (s.places.take i.toNat).map (.int .i64) ++ [.int .i64 v] ++ (s.places.drop (i.toNat + 1)).map (.int .i64) := by
    rw [List.set_eq_take_append_cons_drop, if_pos hlt]
    simp only [List.map_append, List.map_cons, List.append_assoc, List.cons_append, List.nil_append]
  have hal : ((s.places.take i.toNat).map (Value.int .i64)).length = i.toNat := by simp; omega
  have hrow := M.pl
  rw [hsp] at hrow
  obtain ⟨s1, s2⟩ := set_rowF (N := [Value.int .i64 v]) hrow rfl (by simp)
  rw [hal] at s1 s2
  rw [← hsp'] at s1
  obtain ⟨n1, n2⟩ := List.nodup_cons.1 M.nd
  obtain ⟨n3, n4, n5⟩ := List.nodup_append.1 n2
  refine ⟨?_, ?_, M.m64, s1, M.cl.agree callF_good (fun c hc => s2 c fun hp => n5 c hp c hc rfl), M.nd, M.fr, ?_⟩
  · refine hrow.row0.writable ?_
    have e1 := hrow.row0.len
    obtain ⟨aa, nn, cc, rfl, _, e3⟩ := hrow.row0.fit
    simp only [List.length_append, List.length_cons, List.length_nil, vlen_sl, vcap_sl, hal] at e1 ⊢
    omega
  · rw [s2 b fun hp => n1 (List.mem_append_left _ hp)]; exact M.obj
  · exact M.kept.trans_nil (fun c hc _ => s2 c hc) fun c hc => M.fr c (by simp [hc])
/-- A call more. -/
theorem Mc.addCall (M : Mc e tl h0 h b pv cv fP fC s) {n : Int} {u : Value} {l : List Int} {f : List Nat} (hu : RowF h 2 1 u (l.map (.int .i64)) f) (hf : Fresh h0 f) (hd : ∀ c ∈ f, c ∉ b :: (fP ++ fC)) (hlen : s.calls.length ≤ 100000000) {K : Value → H → Prop}
    (hz : ((zeroCells Tryd.prog 123).getD []).length = 2)
    (HK : ∀ cv' h' fC', (∀ w, w = cv' → Writable h' ((⟨b, 0, none⟩ : Addr).add 2) 1 ∧ Mc e tl h0 (h'.sets ((⟨b, 0, none⟩ : Addr).add 2) [cv']) b pv cv' fP fC' { s with calls := s.calls ++ [(n, l)] }) → K cv' h') :
    AppSpec h 123 2 32 ((zeroCells Tryd.prog 123).getD []) cv [.int .i64 n, u] 1 K := by
  obtain ⟨n1, n2⟩ := List.nodup_cons.1 M.nd
  obtain ⟨n3, n4, n5⟩ := List.nodup_append.1 n2
  have hfn : f.Nodup := by rcases hu with ⟨_, _, rfl⟩ | ⟨b, _, _, _, _, _, _, _, _, rfl⟩ <;> simp
  refine app_slF (x := (n, l)) (f := f) callF_good (by omega) M.cl rfl ⟨u, rfl, hu⟩ (nodup_app n4 hfn fun c hc hc' => hd c hc' (by simp [hc])) hz (by omega) fun cv' h' fC' k1 k2 k3 k4 => HK cv' h' fC' fun w hw => ?_
  have hlb : h b ≠ none := by rw [M.obj]; simp
  have hob : h' b = some (.cells (outC s cv ++ tl).toArray e (0, 0)) := by rw [k3 b (fun hb => n1 (List.mem_append_right _ hb)) (by rw [M.obj]; rfl)]; exact M.obj
  have hL : (outC s cv ++ tl).set 2 cv' = outC { s with calls := s.calls ++ [(n, l)] } cv' ++ tl := by simp [outC]
  have hk2 : 2 < (outC s cv ++ tl).length := by simp [outC]
  obtain ⟨s1, s2⟩ := set_obj (w := cv') hob hk2
  have hPlive := M.pl.live
  have hnotb : ∀ c ∈ fC', c ≠ b := fun c hc e => by
    rcases k4 c hc with q | q | q
    · exact n1 (by rw [← e]; simp [q])
    · exact hd c q (by rw [e]; simp)
    · rw [e] at q; exact hlb q
  have hnP : ∀ c ∈ fP, c ∉ fC' := fun c hc hc' => by
    rcases k4 c hc' with q | q | q
    · exact n5 c hc c q rfl
    · exact hd c q (by simp [hc])
    · have := hPlive c hc; rw [q] at this; cases this
  refine ⟨?_, ?_⟩
  · intro i hi
    obtain rfl : i = 0 := by omega
    rw [add_add, add_lit]
    unfold H.cell? H.frozen?
    rw [hob]
    simp [outC]
  · refine ⟨by rw [s1, hL], M.m64, (M.pl.agree (k3.agree hPlive fun c hc hc' => n5 c hc c hc' rfl)).agree (fun c hc => s2 c fun e => n1 (by rw [← e]; simp [hc])), k1.agree callF_good (fun c hc => s2 c (hnotb c hc)), ?_, fun c hc => ?_, ?_⟩
    · refine List.nodup_cons.2 ⟨fun hb => ?_, nodup_app n3 k2 hnP⟩
      rcases List.mem_append.1 hb with q | q
      · exact n1 (by simp [q])
      · exact hnotb b q rfl
    · rcases List.mem_cons.1 hc with rfl | hc
      · exact M.fr c (by simp)
      · rcases List.mem_append.1 hc with q | q
        · exact M.fr c (by simp [q])
        · rcases k4 c q with e | e | e
          · exact M.fr c (by simp [e])
          · exact hf c e
          · exact H.le_none M.kept.le_nil e
    · have a1 : KeptH h0 h' [] := M.kept.trans_nil k3 fun c hc => M.fr c (by simp [hc])
      refine a1.trans_nil (f := [b]) (fun c hc _ => s2 c fun e => hc (by rw [e]; simp)) fun c hc => ?_
      rw [List.mem_singleton] at hc; subst hc
      exact M.fr c (by simp)
end
end Go.Proofs.YtbbicdfipheaeaaDoor
