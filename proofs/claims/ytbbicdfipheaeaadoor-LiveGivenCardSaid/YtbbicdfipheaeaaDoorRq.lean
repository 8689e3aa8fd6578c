/-
  Words for runs. Conditions: none (plain lemmas).
-/
import Derived.Test.YtbbicdfipheaeaaDoorInsL
import Derived.Test.YtbbicdfipheaeaaDoorR5Tr2
set_option linter.unusedVariables false
set_option linter.unusedSimpArgs false
namespace Go.Proofs.YtbbicdfipheaeaaDoor
open Go

theorem Reads.sub {h : H} {a : Addr} {c xs : List Value} {o : Nat} (hr : Reads h a c) (hx : ∀ j u, xs[j]? = some u → c[o + j]? = some u) : Reads h (a.add o) xs := fun j u hj => by
  rw [add_add]; exact hr _ _ (hx j u hj)
theorem again_of {P : Program} {R : Value → List (List Value) → H → Prop} {G : List Value} {L : Lv} {h : H} {lvl : Nat} {l : List SV} {xs : List Value} {J : List Value → H → Prop} (e : SV.denL G dE l = xs) (hL : L[lvl]? = some J) (hj : J xs h) :
    holds P R (.again lvl l) G L h := by
  show Lv.at L lvl _ h
  unfold Lv.at
  rw [hL, e]; exact hj
theorem ofM_zeroJ {x : Ins} {n : Int} (h : ofM x n = 0) : x.args.length ≤ 3 ∧ ∀ y ∈ namedM x, 0 ≤ y ∧ y < n := by
  unfold ofM at h
  split at h
  · cases h
  · split at h
    · cases h
    · split at h
      · rename_i h1 h2 h3
        refine ⟨by omega, fun y hy => ?_⟩
        have := List.all_eq_true.1 h3 y hy
        simpa [inR] using this
      · cases h
def faultG (f : Int × Int × Int) : List Value := [.int .i64 f.1, .int .i64 f.2.1, .int .i64 f.2.2]
theorem faultG_fit (f : Int × Int × Int) : FitsL [.int .i64, .int .i64, .int .i64] (faultG f) := ⟨⟨_, rfl⟩, ⟨_, rfl⟩, ⟨_, rfl⟩, trivial⟩
end Go.Proofs.YtbbicdfipheaeaaDoor

/-
  A run: its model, what its memory holds, and what a store makes of it. Conditions: none (definitions and plain lemmas).
-/
set_option linter.unusedVariables false
set_option linter.unusedSimpArgs false
namespace Go.Proofs.YtbbicdfipheaeaaDoor
open Go

structure Rs where
  how : Int
  value : Int
  calls : List (Int × List Int)
  mem : List Int
  left : Int
  places : List Int
  more : List Int
def binM (op a b : Int) : Option Int :=
  if op = 1 then some (intOp .add .i64 a b) else if op = 2 then some (intOp .sub .i64 a b) else if op = 3 then some (intOp .mul .i64 a b)
  else if op = 4 then some (intOp .and .i64 a b) else if op = 5 then some (intOp .xor .i64 a b) else if op = 6 then some (if a < b then 1 else 0)
  else if b = 0 then none else some (intOp .quo .i64 a b)
def wordI (n : Int) : Nat := (intOp .rem .u64 (IntKind.u64.wrap n) 64).toNat
theorem word_val (n : Int) : intOp .rem .u64 (IntKind.u64.wrap n) 64 = (wordI n : Int) ∧ wordI n < 64 := by
  have h : 0 ≤ IntKind.u64.wrap n := by simp [IntKind.wrap, IntKind.bits, IntKind.signed]; omega
  have := tmod_range (a := IntKind.u64.wrap n) (n := 64) h (by omega)
  unfold wordI; simp only [intOp]; omega
def getP (s : Rs) (i : Int) : Int := s.places.getD i.toNat 0
def setP (s : Rs) (i v : Int) : Rs := { s with places := s.places.set i.toNat v }
def stepM (R : Int) (x : Ins) (s : Rs) : Rs × Bool :=
  if x.kind = 2 then (setP s x.d (getP s x.a), true)
  else if x.kind = 7 then (setP s (R + x.d) (getP s x.a), true)
  else if x.kind = 8 then (setP s x.d (getP s (R + x.a)), true)
  else if s.left = 0 then ({ s with how := 3 }, false)
  else if x.kind = 1 then (setP { s with left := s.left - 1 } x.d x.n, true)
  else if x.kind = 3 then (match binM x.op (getP s x.a) (getP s x.b) with
    | none => ({ s with left := s.left - 1, how := 2 }, false)
    | some v => (setP { s with left := s.left - 1 } x.d v, true))
  else if x.kind = 4 then (setP { s with left := s.left - 1 } x.d (s.mem.getD (wordI (getP s x.a)) 0), true)
  else if x.kind = 5 then ({ s with left := s.left - 1, mem := s.mem.set (wordI (getP s x.a)) (getP s x.b) }, true)
  else if x.kind = 6 then (setP { s with left := s.left - 1, calls := s.calls ++ [(x.n, x.args.map (getP s))], more := s.more.tail } x.d (s.more.headD 0), true)
  else ({ s with left := s.left - 1 }, true)
section
variable {R : Int} {x : Ins} {s : Rs}
theorem stepM_2 (k : x.kind = 2) : stepM R x s = (setP s x.d (getP s x.a), true) := by unfold stepM; rw [if_pos k]
theorem stepM_7 (k : x.kind = 7) : stepM R x s = (setP s (R + x.d) (getP s x.a), true) := by unfold stepM; rw [if_neg (by omega), if_pos k]
theorem stepM_8 (k : x.kind = 8) : stepM R x s = (setP s x.d (getP s (R + x.a)), true) := by unfold stepM; rw [if_neg (by omega), if_neg (by omega), if_pos k]
def Paid (x : Ins) : Prop := x.kind ≠ 2 ∧ x.kind ≠ 7 ∧ x.kind ≠ 8
theorem stepM_0 (k : Paid x) (hl : s.left = 0) : stepM R x s = ({ s with how := 3 }, false) := by unfold stepM; rw [if_neg k.1, if_neg k.2.1, if_neg k.2.2, if_pos hl]
theorem stepM_1 (k : x.kind = 1) (hl : s.left ≠ 0) : stepM R x s = (setP { s with left := s.left - 1 } x.d x.n, true) := by
  unfold stepM; rw [if_neg (by omega), if_neg (by omega), if_neg (by omega), if_neg hl, if_pos k]
theorem stepM_3 (k : x.kind = 3) (hl : s.left ≠ 0) : stepM R x s = (match binM x.op (getP s x.a) (getP s x.b) with
    | none => ({ s with left := s.left - 1, how := 2 }, false)
    | some v => (setP { s with left := s.left - 1 } x.d v, true)) := by
  unfold stepM; rw [if_neg (by omega), if_neg (by omega), if_neg (by omega), if_neg hl, if_neg (by omega), if_pos k]
theorem stepM_4 (k : x.kind = 4) (hl : s.left ≠ 0) : stepM R x s = (setP { s with left := s.left - 1 } x.d (s.mem.getD (wordI (getP s x.a)) 0), true) := by
  unfold stepM; rw [if_neg (by omega), if_neg (by omega), if_neg (by omega), if_neg hl, if_neg (by omega), if_neg (by omega), if_pos k]
theorem stepM_5 (k : x.kind = 5) (hl : s.left ≠ 0) : stepM R x s = ({ s with left := s.left - 1, mem := s.mem.set (wordI (getP s x.a)) (getP s x.b) }, true) := by
  unfold stepM; rw [if_neg (by omega), if_neg (by omega), if_neg (by omega), if_neg hl, if_neg (by omega), if_neg (by omega), if_neg (by omega), if_pos k]
theorem stepM_6 (k : x.kind = 6) (hl : s.left ≠ 0) : stepM R x s = (setP { s with left := s.left - 1, calls := s.calls ++ [(x.n, x.args.map (getP s))], more := s.more.tail } x.d (s.more.headD 0), true) := by
  unfold stepM; rw [if_neg (by omega), if_neg (by omega), if_neg (by omega), if_neg hl, if_neg (by omega), if_neg (by omega), if_neg (by omega), if_neg (by omega), if_pos k]
theorem stepM_n (k : Paid x) (k1 : x.kind ≠ 1) (k3 : x.kind ≠ 3) (k4 : x.kind ≠ 4) (k5 : x.kind ≠ 5) (k6 : x.kind ≠ 6) (hl : s.left ≠ 0) : stepM R x s = ({ s with left := s.left - 1 }, true) := by
  unfold stepM; rw [if_neg k.1, if_neg k.2.1, if_neg k.2.2, if_neg hl, if_neg k1, if_neg k3, if_neg k4, if_neg k5, if_neg k6]
end
def endS (e : Fin4) (s : Rs) : Rs × Option Int :=
  if s.left = 0 then ({ s with how := 3 }, none)
  else if e.kind = 3 then ({ s with left := s.left - 1, how := 1, value := getP s e.a }, none)
  else if e.kind = 2 ∧ getP s e.a = 0 then ({ s with left := s.left - 1 }, some e.el)
  else ({ s with left := s.left - 1 }, some e.to)
/-- From a place in blocks on, to where it is over. -/
inductive Runs (bs : List Blk) (R : Int) : Nat → Nat → Rs → Rs → Prop
  | stop {b k : Nat} {s t : Rs} {x : Blk} {y : Ins} : bs[b]? = some x → x.ins[k]? = some y → stepM R y s = (t, false) → Runs bs R b k s t
  | step {b k : Nat} {s t f : Rs} {x : Blk} {y : Ins} : bs[b]? = some x → x.ins[k]? = some y → stepM R y s = (t, true) → Runs bs R b (k + 1) t f → Runs bs R b k s f
  | fin {b k : Nat} {s t : Rs} {x : Blk} : bs[b]? = some x → k = x.ins.length → endS x.en s = (t, none) → Runs bs R b k s t
  | go {b k : Nat} {s t f : Rs} {x : Blk} {c : Nat} : bs[b]? = some x → k = x.ins.length → endS x.en s = (t, some (c : Int)) → Runs bs R c 0 t f → Runs bs R b k s f
theorem Runs.same {bs : List Blk} {R : Int} {b k : Nat} {s f g : Rs} (h : Runs bs R b k s f) : Runs bs R b k s g → f = g := by
  have lt : ∀ {x : Blk} {k : Nat} {y : Ins}, x.ins[k]? = some y → k ≠ x.ins.length := fun h e => by have := (List.getElem?_eq_some_iff.1 h).1; omega
  induction h with
  | stop h1 h2 h3 =>
    intro h'
    cases h' with
    | stop g1 g2 g3 => rw [h1] at g1; cases g1; rw [h2] at g2; cases g2; rw [h3] at g3; cases g3; rfl
    | step g1 g2 g3 _ => rw [h1] at g1; cases g1; rw [h2] at g2; cases g2; rw [h3] at g3; cases g3
    | fin g1 g0 g2 => rw [h1] at g1; cases g1; exact absurd g0 (lt h2)
    | go g1 g0 g2 _ => rw [h1] at g1; cases g1; exact absurd g0 (lt h2)
  | step h1 h2 h3 h4 ih =>
    intro h'
    cases h' with
    | stop g1 g2 g3 => rw [h1] at g1; cases g1; rw [h2] at g2; cases g2; rw [h3] at g3; cases g3
    | step g1 g2 g3 g4 => rw [h1] at g1; cases g1; rw [h2] at g2; cases g2; rw [h3] at g3; cases g3; exact ih g4
    | fin g1 g0 g2 => rw [h1] at g1; cases g1; exact absurd g0 (lt h2)
    | go g1 g0 g2 _ => rw [h1] at g1; cases g1; exact absurd g0 (lt h2)
  | fin h1 h0 h2 =>
    intro h'
    cases h' with
    | stop g1 g2 g3 => rw [h1] at g1; cases g1; exact absurd h0 (lt g2)
    | step g1 g2 g3 _ => rw [h1] at g1; cases g1; exact absurd h0 (lt g2)
    | fin g1 g0 g2 => rw [h1] at g1; cases g1; rw [h2] at g2; cases g2; rfl
    | go g1 g0 g2 _ => rw [h1] at g1; cases g1; rw [h2] at g2; cases g2
  | go h1 h0 h2 h3 ih =>
    intro h'
    cases h' with
    | stop g1 g2 g3 => rw [h1] at g1; cases g1; exact absurd h0 (lt g2)
    | step g1 g2 g3 _ => rw [h1] at g1; cases g1; exact absurd h0 (lt g2)
    | fin g1 g0 g2 => rw [h1] at g1; cases g1; rw [h2] at g2; cases g2
    | go g1 g0 g2 g3 =>
      rw [h1] at g1; cases g1; rw [h2] at g2
      simp only [Prod.mk.injEq, Option.some.injEq, Int.natCast_inj] at g2
      obtain ⟨rfl, rfl⟩ := g2
      exact ih g3

/-! ### What may be run -/
def inN (n : Int) (i : Int) : Prop := 0 ≤ i ∧ i < n
structure PlOk (R n : Int) (x : Ins) : Prop where
  k2 : x.kind = 2 → inN n x.d ∧ inN n x.a
  k7 : x.kind = 7 → inN n (R + x.d) ∧ inN n x.a
  k8 : x.kind = 8 → inN n x.d ∧ inN n (R + x.a)
  k1 : x.kind = 1 → inN n x.d
  k3 : x.kind = 3 → inN n x.d ∧ inN n x.a ∧ inN n x.b ∧ 1 ≤ x.op ∧ x.op ≤ 7
  k4 : x.kind = 4 → inN n x.d ∧ inN n x.a
  k5 : x.kind = 5 → inN n x.a ∧ inN n x.b
  k6 : x.kind = 6 → inN n x.d ∧ ∀ a ∈ x.args, inN n a
  al : x.args.length ≤ 1000
  lo : -1000 ≤ x.d ∧ x.d ≤ 1000 ∨ x.kind ≠ 7
  la : -1000 ≤ x.a ∧ x.a ≤ 1000 ∨ x.kind ≠ 8
structure BlOk (R n N : Int) (b : Blk) : Prop where
  len : b.ins.length ≤ 1000
  ins : ∀ x ∈ b.ins, PlOk R n x
  kd : 1 ≤ b.en.kind ∧ b.en.kind ≤ 3
  en : (b.en.kind ≠ 1 → inN n b.en.a) ∧ (b.en.kind ≠ 3 → inN N b.en.to) ∧ (b.en.kind = 2 → inN N b.en.el)
theorem ofM_pl {x : Ins} {R n : Int} (h : ofM x R = 0) (hR : R ≤ n) (hn : n ≤ 1000) : PlOk R n x := by
  obtain ⟨h1, h2⟩ := ofM_zeroJ h
  have hk : ¬ (¬ (1 ≤ x.kind ∧ x.kind ≤ 6) ∨ (x.kind = 3 ∧ ¬ (1 ≤ x.op ∧ x.op ≤ 7)) ∨ ¬ plainM x) := by
    intro hc; rw [ofM_20 hc] at h; cases h
  have hkk : 1 ≤ x.kind ∧ x.kind ≤ 6 := by grind
  have ho : x.kind = 3 → 1 ≤ x.op ∧ x.op ≤ 7 := by grind
  have up : ∀ y ∈ namedM x, inN n y := fun y hy => by have := h2 y hy; exact ⟨this.1, by omega⟩
  refine ⟨fun k => ?_, fun k => by omega, fun k => by omega, fun k => ?_, fun k => ?_, fun k => ?_, fun k => ?_, fun k => ?_, by omega, .inr (by omega), .inr (by omega)⟩
  · exact ⟨up _ (by simp [namedM, usesM, givesM, k]), up _ (by simp [namedM, usesM, givesM, k])⟩
  · exact up _ (by simp [namedM, usesM, givesM, k])
  · exact ⟨up _ (by simp [namedM, usesM, givesM, k]), up _ (by simp [namedM, usesM, givesM, k]), up _ (by simp [namedM, usesM, givesM, k]), ho k⟩
  · exact ⟨up _ (by simp [namedM, usesM, givesM, k]), up _ (by simp [namedM, usesM, givesM, k])⟩
  · exact ⟨up _ (by simp [namedM, usesM, givesM, k]), up _ (by simp [namedM, usesM, givesM, k])⟩
  · exact ⟨up _ (by simp [namedM, usesM, givesM, k]), fun a ha => up _ (by simp [namedM, usesM, givesM, k, ha])⟩
theorem endM_pl {e : Fin4} {R n N : Int} (h : endM e R N 21 = 0) (hR : R ≤ n) : (e.kind ≠ 1 → inN n e.a) ∧ (e.kind ≠ 3 → inN N e.to) ∧ (e.kind = 2 → inN N e.el) := by
  unfold endM at h; unfold inN; grind (splits := 60)
/-! ### What its memory holds -/
def CallF : RepF (Int × List Int) := fun h cs c fp => ∃ u, cs = [.int .i64 c.1, u] ∧ RowF h 2 1 u (c.2.map (.int .i64)) fp
theorem callF_good : GoodF CallF := ⟨fun ha ⟨u, h1, h2⟩ => ⟨u, h1, h2.agree ha⟩, fun ⟨u, h1, h2⟩ => h2.live⟩
def outC (s : Rs) (cv : Value) : List Value := .int .i64 s.how :: .int .i64 s.value :: cv :: (s.mem.map (.int .i64) ++ [.int .i64 s.left])
structure Mc (e : TypeId) (tl : List Value) (h0 h : H) (b : Nat) (pv cv : Value) (fP fC : List Nat) (s : Rs) : Prop where
  obj : h b = some (.cells (outC s cv ++ tl).toArray e (0, 0))
  m64 : s.mem.length = 64
  pl : RowF h 2 1 pv (s.places.map (.int .i64)) fP
  cl : SlF 123 2 CallF h cv s.calls fC
  nd : (b :: (fP ++ fC)).Nodup
  fr : Fresh h0 (b :: (fP ++ fC))
  kept : KeptH h0 h []
theorem set_obj {h : H} {b : Nat} {L : List Value} {e : TypeId} {k : Nat} {w : Value} (hb : h b = some (.cells L.toArray e (0, 0))) (hk : k < L.length) :
    (h.sets ((⟨b, 0, none⟩ : Addr).add k) [w]) b = some (.cells (L.set k w).toArray e (0, 0)) ∧ ∀ c, c ≠ b → (h.sets ((⟨b, 0, none⟩ : Addr).add k) [w]) c = h c := by
  have hL : L = L.take k ++ [L[k]] ++ L.drop (k + 1) := by
    conv => lhs; rw [← List.take_append_drop k L, List.drop_eq_getElem_cons hk]
    simp only [List.append_assoc, List.cons_append, List.nil_append]
  obtain ⟨s1, s2⟩ := sets_block (b := b) (e := e) (f := (0, 0)) [w] h k (L.take k) [L[k]] (L.drop (k + 1)) (by rw [List.length_take]; omega) rfl (by rw [← hL]; exact hb)
  rw [add_lit, Nat.zero_add]
  refine ⟨?_, s2⟩
  rw [s1, List.set_eq_take_append_cons_drop, if_pos hk]
  simp only [List.append_assoc, List.cons_append, List.nil_append]
section
variable {e : TypeId} {tl : List Value} {h0 h : H} {b : Nat} {pv cv : Value} {fP fC : List Nat} {s : Rs}
theorem outC_len (hm : s.mem.length = 64) : (outC s cv).length = 68 := by simp [outC, hm]
theorem Mc.cell (M : Mc e tl h0 h b pv cv fP fC s) {k : Nat} {w : Value} (hk : (outC s cv ++ tl)[k]? = some w) : Reads h ((⟨b, 0, none⟩ : Addr).add k) [w] := by
  intro i v hi
  obtain ⟨rfl, rfl⟩ := get_one hi
  rw [add_add, add_lit]
  have : (outC s cv ++ tl)[0 + (k + 0)]? = some v := by simpa using hk
  unfold H.cell?
  rw [M.obj]
  simpa using hk
theorem Mc.outs (M : Mc e tl h0 h b pv cv fP fC s) : Reads h (⟨b, 0, none⟩ : Addr) (outC s cv) := by
  intro i v hi
  have hlt := (List.getElem?_eq_some_iff.1 hi).1
  have := M.cell (k := i) (w := v) (by rw [List.getElem?_append_left hlt]; exact hi)
  have := this 0 v rfl
  rw [add_add] at this; simpa using this
theorem Mc.wr (M : Mc e tl h0 h b pv cv fP fC s) {k : Nat} (hk : k < (outC s cv ++ tl).length) : Writable h ((⟨b, 0, none⟩ : Addr).add k) 1 := by
  intro i hi
  obtain rfl : i = 0 := by omega
  rw [add_add, add_lit]
  unfold H.cell? H.frozen?
  rw [M.obj]
  simp at hk ⊢
  omega
/-- A cell of the object is set. -/
theorem Mc.setObj (M : Mc e tl h0 h b pv cv fP fC s) {k : Nat} {w : Value} {s' : Rs} {tl' : List Value} (hk : k < (outC s cv ++ tl).length) (he : (outC s cv ++ tl).set k w = outC s' cv ++ tl') (hm : s'.mem.length = 64) (hp : s'.places = s.places) (hc : s'.calls = s.calls) :
    Mc e tl' h0 (h.sets ((⟨b, 0, none⟩ : Addr).add k) [w]) b pv cv fP fC s' := by
  obtain ⟨s1, s2⟩ := set_obj (w := w) M.obj hk
  have hnb : ∀ c ∈ fP ++ fC, c ≠ b := fun c hc e => (List.nodup_cons.1 M.nd).1 (e ▸ hc)
  have ag : ∀ {g : List Nat}, (∀ c ∈ g, c ∈ fP ++ fC) → Agree h (h.sets ((⟨b, 0, none⟩ : Addr).add k) [w]) g := fun hg c hc => s2 c (hnb c (hg c hc))
  refine ⟨by rw [s1, he], hm, by rw [hp]; exact M.pl.agree (ag fun c hc => List.mem_append_left _ hc), by rw [hc]; exact M.cl.agree callF_good (ag fun c hc => List.mem_append_right _ hc), M.nd, M.fr, ?_⟩
  refine M.kept.trans_nil (f := [b]) (fun c hc _ => s2 c fun e => hc (by rw [e]; simp)) fun c hc => ?_
  rw [List.mem_singleton] at hc; subst hc
  exact M.fr c (by simp)
theorem Mc.setHow (M : Mc e tl h0 h b pv cv fP fC s) (n : Int) : Mc e tl h0 (h.sets ((⟨b, 0, none⟩ : Addr).add 0) [.int .i64 n]) b pv cv fP fC { s with how := n } :=
  M.setObj (by simp [outC]) (by simp [outC]) M.m64 rfl rfl
theorem Mc.setValue (M : Mc e tl h0 h b pv cv fP fC s) (n : Int) : Mc e tl h0 (h.sets ((⟨b, 0, none⟩ : Addr).add 1) [.int .i64 n]) b pv cv fP fC { s with value := n } :=
  M.setObj (by simp [outC]) (by simp [outC]) M.m64 rfl rfl
theorem Mc.setLeft (M : Mc e tl h0 h b pv cv fP fC s) (n : Int) : Mc e tl h0 (h.sets ((⟨b, 0, none⟩ : Addr).add 67) [.int .i64 n]) b pv cv fP fC { s with left := n } := by
  refine M.setObj (by simp [outC, M.m64]; omega) ?_ M.m64 rfl rfl
  have hm : (s.mem.map (Value.int .i64)).length = 64 := by simp [M.m64]
  simp only [outC, List.cons_append, List.set_cons_succ, List.append_assoc]
  rw [List.set_append_right _ _ (by omega), hm]; rfl
theorem Mc.setMem (M : Mc e tl h0 h b pv cv fP fC s) {i : Nat} (hi : i < 64) (n : Int) : Mc e tl h0 (h.sets ((⟨b, 0, none⟩ : Addr).add (3 + i)) [.int .i64 n]) b pv cv fP fC { s with mem := s.mem.set i n } := by
  refine M.setObj (by simp [outC, M.m64]; omega) ?_ (by simp [M.m64]) rfl rfl
  have hm : (s.mem.map (Value.int .i64)).length = 64 := by simp [M.m64]
  rw [Nat.add_comm]
  simp only [outC, List.cons_append, List.set_cons_succ, List.append_assoc]
  rw [List.set_append_left _ _ (by omega), List.map_set]
theorem Mc.left_ (M : Mc e tl h0 h b pv cv fP fC s) : Reads h ((⟨b, 0, none⟩ : Addr).add 67) [.int .i64 s.left] := by
  refine M.cell ?_
  have hm : (s.mem.map (Value.int .i64)).length = 64 := by simp [M.m64]
  simp only [outC, List.cons_append, List.getElem?_cons_succ, List.append_assoc]
  rw [List.getElem?_append_right (by omega), hm]; rfl
theorem Mc.mem_ (M : Mc e tl h0 h b pv cv fP fC s) {i : Nat} (hi : i < 64) : Reads h ((⟨b, 0, none⟩ : Addr).add (3 + i)) [.int .i64 (s.mem.getD i 0)] := by
  refine M.cell ?_
  rw [Nat.add_comm]
  have hm : (s.mem.map (Value.int .i64)).length = 64 := by simp [M.m64]
  simp only [outC, List.cons_append, List.getElem?_cons_succ, List.append_assoc]
  rw [List.getElem?_append_left (by omega), List.getElem?_map, List.getD_eq_getElem?_getD, List.getElem?_eq_getElem (by rw [M.m64]; exact hi)]; rfl
theorem Mc.calls_ (M : Mc e tl h0 h b pv cv fP fC s) : Reads h ((⟨b, 0, none⟩ : Addr).add 2) [cv] := M.cell (by simp [outC])
theorem Mc.tail_ (M : Mc e tl h0 h b pv cv fP fC s) {i : Nat} {w : Value} (hw : tl[i]? = some w) : Reads h ((⟨b, 0, none⟩ : Addr).add (68 + i)) [w] := by
  refine M.cell ?_
  rw [List.getElem?_append_right (by rw [outC_len M.m64]; omega), outC_len M.m64, Nat.add_sub_cancel_left]; exact hw
theorem Mc.plen (M : Mc e tl h0 h b pv cv fP fC s) : vlen pv = s.places.length := by have := M.pl.row0.len; simp at this; exact this.symm
theorem Mc.pfit (M : Mc e tl h0 h b pv cv fP fC s) : Fits .sl pv := M.pl.row0.fit
theorem Mc.place (M : Mc e tl h0 h b pv cv fP fC s) {i : Int} (hi : inN s.places.length i) : Reads h ((vaddr pv).add (i.toNat * 1)) [.int .i64 (getP s i)] := by
  have hlt : i.toNat < s.places.length := by have := hi.1; have := hi.2; omega
  rw [Nat.mul_one]
  refine M.pl.row0.reads fun j u hj => ?_
  obtain ⟨rfl, rfl⟩ := get_one hj
  unfold getP
  rw [Nat.add_zero, List.getElem?_map, List.getD_eq_getElem?_getD, List.getElem?_eq_getElem hlt]; rfl
/-- A place is set. -/
theorem Mc.setPlace (M : Mc e tl h0 h b pv cv fP fC s) {i : Int} (hi : inN s.places.length i) (v : Int) :
    Writable h ((vaddr pv).add (i.toNat * 1)) 1 ∧ Mc e tl h0 (h.sets ((vaddr pv).add (i.toNat * 1)) [.int .i64 v]) b pv cv fP fC (setP s i v) := by
  have hlt : i.toNat < s.places.length := by have := hi.1; have := hi.2; omega
  rw [Nat.mul_one]
  have hsp : s.places.map (Value.int .i64) = (s.places.take i.toNat).map (.int .i64) ++ [.int .i64 s.places[i.toNat]] ++ (s.places.drop (i.toNat + 1)).map (.int .i64) := by
    conv => lhs; rw [← List.take_append_drop i.toNat s.places, List.drop_eq_getElem_cons hlt]
    simp only [List.map_append, List.map_cons, List.append_assoc, List.cons_append, List.nil_append]
  have hsp' : (s.places.set i.toNat v).map (Value.int .i64) = (s.places.take i.toNat).map (.int .i64) ++ [.int .i64 v] ++ (s.places.drop (i.toNat + 1)).map (.int .i64) := by
    rw [List.set_eq_take_append_cons_drop, if_pos hlt]
    simp only [List.map_append, List.map_cons, List.append_assoc, List.cons_append, List.nil_append]
  have hal : ((s.places.take i.toNat).map (Value.int .i64)).length = i.toNat := by simp; omega
  have hrow := M.pl
  rw [hsp] at hrow
  obtain ⟨s1, s2⟩ := set_rowF (N := [Value.int .i64 v]) hrow rfl (by simp)
  rw [hal] at s1 s2
  rw [← hsp'] at s1
  obtain ⟨n1, n2⟩ := List.nodup_cons.1 M.nd
  obtain ⟨n3, n4, n5⟩ := List.nodup_append.1 n2
  refine ⟨?_, ?_, M.m64, s1, M.cl.agree callF_good (fun c hc => s2 c fun hp => n5 c hp c hc rfl), M.nd, M.fr, ?_⟩
  · refine hrow.row0.writable ?_
    have e1 := hrow.row0.len
    obtain ⟨aa, nn, cc, rfl, _, e3⟩ := hrow.row0.fit
    simp only [List.length_append, List.length_cons, List.length_nil, vlen_sl, vcap_sl, hal] at e1 ⊢
    omega
  · rw [s2 b fun hp => n1 (List.mem_append_left _ hp)]; exact M.obj
  · exact M.kept.trans_nil (fun c hc _ => s2 c hc) fun c hc => M.fr c (by simp [hc])
/-- A call more. -/
theorem Mc.addCall (M : Mc e tl h0 h b pv cv fP fC s) {n : Int} {u : Value} {l : List Int} {f : List Nat} (hu : RowF h 2 1 u (l.map (.int .i64)) f) (hf : Fresh h0 f) (hd : ∀ c ∈ f, c ∉ b :: (fP ++ fC)) (hlen : s.calls.length ≤ 100000000) {K : Value → H → Prop}
    (hz : ((zeroCells Tryd.prog 123).getD []).length = 2)
    (HK : ∀ cv' h' fC', (∀ w, w = cv' → Writable h' ((⟨b, 0, none⟩ : Addr).add 2) 1 ∧ Mc e tl h0 (h'.sets ((⟨b, 0, none⟩ : Addr).add 2) [cv']) b pv cv' fP fC' { s with calls := s.calls ++ [(n, l)] }) → K cv' h') :
    AppSpec h 123 2 32 ((zeroCells Tryd.prog 123).getD []) cv [.int .i64 n, u] 1 K := by
  obtain ⟨n1, n2⟩ := List.nodup_cons.1 M.nd
  obtain ⟨n3, n4, n5⟩ := List.nodup_append.1 n2
  have hfn : f.Nodup := by rcases hu with ⟨_, _, rfl⟩ | ⟨b, _, _, _, _, _, _, _, _, rfl⟩ <;> simp
  refine app_slF (x := (n, l)) (f := f) callF_good (by omega) M.cl rfl ⟨u, rfl, hu⟩ (nodup_app n4 hfn fun c hc hc' => hd c hc' (by simp [hc])) hz (by omega) fun cv' h' fC' k1 k2 k3 k4 => HK cv' h' fC' fun w hw => ?_
  have hlb : h b ≠ none := by rw [M.obj]; simp
  have hob : h' b = some (.cells (outC s cv ++ tl).toArray e (0, 0)) := by rw [k3 b (fun hb => n1 (List.mem_append_right _ hb)) (by rw [M.obj]; rfl)]; exact M.obj
  have hL : (outC s cv ++ tl).set 2 cv' = outC { s with calls := s.calls ++ [(n, l)] } cv' ++ tl := by simp [outC]
  have hk2 : 2 < (outC s cv ++ tl).length := by simp [outC]
  obtain ⟨s1, s2⟩ := set_obj (w := cv') hob hk2
  have hPlive := M.pl.live
  have hnotb : ∀ c ∈ fC', c ≠ b := fun c hc e => by
    rcases k4 c hc with q | q | q
    · exact n1 (by rw [← e]; simp [q])
    · exact hd c q (by rw [e]; simp)
    · rw [e] at q; exact hlb q
  have hnP : ∀ c ∈ fP, c ∉ fC' := fun c hc hc' => by
    rcases k4 c hc' with q | q | q
    · exact n5 c hc c q rfl
    · exact hd c q (by simp [hc])
    · have := hPlive c hc; rw [q] at this; cases this
  refine ⟨?_, ?_⟩
  · intro i hi
    obtain rfl : i = 0 := by omega
    rw [add_add, add_lit]
    unfold H.cell? H.frozen?
    rw [hob]
    simp [outC]
  · refine ⟨by rw [s1, hL], M.m64, (M.pl.agree (k3.agree hPlive fun c hc hc' => n5 c hc c hc' rfl)).agree (fun c hc => s2 c fun e => n1 (by rw [← e]; simp [hc])), k1.agree callF_good (fun c hc => s2 c (hnotb c hc)), ?_, fun c hc => ?_, ?_⟩
    · refine List.nodup_cons.2 ⟨fun hb => ?_, nodup_app n3 k2 hnP⟩
      rcases List.mem_append.1 hb with q | q
      · exact n1 (by simp [q])
      · exact hnotb b q rfl
    · rcases List.mem_cons.1 hc with rfl | hc
      · exact M.fr c (by simp)
      · rcases List.mem_append.1 hc with q | q
        · exact M.fr c (by simp [q])
        · rcases k4 c q with e | e | e
          · exact M.fr c (by simp [e])
          · exact hf c e
          · exact H.le_none M.kept.le_nil e
    · have a1 : KeptH h0 h' [] := M.kept.trans_nil k3 fun c hc => M.fr c (by simp [hc])
      refine a1.trans_nil (f := [b]) (fun c hc _ => s2 c fun e => hc (by rw [e]; simp)) fun c hc => ?_
      rw [List.mem_singleton] at hc; subst hc
      exact M.fr c (by simp)
end
end Go.Proofs.YtbbicdfipheaeaaDoor

/-
  What the parts of a run do: fuel, a word, a call, an instruction, an end. Conditions: as each contract says.
-/
set_option linter.unusedVariables false
set_option linter.unusedSimpArgs false
namespace Go.Proofs.YtbbicdfipheaeaaDoor
open Go

abbrev bp (b : Nat) : Addr := ⟨b, 0, none⟩
abbrev pV (b : Nat) : Value := .pointer (some ⟨b, 0, none⟩)
theorem pV_fit (b : Nat) : Fits .ptr (pV b) := ⟨_, rfl⟩
theorem needI {G : List Value} {i j : Nat} {x : Int} {n : Nat} (e : gv G i = .int .i64 x) (ej : vlen (gv G j) = n) (h : inN n x) : needs G [(.cmp .geq (.var i) (.lit 0)), (.cmp .lss (.var i) (.len j))] := by
  obtain ⟨h1, h2⟩ := h
  simp only [needs, X.den, e, ej, vi_int, vb_bool, cmp_geq, cmp_lss, decide_eq_true_eq, and_true]
  exact ⟨h1, h2⟩
theorem needA {G : List Value} {i j k : Nat} {x y : Int} {n : Nat} (e : gv G i = .int .i64 x) (e' : gv G k = .int .i64 y) (ej : vlen (gv G j) = n) (h : inN n (x + y)) (hn : n ≤ 10000) : needs G [(.cmp .geq (.op .add .i64 (.var i) (.var k)) (.lit 0)), (.cmp .lss (.op .add .i64 (.var i) (.var k)) (.len j))] := by
  obtain ⟨h1, h2⟩ := h
  have : intOp .add .i64 x y = x + y := by simp only [intOp]; rw [wrap_i64 (by omega) (by omega)]
  simp only [needs, X.den, e, e', ej, vi_int, vb_bool, this, cmp_geq, cmp_lss, decide_eq_true_eq, and_true]
  exact ⟨h1, h2⟩
theorem addr_add {x y : Int} {n : Nat} (h : inN n (x + y)) (hn : n ≤ 10000) : intOp .add .i64 x y = x + y := by
  obtain ⟨h1, h2⟩ := h
  simp only [intOp]; rw [wrap_i64 (by omega) (by omega)]
theorem s81 {h : H} (op a b : Int) : CallsA Tryd.prog 81 (fun _ => [.int .u8 op, .int .i64 a, .int .i64 b]) [] h (Ret fun r h' => h' = h ∧ r = .tuple #[.int .i64 ((binM op a b).getD 0), .bool (binM op a b).isSome]) := by
  refine c81 (G := [.int .u8 op, .int .i64 a, .int .i64 b]) ⟨⟨_, rfl⟩, ⟨_, rfl⟩, ⟨_, rfl⟩, trivial⟩ ?_
  have cv : ∀ k : Int, ∀ c : Bool, vb ((X.cmp .eql (.var 0) (.lit k)).den [.int .u8 op, .int .i64 a, .int .i64 b]) = c → decide (op = k) = c := fun k c h => by
    simpa only [X.den, gv_zero, vi_int, vb_bool, cmp_eql] using h
  refine h_ite (fun c1 => ⟨rfl, rfl, ?_⟩) (fun c1 => h_ite (fun c2 => ⟨rfl, rfl, ?_⟩) (fun c2 => h_ite (fun c3 => ⟨rfl, rfl, ?_⟩) (fun c3 => h_ite (fun c4 => ⟨rfl, rfl, ?_⟩) (fun c4 => h_ite (fun c5 => ⟨rfl, rfl, ?_⟩) (fun c5 => h_ite (fun c6 => ?_) (fun c6 => ?_))))))
  · have := cv _ _ c1; rw [decide_eq_true_eq] at this; subst this; rfl
  · have := cv _ _ c2; rw [decide_eq_true_eq] at this; subst this; rfl
  · have := cv _ _ c3; rw [decide_eq_true_eq] at this; subst this; rfl
  · have := cv _ _ c4; rw [decide_eq_true_eq] at this; subst this; rfl
  · have := cv _ _ c5; rw [decide_eq_true_eq] at this; subst this; rfl
  · have := cv _ _ c6; rw [decide_eq_true_eq] at this; subst this
    refine h_ite (fun c => ⟨rfl, rfl, ?_⟩) (fun c => ⟨rfl, rfl, ?_⟩)
    · replace c : cmpOp .lss a b = true := c
      rw [cmp_lss, decide_eq_true_eq] at c
      simp [binM, c, SV.den, SV.denL, X.den]
    · replace c : cmpOp .lss a b = false := c
      rw [cmp_lss, decide_eq_false_iff_not] at c
      simp [binM, c, SV.den, SV.denL, X.den]
  · have d1 := cv _ _ c1; have d2 := cv _ _ c2; have d3 := cv _ _ c3; have d4 := cv _ _ c4; have d5 := cv _ _ c5; have d6 := cv _ _ c6
    rw [decide_eq_false_iff_not] at d1 d2 d3 d4 d5 d6
    have hb : binM op a b = if b = 0 then none else some (intOp .quo .i64 a b) := by simp [binM, d1, d2, d3, d4, d5, d6]
    refine h_ite (fun c => ⟨rfl, rfl, ?_⟩) (fun c => ⟨fun _ => ⟨?_, trivial⟩, rfl, rfl, ?_⟩)
    · replace c : cmpOp .eql b 0 = true := c
      rw [cmp_eql, decide_eq_true_eq] at c
      rw [hb, if_pos c]; rfl
    · replace c : cmpOp .eql b 0 = false := c
      rw [cmp_eql, decide_eq_false_iff_not] at c
      show cmpOp .neq b 0 = true
      rw [cmp_neq, decide_eq_true_eq]; exact c
    · replace c : cmpOp .eql b 0 = false := c
      rw [cmp_eql, decide_eq_false_iff_not] at c
      rw [hb, if_neg c]; rfl
section
variable {e : TypeId} {tl : List Value} {h0 h : H} {b : Nat} {pv cv mv : Value} {fP fC : List Nat} {s : Rs} {R : Int}
theorem s80 (M : Mc e tl h0 h b pv cv fP fC s) (hl : 0 ≤ s.left ∧ s.left ≤ 10000000) :
    CallsA Tryd.prog 80 (fun _ => [pV b]) [] h (Ret fun r h' => r = .bool (!decide (s.left = 0)) ∧ Mc e tl h0 h' b pv cv fP fC (if s.left = 0 then { s with how := 3 } else { s with left := s.left - 1 })) := by
  refine c80 (G := [pV b]) ⟨pV_fit b, trivial⟩ ⟨fun _ => ⟨rfl, trivial⟩, h_load [.int .i64 s.left] ⟨⟨_, rfl⟩, trivial⟩ (fun _ => ?_) (h_ite (fun hc => ⟨fun _ => ⟨rfl, trivial⟩, ?_⟩) (fun hc => ⟨fun _ => ⟨rfl, trivial⟩, ?_⟩))⟩
  · have := M.left_; rwa [show (67 : Nat) = 0 + 67 from rfl, ← add_add] at this
  · replace hc : cmpOp .eql s.left 0 = true := hc
    rw [cmp_eql, decide_eq_true_eq] at hc
    refine h_store ((bp b).add 0) [.int .i64 3] (by rw [show (0 : Nat) = 0 + 0 from rfl, ← add_add]; rfl) rfl (M.wr (by simp [outC])) ⟨rfl, ?_, ?_⟩
    · simp only [hc, decide_true]; rfl
    · rw [if_pos hc]; exact M.setHow 3
  · replace hc : cmpOp .eql s.left 0 = false := hc
    rw [cmp_eql, decide_eq_false_iff_not] at hc
    refine h_load [.int .i64 s.left] ⟨⟨_, rfl⟩, trivial⟩ (fun _ => ?_) ⟨fun _ => ⟨rfl, trivial⟩, h_store ((bp b).add 67) [.int .i64 (s.left - 1)] ?_ ?_ (M.wr (by simp [outC, M.m64]; omega)) ⟨rfl, ?_, ?_⟩⟩
    · have := M.left_; rwa [show (67 : Nat) = 0 + 67 from rfl, ← add_add] at this
    · rw [show (67 : Nat) = 0 + 67 from rfl, ← add_add]; rfl
    · show [Value.int .i64 (intOp .sub .i64 s.left 1)] = _
      simp only [intOp]; rw [wrap_i64 (by omega) (by omega)]
    · simp only [hc, decide_false]; rfl
    · rw [if_neg hc]; exact M.setLeft _
theorem s82 (n : Int) : CallsA Tryd.prog 82 (fun _ => [pV b, .int .i64 n]) [] h (Ret fun r h' => h' = h ∧ r = .pointer (some ((bp b).add (3 + wordI n)))) := by
  obtain ⟨w1, w2⟩ := word_val n
  refine c82 (G := [pV b, .int .i64 n]) ⟨pV_fit b, ⟨_, rfl⟩, trivial⟩ ⟨fun _ => ⟨rfl, trivial⟩, fun _ => ⟨?_, ?_, trivial⟩, rfl, rfl, ?_⟩
  · show cmpOp .geq (intOp .rem .u64 (IntKind.u64.wrap n) 64) 0 = true
    rw [w1]; exact ge0 _
  · show cmpOp .lss (intOp .rem .u64 (IntKind.u64.wrap n) 64) 64 = true
    rw [w1, cmp_lss, decide_eq_true_eq]; omega
  · show Value.pointer (some ((((bp b).add 0).add 3).add ((intOp .rem .u64 (IntKind.u64.wrap n) 64).toNat * 1))) = _
    rw [w1, Int.toNat_natCast, Nat.mul_one, add_add, add_add, Nat.zero_add]
theorem zeroI64 : (zeroCells Tryd.prog 2).getD [] = [.int .i64 0] := by kernel_rfl
theorem zeroCall : ((zeroCells Tryd.prog 123).getD []).length = 2 := by kernel_rfl
/-- A run of run.Do's: its state lies at b, its places at pv. -/
structure Dc (h0 h : H) (b : Nat) (pv : Value) (fP : List Nat) (R : Int) (s : Rs) : Prop where
  mc : ∃ cv mv fC, Mc 134 [pv, .int .i64 R, mv] h0 h b pv cv fP fC s ∧ IntsAt h0 mv s.more
theorem s83 (D : Dc h0 h b pv fP R s) {x : Ins} {v : Value} (hv : IntsAt h0 v x.args) (ha : ∀ a ∈ x.args, inN s.places.length a) (hal : x.args.length ≤ 1000) (hcl : s.calls.length ≤ 10000000) (hlf : 0 ≤ s.left) :
    CallsA Tryd.prog 83 (fun _ => [pV b, .agg (insC x v).toArray]) [] h (Ret fun r h' => r = .int .i64 (s.more.headD 0) ∧ Dc h0 h' b pv fP R { s with calls := s.calls ++ [(x.n, x.args.map (getP s))], more := s.more.tail }) := by
  obtain ⟨cv, mv, fC, M, hm⟩ := D.mc
  refine c83 (G := [pV b, .int .u8 x.kind, .int .u8 x.op, .int .i64 x.d, .int .i64 x.a, .int .i64 x.b, .int .i64 x.n, v]) ⟨pV_fit b, ⟨_, rfl⟩, ⟨_, rfl⟩, ⟨_, rfl⟩, ⟨_, rfl⟩, ⟨_, rfl⟩, ⟨_, rfl⟩, hv.fit, trivial⟩ ?_
  have hvl := hv.len
  have hpl := M.plen
  have rp : ∀ {h'}, Mc 134 [pv, .int .i64 R, mv] h0 h' b pv cv fP fC s → Reads h' ((bp b).add 68) [pv] := fun M' => M'.tail_ (i := 0) rfl
  refine h_loop (fun xs h' => ∃ (i : Nat) (u : Value) (f : List Nat), xs = [.int .i64 (i : Int), u] ∧ i ≤ x.args.length ∧ Mc 134 [pv, .int .i64 R, mv] h0 h' b pv cv fP fC s ∧ RowF h' 2 1 u (((x.args.take i).map (getP s)).map (.int .i64)) f ∧ Fresh h0 f ∧ ∀ c ∈ f, c ∉ b :: (fP ++ fC))
    (fun xs h' => x.args.length - (vi (gv xs 0)).toNat) ⟨0, .slice none 0 0, [], rfl, Nat.zero_le _, M, .inl ⟨rfl, rfl, rfl⟩, (fun c hc => by cases hc), (fun c hc => by cases hc)⟩ ?_
  rintro xs h1 J - ⟨i, u, f, rfl, hi, M1, hu, hf, hd⟩ hJ
  have huf := hu.row0.fit
  simp only [List.cons_append, List.nil_append]
  refine h_ite (fun hc => ?_) (fun hc => ?_)
  · replace hc : cmpOp .lss (i : Int) ((vlen v : Nat) : Int) = true := hc
    have n1 := hc
    rw [hvl, cmp_lss, decide_eq_true_eq] at hc
    have hil : i < x.args.length := by omega
    have hz : x.args[i]? = some x.args[i] := List.getElem?_eq_getElem hil
    have hzm : x.args[i] ∈ x.args := List.getElem_mem _
    generalize hze : x.args[i] = z at hz hzm
    have hzn := ha z hzm
    have hzr := (hv.le M1.kept.le_nil).read hz
    have r1 := rp M1
    refine ⟨fun _ => ⟨ge0 i, n1, trivial⟩, h_load [.int .i64 z] ⟨⟨_, rfl⟩, trivial⟩ (fun _ => hzr) ⟨fun _ => ⟨rfl, trivial⟩, h_load [pv] ⟨M.pfit, trivial⟩ (fun _ => r1) ⟨fun _ => needI (n := s.places.length) rfl hpl hzn, h_load [.int .i64 (getP s z)] ⟨⟨_, rfl⟩, trivial⟩ (fun _ => M1.place hzn) ⟨fun _ => r1, ?_⟩⟩⟩⟩
    simp only [List.cons_append, List.nil_append]
    refine ⟨[.int .i64 (getP s z)], 1, ⟨rfl, rfl⟩, app_rowF hu rfl (by rw [zeroI64]; rfl) ?_ ?_⟩
    · have e1 := hu.row0.len
      simp only [List.length_map, List.length_take, Nat.mul_one] at e1
      show (vlen u + 1) * 8 ≤ _
      omega
    intro u' h2 f' k1 k2 k3 k4
    have M2 : Mc 134 [pv, .int .i64 R, mv] h0 h2 b pv cv fP fC s := by
      have ag : ∀ {g : List Nat}, (∀ c ∈ g, c ∈ b :: (fP ++ fC)) → Live h1 g → Agree h1 h2 g := fun hg hl => k3.agree hl fun c hc hc' => hd c hc' (hg c hc)
      refine ⟨?_, M1.m64, M1.pl.agree (ag (fun c hc => by simp [hc]) M1.pl.live), M1.cl.agree callF_good (ag (fun c hc => by simp [hc]) (M1.cl.live callF_good)), M1.nd, M1.fr, M1.kept.trans_nil k3 hf⟩
      rw [k3 b (fun hb => hd b hb (by simp)) (by rw [M1.obj]; rfl)]; exact M1.obj
    have hf' : Fresh h0 f' := by
      rcases k4 with rfl | ⟨c, rfl, hc⟩
      · exact hf
      · intro q hq; rw [List.mem_singleton] at hq; subst hq; exact H.le_none M1.kept.le_nil hc
    have hd' : ∀ c ∈ f', c ∉ b :: (fP ++ fC) := by
      rcases k4 with rfl | ⟨c, rfl, hc⟩
      · exact hd
      · intro q hq hq'
        rw [List.mem_singleton] at hq; subst hq
        rcases List.mem_cons.1 hq' with rfl | hq'
        · rw [M1.obj] at hc; cases hc
        · rcases List.mem_append.1 hq' with hq' | hq'
          · have := M1.pl.live q hq'; rw [hc] at this; cases this
          · have := M1.cl.live callF_good q hq'; rw [hc] at this; cases this
    refine ⟨fun _ => rp M2, again_of (xs := [.int .i64 ((i + 1 : Nat) : Int), u']) (J := J) ?_ rfl (hJ _ _ ⟨i + 1, u', f', rfl, by omega, M2, ?_, hf', hd'⟩ ?_)⟩
    · exact congrArg (fun z => [Value.int .i64 z, u']) (int_add_one (n := x.args.length) (by omega) (by omega))
    · rw [List.take_succ_eq_append_getElem hil, hze]
      simpa using k1
    · simp only [gv_zero, vi_int]; omega
  · replace hc : cmpOp .lss (i : Int) ((vlen v : Nat) : Int) = false := hc
    rw [hvl, cmp_lss, decide_eq_false_iff_not] at hc
    have hie : i = x.args.length := by omega
    rw [hie, List.take_length] at hu
    have rc : Reads h1 (((bp b).add 0).add 2) [cv] := by rw [add_add]; exact M1.calls_
    have hcvf : Fits .sl cv := by obtain ⟨L, fr, _, _, h4, _⟩ := M1.cl; exact h4.row0.fit
    refine ⟨fun _ => ⟨rfl, trivial⟩, h_load [cv] ⟨hcvf, trivial⟩ (fun _ => rc) ⟨fun _ => rc, [.int .i64 x.n, u], 1, ⟨rfl, rfl⟩, ?_⟩⟩
    refine M1.addCall (l := x.args.map (getP s)) hu hf hd (by omega) zeroCall fun cv' h2 fC' k => ?_
    obtain ⟨k1, M3⟩ := k cv' rfl
    refine ⟨fun _ => ⟨rfl, trivial⟩, h_store ((bp b).add 2) [cv'] (by rw [show (2 : Nat) = 0 + 2 from rfl, ← add_add]; rfl) rfl k1 ?_⟩
    generalize h2.sets ((bp b).add 2) [cv'] = h3 at M3 ⊢
    have hml := hm.len
    have rm : Reads h3 ((bp b).add 70) [mv] := M3.tail_ (i := 2) rfl
    refine ⟨fun _ => ⟨rfl, trivial⟩, h_load [mv] ⟨hm.fit, trivial⟩ (fun _ => rm) (h_ite (fun hc2 => ?_) (fun hc2 => ?_))⟩
    · replace hc2 : cmpOp .gtr ((vlen mv : Nat) : Int) 0 = true := hc2
      have n2 : cmpOp .lss 0 ((vlen mv : Nat) : Int) = true := by rw [cmp_lss]; rw [cmp_gtr] at hc2; exact hc2
      rw [hml, cmp_gtr, decide_eq_true_eq] at hc2
      obtain ⟨q, ql, hq⟩ : ∃ q ql, s.more = q :: ql := by
        cases e : s.more with
        | nil => rw [e] at hc2; simp at hc2
        | cons q ql => exact ⟨q, ql, rfl⟩
      have hqr := (hm.le M3.kept.le_nil).read (i := 0) (x := q) (by rw [hq]; rfl)
      have n3 : cmpOp .leq 1 ((vlen mv : Nat) : Int) = true := by rw [hml, cmp_leq, decide_eq_true_eq]; omega
      refine ⟨fun _ => ⟨rfl, trivial⟩, h_load [mv] ⟨hm.fit, trivial⟩ (fun _ => rm) ⟨fun _ => ⟨rfl, n2, trivial⟩, h_load [.int .i64 q] ⟨⟨_, rfl⟩, trivial⟩ (fun _ => hqr) ⟨fun _ => ⟨rfl, trivial⟩, h_load [mv] ⟨hm.fit, trivial⟩ (fun _ => rm) ⟨fun _ => ⟨rfl, n3, trivial⟩, ?_⟩⟩⟩⟩
      rintro w hw
      replace hw : w = sliceV mv 1 (vlen mv) 1 := hw
      subst hw
      simp only [List.cons_append, List.nil_append]
      have hm' : IntsAt h0 (sliceV mv 1 (vlen mv) 1) s.more.tail := by
        have := hm.slice (lo := 1) (hi := s.more.length) (by omega) (Nat.le_refl _)
        rw [hml]
        rw [hq] at this ⊢
        simpa [List.take_of_length_le] using this
      refine ⟨fun _ => rm, fun _ => ⟨rfl, trivial⟩, h_store ((bp b).add 70) [sliceV mv 1 (vlen mv) 1] rfl rfl (M3.wr (by rw [List.length_append, outC_len M3.m64]; simp)) ?_⟩
      refine ⟨rfl, by rw [hq]; rfl, ⟨cv', sliceV mv 1 (vlen mv) 1, fC', ?_, hm'⟩⟩
      refine M3.setObj (s' := { s with calls := s.calls ++ [(x.n, x.args.map (getP s))], more := s.more.tail }) (tl' := [pv, .int .i64 R, sliceV mv 1 (vlen mv) 1]) (by rw [List.length_append, outC_len M3.m64]; simp) ?_ M3.m64 rfl rfl
      rw [List.set_append_right _ _ (by rw [outC_len M3.m64]; omega), outC_len M3.m64]; rfl
    · replace hc2 : cmpOp .gtr ((vlen mv : Nat) : Int) 0 = false := hc2
      rw [hml, cmp_gtr, decide_eq_false_iff_not] at hc2
      have hq : s.more = [] := List.eq_nil_of_length_eq_zero (by omega)
      refine ⟨rfl, by rw [hq]; rfl, ⟨cv', mv, fC', ?_, by rw [hq] at hm ⊢; exact hm⟩⟩
      exact ⟨M3.obj, M3.m64, M3.pl, M3.cl, M3.nd, M3.fr, M3.kept⟩
theorem Mc.how_left (M : Mc e tl h0 h b pv cv fP fC s) (n m : Int) : True := trivial
theorem Dc.of_left {h' : H} {t : Rs} {cv mv : Value} {fC : List Nat} (M : Mc 134 [pv, .int .i64 R, mv] h0 h' b pv cv fP fC t) (hm : IntsAt h0 mv t.more) : Dc h0 h' b pv fP R t := ⟨cv, mv, fC, M, hm⟩
theorem s77 (D : Dc h0 h b pv fP R s) {x : Ins} {v : Value} {n : Nat} (hv : IntsAt h0 v x.args) (hn : s.places.length = n) (hp : PlOk R n x) (hn2 : n ≤ 1000) (hR : 0 ≤ R ∧ R ≤ 1000) (hcl : s.calls.length ≤ 10000000) (hlf : 0 ≤ s.left ∧ s.left ≤ 10000000) :
    CallsA Tryd.prog 77 (fun _ => [pV b, .agg (insC x v).toArray]) [] h (Ret fun r h' => r = .bool (stepM R x s).2 ∧ Dc h0 h' b pv fP R (stepM R x s).1) := by
  subst hn
  obtain ⟨cv, mv, fC, M, hm⟩ := D.mc
  refine c77 (G := [pV b, .int .u8 x.kind, .int .u8 x.op, .int .i64 x.d, .int .i64 x.a, .int .i64 x.b, .int .i64 x.n, v]) ⟨pV_fit b, ⟨_, rfl⟩, ⟨_, rfl⟩, ⟨_, rfl⟩, ⟨_, rfl⟩, ⟨_, rfl⟩, ⟨_, rfl⟩, hv.fit, trivial⟩ ?_
  have hpl := M.plen
  have rp : Reads h ((bp b).add 68) [pv] := M.tail_ (i := 0) rfl
  have rR : Reads h ((bp b).add 69) [.int .i64 R] := M.tail_ (i := 1) rfl
  have cK : ∀ {G : List Value} {k : Int} {c : Bool}, gv G 1 = .int .u8 x.kind → vb ((X.cmp .eql (.var 1) (.lit k)).den G) = c → decide (x.kind = k) = c := fun e h => by
    simpa only [X.den, e, vi_int, vb_bool, cmp_eql] using h
  refine ⟨fun _ => ⟨rfl, trivial⟩, h_load [pv] ⟨M.pfit, trivial⟩ (fun _ => rp) ?_⟩
  simp only [List.cons_append, List.nil_append]
  refine h_ite (fun c2 => ?_) (fun c2 => ?_)
  · have k2 := cK rfl c2; rw [decide_eq_true_eq] at k2
    obtain ⟨hd, ha⟩ := hp.k2 k2
    obtain ⟨w1, M1⟩ := M.setPlace hd (getP s x.a)
    refine ⟨fun _ => needI rfl hpl ha, h_load [.int .i64 (getP s x.a)] ⟨⟨_, rfl⟩, trivial⟩ (fun _ => M.place ha) ⟨fun _ => needI rfl hpl hd, h_store _ [.int .i64 (getP s x.a)] rfl rfl w1 ⟨rfl, ?_, ?_⟩⟩⟩
    · rw [stepM_2 k2]; rfl
    · rw [stepM_2 k2]; exact .of_left M1 hm
  have k2 := cK rfl c2; rw [decide_eq_false_iff_not] at k2
  refine h_ite (fun c7 => ?_) (fun c7 => ?_)
  · have k7 := cK rfl c7; rw [decide_eq_true_eq] at k7
    obtain ⟨hd, ha⟩ := hp.k7 k7
    obtain ⟨w1, M1⟩ := M.setPlace hd (getP s x.a)
    refine ⟨fun _ => ⟨rfl, trivial⟩, h_load [.int .i64 R] ⟨⟨_, rfl⟩, trivial⟩ (fun _ => rR) ⟨fun _ => needI rfl hpl ha, h_load [.int .i64 (getP s x.a)] ⟨⟨_, rfl⟩, trivial⟩ (fun _ => M.place ha) ⟨fun _ => needA rfl rfl hpl hd (by omega), h_store _ [.int .i64 (getP s x.a)] ?_ rfl w1 ⟨rfl, ?_, ?_⟩⟩⟩⟩
    · show (vaddr pv).add ((intOp .add .i64 R x.d).toNat * 1) = _
      rw [addr_add hd (by omega)]
    · rw [stepM_7 k7]; rfl
    · rw [stepM_7 k7]; exact .of_left M1 hm
  have k7 := cK rfl c7; rw [decide_eq_false_iff_not] at k7
  refine h_ite (fun c8 => ?_) (fun c8 => ?_)
  · have k8 := cK rfl c8; rw [decide_eq_true_eq] at k8
    obtain ⟨hd, ha⟩ := hp.k8 k8
    obtain ⟨w1, M1⟩ := M.setPlace hd (getP s (R + x.a))
    refine ⟨fun _ => ⟨rfl, trivial⟩, h_load [.int .i64 R] ⟨⟨_, rfl⟩, trivial⟩ (fun _ => rR) ⟨fun _ => needA rfl rfl hpl ha (by omega), h_load [.int .i64 (getP s (R + x.a))] ⟨⟨_, rfl⟩, trivial⟩ (fun _ => ?_) ⟨fun _ => needI rfl hpl hd, h_store _ [.int .i64 (getP s (R + x.a))] rfl rfl w1 ⟨rfl, ?_, ?_⟩⟩⟩⟩
    · show Reads h ((vaddr pv).add ((intOp .add .i64 R x.a).toNat * 1)) _
      rw [addr_add ha (by omega)]; exact M.place ha
    · rw [stepM_8 k8]; rfl
    · rw [stepM_8 k8]; exact .of_left M1 hm
  have k8 := cK rfl c8; rw [decide_eq_false_iff_not] at k8
  refine h_call0 (s80 M hlf) ?_
  rintro _ h1 ⟨rfl, M1⟩
  refine ⟨[.bool (!decide (s.left = 0))], ⟨⟨_, rfl⟩, trivial⟩, rfl, h_ite (fun hc => ?_) (fun hc => ?_)⟩
  · replace hc : (!(!decide (s.left = 0))) = true := hc
    have h0' : s.left = 0 := by simpa using hc
    rw [if_pos h0'] at M1
    refine ⟨rfl, ?_, ?_⟩
    · rw [stepM_0 ⟨k2, k7, k8⟩ h0']; rfl
    · rw [stepM_0 ⟨k2, k7, k8⟩ h0']; exact .of_left M1 hm
  replace hc : (!(!decide (s.left = 0))) = false := hc
  have hL : s.left ≠ 0 := by simpa using hc
  rw [if_neg hL] at M1
  simp only [List.cons_append, List.nil_append]
  have hst : ∀ k : Int, x.kind = k → k ≠ 2 → k ≠ 7 → k ≠ 8 → True := fun _ _ _ _ _ => trivial
  refine h_ite (fun c1 => ?_) (fun c1 => ?_)
  · have k1 := cK rfl c1; rw [decide_eq_true_eq] at k1
    have hd := hp.k1 k1
    obtain ⟨w1, M2⟩ := M1.setPlace hd x.n
    refine ⟨fun _ => needI rfl hpl hd, h_store _ [.int .i64 x.n] rfl rfl w1 ⟨rfl, ?_, ?_⟩⟩
    · rw [stepM_1 k1 hL]; rfl
    · rw [stepM_1 k1 hL]; exact .of_left M2 hm
  have k1 := cK rfl c1; rw [decide_eq_false_iff_not] at k1
  refine h_ite (fun c3 => ?_) (fun c3 => ?_)
  · have k3 := cK rfl c3; rw [decide_eq_true_eq] at k3
    obtain ⟨hd, ha, hb, -⟩ := hp.k3 k3
    have ga : ∀ i, getP { s with left := s.left - 1 } i = getP s i := fun _ => rfl
    refine ⟨fun _ => needI rfl hpl ha, h_load [.int .i64 (getP s x.a)] ⟨⟨_, rfl⟩, trivial⟩ (fun _ => M1.place ha) ⟨fun _ => needI rfl hpl hb, h_load [.int .i64 (getP s x.b)] ⟨⟨_, rfl⟩, trivial⟩ (fun _ => M1.place hb) (h_call0 (s81 (h := h1) x.op (getP s x.a) (getP s x.b)) ?_)⟩⟩
    rintro _ _ ⟨rfl, rfl⟩
    refine ⟨[.int .i64 ((binM x.op (getP s x.a) (getP s x.b)).getD 0), .bool (binM x.op (getP s x.a) (getP s x.b)).isSome], ⟨⟨_, rfl⟩, ⟨_, rfl⟩, trivial⟩, rfl, ?_⟩
    simp only [List.cons_append, List.nil_append]
    rw [stepM_3 k3 hL]
    cases hb2 : binM x.op (getP s x.a) (getP s x.b) with
    | none =>
      refine iteT rfl ⟨fun _ => ⟨rfl, trivial⟩, h_store ((bp b).add 0) [.int .i64 2] (by rw [show (0 : Nat) = 0 + 0 from rfl, ← add_add]; rfl) rfl (M1.wr (by simp [outC])) ⟨rfl, rfl, ?_⟩⟩
      exact .of_left (M1.setHow 2) hm
    | some q =>
      obtain ⟨w1, M2⟩ := M1.setPlace hd q
      exact iteF rfl ⟨fun _ => needI rfl hpl hd, h_store _ [.int .i64 q] rfl rfl w1 ⟨rfl, rfl, .of_left M2 hm⟩⟩
  have k3 := cK rfl c3; rw [decide_eq_false_iff_not] at k3
  refine h_ite (fun c4 => ?_) (fun c4 => ?_)
  · have k4 := cK rfl c4; rw [decide_eq_true_eq] at k4
    obtain ⟨hd, ha⟩ := hp.k4 k4
    have hw := (word_val (getP s x.a)).2
    refine ⟨fun _ => needI rfl hpl ha, h_load [.int .i64 (getP s x.a)] ⟨⟨_, rfl⟩, trivial⟩ (fun _ => M1.place ha) (h_call0 (s82 (h := h1) (b := b) (getP s x.a)) ?_)⟩
    rintro _ _ ⟨rfl, rfl⟩
    refine ⟨[.pointer (some ((bp b).add (3 + wordI (getP s x.a))))], ⟨⟨_, rfl⟩, trivial⟩, rfl, ⟨fun _ => ⟨rfl, trivial⟩, h_load [.int .i64 (s.mem.getD (wordI (getP s x.a)) 0)] ⟨⟨_, rfl⟩, trivial⟩ (fun _ => M1.mem_ hw) ?_⟩⟩
    obtain ⟨w1, M2⟩ := M1.setPlace hd (s.mem.getD (wordI (getP s x.a)) 0)
    refine ⟨fun _ => needI rfl hpl hd, h_store _ [.int .i64 (s.mem.getD (wordI (getP s x.a)) 0)] rfl rfl w1 ⟨rfl, ?_, ?_⟩⟩
    · rw [stepM_4 k4 hL]; rfl
    · rw [stepM_4 k4 hL]; exact .of_left M2 hm
  have k4 := cK rfl c4; rw [decide_eq_false_iff_not] at k4
  refine h_ite (fun c5 => ?_) (fun c5 => ?_)
  · have k5 := cK rfl c5; rw [decide_eq_true_eq] at k5
    obtain ⟨ha, hb⟩ := hp.k5 k5
    have hw := (word_val (getP s x.a)).2
    refine ⟨fun _ => needI rfl hpl ha, h_load [.int .i64 (getP s x.a)] ⟨⟨_, rfl⟩, trivial⟩ (fun _ => M1.place ha) ⟨fun _ => needI rfl hpl hb, h_load [.int .i64 (getP s x.b)] ⟨⟨_, rfl⟩, trivial⟩ (fun _ => M1.place hb) (h_call0 (s82 (h := h1) (b := b) (getP s x.a)) ?_)⟩⟩
    rintro _ _ ⟨rfl, rfl⟩
    refine ⟨[.pointer (some ((bp b).add (3 + wordI (getP s x.a))))], ⟨⟨_, rfl⟩, trivial⟩, rfl, ⟨fun _ => M1.place hb, fun _ => ⟨rfl, trivial⟩, h_store ((bp b).add (3 + wordI (getP s x.a))) [.int .i64 (getP s x.b)] rfl rfl (M1.wr ?_) ⟨rfl, ?_, ?_⟩⟩⟩
    · rw [List.length_append, outC_len M1.m64]; omega
    · rw [stepM_5 k5 hL]; rfl
    · rw [stepM_5 k5 hL]; exact .of_left (M1.setMem hw _) hm
  have k5 := cK rfl c5; rw [decide_eq_false_iff_not] at k5
  refine h_ite (fun c6 => ?_) (fun c6 => ⟨rfl, ?_, ?_⟩)
  · have k6 := cK rfl c6; rw [decide_eq_true_eq] at k6
    obtain ⟨hd, ha⟩ := hp.k6 k6
    refine h_call0 (s83 (s := { s with left := s.left - 1 }) (.of_left M1 hm) (x := x) hv ha hp.al hcl (by show 0 ≤ s.left - 1; omega)) ?_
    rintro _ h2 ⟨rfl, D2⟩
    obtain ⟨cv2, mv2, fC2, M2, hm2⟩ := D2.mc
    obtain ⟨w1, M3⟩ := M2.setPlace hd (s.more.headD 0)
    refine ⟨[.int .i64 (s.more.headD 0)], ⟨⟨_, rfl⟩, trivial⟩, rfl, ⟨fun _ => needI rfl hpl hd, h_store _ [.int .i64 (s.more.headD 0)] rfl rfl w1 ⟨rfl, ?_, ?_⟩⟩⟩
    · rw [stepM_6 k6 hL]; rfl
    · rw [stepM_6 k6 hL]; exact .of_left M3 hm2
  · have k6 := cK rfl c6; rw [decide_eq_false_iff_not] at k6
    rw [stepM_n ⟨k2, k7, k8⟩ k1 k3 k4 k5 k6 hL]; rfl
  · have k6 := cK rfl c6; rw [decide_eq_false_iff_not] at k6
    rw [stepM_n ⟨k2, k7, k8⟩ k1 k3 k4 k5 k6 hL]
    exact .of_left M1 hm
end
end Go.Proofs.YtbbicdfipheaeaaDoor

/-
  run.Do: how a run goes. Conditions: as each contract says.
-/
set_option linter.unusedVariables false
set_option linter.unusedSimpArgs false
namespace Go.Proofs.YtbbicdfipheaeaaDoor
open Go

theorem endS_0 {e : Fin4} {s : Rs} (hl : s.left = 0) : endS e s = ({ s with how := 3 }, none) := by unfold endS; rw [if_pos hl]
theorem endS_3 {e : Fin4} {s : Rs} (hl : s.left ≠ 0) (k : e.kind = 3) : endS e s = ({ s with left := s.left - 1, how := 1, value := getP s e.a }, none) := by unfold endS; rw [if_neg hl, if_pos k]
theorem endS_b {e : Fin4} {s : Rs} (hl : s.left ≠ 0) (k3 : e.kind ≠ 3) (k : e.kind = 2 ∧ getP s e.a = 0) : endS e s = ({ s with left := s.left - 1 }, some e.el) := by unfold endS; rw [if_neg hl, if_neg k3, if_pos k]
theorem endS_t {e : Fin4} {s : Rs} (hl : s.left ≠ 0) (k3 : e.kind ≠ 3) (k : ¬ (e.kind = 2 ∧ getP s e.a = 0)) : endS e s = ({ s with left := s.left - 1 }, some e.to) := by unfold endS; rw [if_neg hl, if_neg k3, if_neg k]
section
variable {h0 h : H} {b : Nat} {pv : Value} {fP : List Nat} {s : Rs} {R : Int}
theorem s78 (D : Dc h0 h b pv fP R s) {e : Fin4} {n : Nat} (hn : s.places.length = n) (hp : e.kind ≠ 1 → inN n e.a) (h123 : 1 ≤ e.kind ∧ e.kind ≤ 3) (hlf : 0 ≤ s.left ∧ s.left ≤ 10000000) :
    CallsA Tryd.prog 78 (fun _ => [pV b, .agg (endC e).toArray]) [] h (Ret fun r h' => r = .tuple #[.int .i64 ((endS e s).2.getD 0), .bool (endS e s).2.isSome] ∧ Dc h0 h' b pv fP R (endS e s).1) := by
  subst hn
  obtain ⟨cv, mv, fC, M, hm⟩ := D.mc
  refine c78 (G := [pV b, .int .u8 e.kind, .int .i64 e.a, .int .i64 e.to, .int .i64 e.el]) ⟨pV_fit b, ⟨_, rfl⟩, ⟨_, rfl⟩, ⟨_, rfl⟩, ⟨_, rfl⟩, trivial⟩ ?_
  have hpl := M.plen
  refine h_call0 (s80 M hlf) ?_
  rintro _ h1 ⟨rfl, M1⟩
  refine ⟨[.bool (!decide (s.left = 0))], ⟨⟨_, rfl⟩, trivial⟩, rfl, h_ite (fun hc => ?_) (fun hc => ?_)⟩
  · replace hc : (!(!decide (s.left = 0))) = true := hc
    have h0' : s.left = 0 := by simpa using hc
    rw [if_pos h0'] at M1
    rw [endS_0 h0']
    exact ⟨rfl, rfl, .of_left M1 hm⟩
  replace hc : (!(!decide (s.left = 0))) = false := hc
  have hL : s.left ≠ 0 := by simpa using hc
  rw [if_neg hL] at M1
  simp only [List.cons_append, List.nil_append]
  have rp : Reads h1 ((bp b).add 68) [pv] := M1.tail_ (i := 0) rfl
  refine h_ite (fun c3 => ?_) (fun c3 => ?_)
  · replace c3 : cmpOp .eql e.kind 3 = true := c3
    rw [cmp_eql, decide_eq_true_eq] at c3
    have ha := hp (by omega)
    rw [endS_3 hL c3]
    refine ⟨fun _ => ⟨rfl, trivial⟩, h_load [pv] ⟨M.pfit, trivial⟩ (fun _ => rp) ⟨fun _ => needI rfl hpl ha, h_load [.int .i64 (getP s e.a)] ⟨⟨_, rfl⟩, trivial⟩ (fun _ => M1.place ha) ⟨fun _ => ⟨rfl, trivial⟩, ?_⟩⟩⟩
    refine h_store ((bp b).add 0) [.int .i64 1] (by rw [show (0 : Nat) = 0 + 0 from rfl, ← add_add]; rfl) rfl (M1.wr (by simp [outC])) ⟨fun _ => ⟨rfl, trivial⟩, ?_⟩
    have M2 := M1.setHow 1
    refine h_store ((bp b).add 1) [.int .i64 (getP s e.a)] (by rw [show (1 : Nat) = 0 + 1 from rfl, ← add_add]; rfl) rfl (M2.wr (by simp [outC])) ⟨rfl, rfl, .of_left (M2.setValue _) hm⟩
  · replace c3 : cmpOp .eql e.kind 3 = false := c3
    rw [cmp_eql, decide_eq_false_iff_not] at c3
    have c2 : ∀ {G : List Value}, gv G 1 = .int .u8 e.kind → vb ((X.cmp .eql (.var 1) (.lit 2)).den G) = true → e.kind = 2 := fun e1 h => by
      simpa only [X.den, e1, vi_int, vb_bool, cmp_eql, decide_eq_true_eq] using h
    refine ⟨fun _ => ⟨rfl, trivial⟩, h_load [pv] ⟨M.pfit, trivial⟩ (fun _ => rp) ⟨fun c => needI rfl hpl (hp (by rw [c2 rfl c]; omega)), h_load [.int .i64 (getP s e.a)] ⟨⟨_, rfl⟩, trivial⟩ (fun c => M1.place (hp (by rw [c2 rfl c]; omega))) ⟨fun c => M1.place (hp (by rw [c2 rfl c]; omega)), fun _ => rp, ?_⟩⟩⟩
    simp only [List.cons_append, List.nil_append]
    refine h_ite (fun hc => ?_) (fun hc => ?_)
    · replace hc : vb (if cmpOp .eql e.kind 2 = true then Value.bool (cmpOp .eql (getP s e.a) 0) else .bool false) = true := hc
      rw [cmp_eql, cmp_eql] at hc
      have : e.kind = 2 ∧ getP s e.a = 0 := by by_cases q : e.kind = 2 <;> simp [q, vb] at hc <;> exact ⟨q, hc⟩
      rw [endS_b hL c3 this]
      exact ⟨rfl, rfl, .of_left M1 hm⟩
    · replace hc : vb (if cmpOp .eql e.kind 2 = true then Value.bool (cmpOp .eql (getP s e.a) 0) else .bool false) = false := hc
      rw [cmp_eql, cmp_eql] at hc
      have : ¬ (e.kind = 2 ∧ getP s e.a = 0) := fun q => by simp [q.1, q.2, vb] at hc
      rw [endS_t hL c3 this]
      exact ⟨rfl, rfl, .of_left M1 hm⟩
end
/-! ### How a run begins -/
def places0 (n first : Nat) (args : List Int) : List Int := List.replicate first 0 ++ args ++ List.replicate (n - first - args.length) 0
def mem0 (l : List Int) : List Int := l.take 64 ++ List.replicate (64 - l.length) 0
def start (n first : Nat) (args mem ans : List Int) (fuel : Int) : Rs := ⟨0, 0, [], mem0 mem, fuel, places0 n first args, ans⟩
theorem mem0_len (l : List Int) : (mem0 l).length = 64 := by simp [mem0]; omega
theorem places0_len {n first : Nat} {args : List Int} (h : first + args.length ≤ n) : (places0 n first args).length = n := by simp [places0]; omega
/-! ### A run keeps what it needs -/
structure Good (n : Nat) (F : Int) (s : Rs) : Prop where
  pl : s.places.length = n
  lf : 0 ≤ s.left ∧ (s.calls.length : Int) + s.left ≤ F
theorem stepM_good {n : Nat} {F R : Int} {x : Ins} {s : Rs} (g : Good n F s) : Good n F (stepM R x s).1 := by
  obtain ⟨g1, g2, g3⟩ := g
  have sp : ∀ (t : Rs) (i v : Int), t.places.length = n → 0 ≤ t.left → (t.calls.length : Int) + t.left ≤ F → Good n F (setP t i v) := fun t i v a b c => ⟨by simpa [setP] using a, b, c⟩
  unfold stepM
  split
  · exact sp _ _ _ g1 g2 g3
  · split
    · exact sp _ _ _ g1 g2 g3
    · split
      · exact sp _ _ _ g1 g2 g3
      · split
        · exact ⟨g1, g2, g3⟩
        · rename_i hl
          have a : 0 ≤ s.left - 1 := by omega
          split
          · exact sp _ _ _ g1 a (by show (s.calls.length : Int) + (s.left - 1) ≤ F; omega)
          · split
            · split
              · exact ⟨g1, a, by show (s.calls.length : Int) + (s.left - 1) ≤ F; omega⟩
              · exact sp _ _ _ g1 a (by show (s.calls.length : Int) + (s.left - 1) ≤ F; omega)
            · split
              · exact sp _ _ _ g1 a (by show (s.calls.length : Int) + (s.left - 1) ≤ F; omega)
              · split
                · exact ⟨g1, a, by show (s.calls.length : Int) + (s.left - 1) ≤ F; omega⟩
                · split
                  · refine sp _ _ _ g1 a ?_
                    simp only [List.length_append, List.length_cons, List.length_nil]; omega
                  · exact ⟨g1, a, by show (s.calls.length : Int) + (s.left - 1) ≤ F; omega⟩
theorem endS_good {n : Nat} {F : Int} {e : Fin4} {s : Rs} (g : Good n F s) : Good n F (endS e s).1 := by
  obtain ⟨g1, g2, g3⟩ := g
  unfold endS
  split
  · exact ⟨g1, g2, g3⟩
  · have a : 0 ≤ s.left - 1 := by omega
    split
    · exact ⟨g1, a, by show (s.calls.length : Int) + (s.left - 1) ≤ F; omega⟩
    · split
      · exact ⟨g1, a, by show (s.calls.length : Int) + (s.left - 1) ≤ F; omega⟩
      · exact ⟨g1, a, by show (s.calls.length : Int) + (s.left - 1) ≤ F; omega⟩
theorem endS_left {e : Fin4} {s t : Rs} {c : Int} (h : endS e s = (t, some c)) : s.left ≠ 0 ∧ t.left = s.left - 1 ∧ (c = e.to ∨ (c = e.el ∧ e.kind = 2)) ∧ e.kind ≠ 3 := by
  unfold endS at h
  split at h
  · cases h
  · split at h
    · cases h
    · split at h
      · rename_i h1 h2 h3; cases h; exact ⟨h1, rfl, .inr ⟨rfl, h3.1⟩, h2⟩
      · rename_i h1 h2 h3; cases h; exact ⟨h1, rfl, .inl rfl, h2⟩
theorem denL_svs {G xs : List Value} {shs : List Sh} {l : List SV} (hf : FitsL shs xs) (hl : l = Sh.svs G.length shs) : SV.denL (G ++ xs) dE l = xs := by
  rw [hl]; exact (svs_den (E := dE) hf).1
def outSh : List Sh := .int .i64 :: .int .i64 :: .sl :: (List.replicate 64 (.int .i64) ++ [.int .i64])
theorem fits_ints : ∀ (l : List Int) (m : List Value) (t : List Sh), FitsL t m → FitsL (List.replicate l.length (Sh.int .i64) ++ t) (l.map (Value.int .i64) ++ m)
  | [], m, t, h => h
  | x :: l, m, t, h => ⟨⟨_, rfl⟩, fits_ints l m t h⟩
theorem outC_fit {s : Rs} {cv : Value} (hm : s.mem.length = 64) (hc : Fits .sl cv) : FitsL outSh (outC s cv) := by
  refine ⟨⟨_, rfl⟩, ⟨_, rfl⟩, hc, ?_⟩
  have := fits_ints s.mem [.int .i64 s.left] [.int .i64] ⟨⟨_, rfl⟩, trivial⟩
  rw [hm] at this; exact this
/-- The output, handed out. -/
theorem Mc.out {e : TypeId} {tl : List Value} {h0 h : H} {b : Nat} {pv cv : Value} {fP fC : List Nat} {s : Rs} (M : Mc e tl h0 h b pv cv fP fC s) : Fits .sl cv := by obtain ⟨L, fr, _, _, h4, _⟩ := M.cl; exact h4.row0.fit
end Go.Proofs.YtbbicdfipheaeaaDoor

/-
  run.Do: from the beginning to the end of a run. Conditions: as each contract says.
-/
set_option linter.unusedVariables false
set_option linter.unusedSimpArgs false
namespace Go.Proofs.YtbbicdfipheaeaaDoor
open Go

theorem stepM_left {R : Int} {x : Ins} {s : Rs} : (stepM R x s).1.left ≤ s.left := by
  unfold stepM
  split
  · exact Int.le_refl _
  · split
    · exact Int.le_refl _
    · split
      · exact Int.le_refl _
      · split
        · exact Int.le_refl _
        · split
          · show s.left - 1 ≤ s.left; omega
          · split
            · split <;> (show s.left - 1 ≤ s.left; omega)
            · split
              · show s.left - 1 ≤ s.left; omega
              · split
                · show s.left - 1 ≤ s.left; omega
                · split <;> (show s.left - 1 ≤ s.left; omega)
/-- What a run hands out. -/
def OutR (h0 h' : H) (r : Value) (s : Rs) : Prop := ∃ cv fC, r = .agg (outC s cv).toArray ∧ s.mem.length = 64 ∧ SlF 123 2 CallF h' cv s.calls fC ∧ Fresh h0 fC ∧ fC.Nodup
theorem Mc.outR {e : TypeId} {tl : List Value} {h0 h : H} {b : Nat} {pv cv : Value} {fP fC : List Nat} {s : Rs} (M : Mc e tl h0 h b pv cv fP fC s) : OutR h0 h (.agg (outC s cv).toArray) s :=
  ⟨cv, fC, rfl, M.m64, M.cl, fun c hc => M.fr c (by simp [hc]), (List.nodup_append.1 (List.nodup_cons.1 M.nd).2).2.1⟩
def leftOf (b : Nat) (h : H) : Nat := match h.cell? ⟨b, 67, none⟩ with | some v => (vi v).toNat | none => 0
theorem Mc.leftOf {e : TypeId} {tl : List Value} {h0 h : H} {b : Nat} {pv cv : Value} {fP fC : List Nat} {s : Rs} (M : Mc e tl h0 h b pv cv fP fC s) : leftOf b h = s.left.toNat := by
  have := M.left_ 0 _ rfl
  rw [add_add, add_lit] at this
  unfold Go.Proofs.YtbbicdfipheaeaaDoor.leftOf
  rw [show (0 + (67 + 0) : Nat) = 67 from rfl] at this
  rw [this]; rfl
theorem Reads.add0 {h : H} {a : Addr} {l : List Value} (hr : Reads h a l) : Reads h (a.add 0) l := by rw [add_zero']; exact hr
theorem done_out {P : Program} {Q : Value → List (List Value) → H → Prop} {G xs : List Value} {L : Lv} {h : H} {l : List SV} (hf : FitsL outSh xs) (hl : l = Sh.svs G.length outSh) (hQ : Q (.agg xs.toArray) [] h) : holds P Q (.done (.agg l) []) (G ++ xs) L h := by
  show Q (.agg (SV.denL (G ++ xs) dE l).toArray) [] h
  rw [denL_svs hf hl]; exact hQ
section
variable {h0 h : H} {b : Nat} {pv : Value} {fP : List Nat} {R S first : Nat} {bv av mv nv : Value} {bs : List Blk} {args mem ans : List Int} {fuel : Int}
def Out.loopOf : Out → Out
  | .mk _ _ _ _ (.alloc _ _ _ (.load _ _ _ (.need _ _ (.bnd _ (.copy _ _ _ (.still _ _ _ (.bnd _ (.copy _ _ _ (.store _ _ k))))))))) => k
  | _ => .fail
theorem do_loop {Q : Value → List (List Value) → H → Prop} {g4 g11 g12 g13 g14 g1 g2 g3 g5 g6 g7 : Value} {s0 : Rs} (hb : BlksAt h0 bv bs) (hok : ∀ x ∈ bs, BlOk R ((R + S : Nat) : Int) bs.length x) (hb1 : 1 ≤ bs.length) (hb16 : bs.length ≤ 1000) (hn : R + S ≤ 1000)
    (D : Dc h0 h b pv fP R s0) (g0 : Good (R + S) 2000000 s0) (hQ : ∀ r h' t, Runs bs R 0 0 s0 t → KeptH h0 h' [] → OutR h0 h' r t → Q r [] h') :
    holds Tryd.prog Q (Out.loopOf t66) [bv, g1, g2, g3, g4, g5, g6, g7, pv, pV b, pv, g11, g12, g13, g14] [] h := by
  have hbl := hb.len
  refine h_loop (fun xs h' => ∃ (i : Int) (on : Bool) (s : Rs), xs = [.int .i64 i, .bool on] ∧ Dc h0 h' b pv fP R s ∧ Good (R + S) 2000000 s ∧
      (on = true → ∃ c : Nat, i = (c : Int) ∧ c < bs.length ∧ ∀ f, Runs bs R c 0 s f → Runs bs R 0 0 s0 f) ∧ (on = false → Runs bs R 0 0 s0 s))
    (fun xs h' => if vb (gv xs 1) = true then leftOf b h' + 1 else 0) ⟨0, true, s0, rfl, D, g0, fun _ => ⟨0, rfl, by omega, fun f hf => hf⟩, fun e => by cases e⟩ ?_
  rintro xs h1 J - ⟨i, on, s, rfl, D1, g1', hon, hoff⟩ hJ
  simp only [List.cons_append, List.nil_append]
  obtain ⟨cv1, mv1, fC1, M1, hm1⟩ := D1.mc
  refine h_ite (fun hc => ?_) (fun hc => ?_)
  rotate_left
  · replace hc : on = false := hc
    refine h_load (outC s cv1) (outC_fit M1.m64 M1.out) (fun _ => M1.outs.add0) ?_
    exact done_out (outC_fit M1.m64 M1.out) rfl (hQ _ h1 s (hoff hc) M1.kept M1.outR)
  replace hc : on = true := hc
  subst hc
  obtain ⟨c, rfl, hcb, hrun⟩ := hon rfl
  have hx : bs[c]? = some bs[c] := List.getElem?_eq_getElem hcb
  have hxm : bs[c] ∈ bs := List.getElem_mem _
  generalize bs[c] = x at hx hxm
  have hB := hok x hxm
  obtain ⟨_, ⟨w, rfl, hw⟩, hr⟩ := hb.get c x hx
  have hr1 : Reads h1 (((vaddr bv).add (c * 5)).add 0) [w] := (hr.le M1.kept.le_nil).sub fun j z hz => by obtain ⟨rfl, rfl⟩ := get_one hz; rfl
  have n1 : cmpOp .lss (c : Int) ((vlen bv : Nat) : Int) = true := by rw [hbl]; exact ltN hcb
  refine ⟨fun _ => ⟨ge0 c, n1, trivial⟩, h_load [w] ⟨hw.fit, trivial⟩ (fun _ => hr1) ?_⟩
  simp only [List.cons_append, List.nil_append]
  refine h_range (n := x.ins.length) (fun k h' => ∃ s', Dc h0 h' b pv fP R s' ∧ Good (R + S) 2000000 s' ∧ s'.left ≤ s.left ∧ ∀ f, Runs bs R c k s' f → Runs bs R 0 0 s0 f) hw.len (by omega) rfl (by have := hB.len; omega) ⟨s, D1, g1', Int.le_refl _, hrun⟩ ?_ ?_
  · rintro k h2 J2 hk ⟨s2, D2, g2', hle2, hrun2⟩ hJ2
    have hy : x.ins[k]? = some x.ins[k] := List.getElem?_eq_getElem hk
    have hym : x.ins[k] ∈ x.ins := List.getElem_mem _
    generalize x.ins[k] = y at hy hym
    have hp := hB.ins y hym
    obtain ⟨cv2, mv2, fC2, M2, hm2⟩ := D2.mc
    obtain ⟨_, ⟨u, rfl, hu⟩, hr2⟩ := hw.get k y hy
    refine h_load (insC y u) (insFit y u hu.fit) (fun _ => hr2.le M2.kept.le_nil) ?_
    have hl2 := g2'.lf
    refine h_call0 (s77 (n := R + S) D2 hu g2'.pl hp hn (by omega) (by omega) (by omega)) ?_
    rintro _ h3 ⟨rfl, D3⟩
    refine ⟨[.bool (stepM R y s2).2], ⟨⟨_, rfl⟩, trivial⟩, rfl, h_ite (fun hc => ?_) (fun hc => ?_)⟩
    · replace hc : (!(stepM R y s2).2) = true := hc
      have hf : (stepM R y s2).2 = false := by simpa using hc
      obtain ⟨cv3, mv3, fC3, M3, hm3⟩ := D3.mc
      refine h_load (outC (stepM R y s2).1 cv3) (outC_fit M3.m64 M3.out) (fun _ => M3.outs.add0) ?_
      exact done_out (outC_fit M3.m64 M3.out) rfl (hQ _ h3 _ (hrun2 _ (.stop hx hy (by rw [← hf]))) M3.kept M3.outR)
    · replace hc : (!(stepM R y s2).2) = false := hc
      have ht : (stepM R y s2).2 = true := by simpa using hc
      exact hJ2 _ ⟨_, D3, stepM_good g2', Int.le_trans stepM_left hle2, fun f hf => hrun2 f (.step hx hy (by rw [← ht]) hf)⟩
  · rintro h2 J2 ⟨s2, D2, g2', hle2, hrun2⟩
    obtain ⟨cv2, mv2, fC2, M2, hm2⟩ := D2.mc
    have hr2 : Reads h2 (((vaddr bv).add (c * 5)).add 1) (endC x.en) := (hr.le M2.kept.le_nil).sub fun j z hz => by rw [Nat.add_comm]; simpa using hz
    have hl2 := g2'.lf
    refine ⟨fun _ => ⟨ge0 c, n1, trivial⟩, h_load (endC x.en) (endFit x.en) (fun _ => hr2) (h_call0 (s78 D2 g2'.pl hB.en.1 hB.kd (by omega)) ?_)⟩
    rintro _ h3 ⟨rfl, D3⟩
    obtain ⟨cv3, mv3, fC3, M3, hm3⟩ := D3.mc
    refine ⟨[.int .i64 ((endS x.en s2).2.getD 0), .bool (endS x.en s2).2.isSome], ⟨⟨_, rfl⟩, ⟨_, rfl⟩, trivial⟩, rfl, ?_⟩
    refine again_of (xs := [.int .i64 ((endS x.en s2).2.getD 0), .bool (endS x.en s2).2.isSome]) (J := J) rfl rfl (hJ _ _ ⟨_, _, (endS x.en s2).1, rfl, D3, endS_good g2', fun ho => ?_, fun ho => ?_⟩ ?_)
    · obtain ⟨q, hq⟩ := Option.isSome_iff_exists.1 ho
      have he : endS x.en s2 = ((endS x.en s2).1, some q) := by rw [← hq]
      obtain ⟨e1, e2, e3, e4⟩ := endS_left he
      have hin : inN bs.length q := by
        rcases e3 with rfl | ⟨rfl, k2⟩
        · exact hB.en.2.1 e4
        · exact hB.en.2.2 k2
      refine ⟨q.toNat, by rw [hq]; show q = _; have := hin.1; omega, by have := hin.2; have := hin.1; omega, fun f hf => hrun2 f (.go hx rfl (c := q.toNat) (by rw [he]; congr 2; have := hin.1; omega) hf)⟩
    · have hq : (endS x.en s2).2 = none := by
        cases e : (endS x.en s2).2 with
        | none => rfl
        | some q => rw [e] at ho; cases ho
      exact hrun2 _ (.fin hx rfl (by rw [← hq]))
    · simp only [gv_zero, gv_succ, vb_bool, if_true]
      rw [M1.leftOf, M3.leftOf]
      cases e : (endS x.en s2).2 with
      | none => simp
      | some q =>
        have he : endS x.en s2 = ((endS x.en s2).1, some q) := by rw [← e]
        obtain ⟨e1, e2, _, _⟩ := endS_left he
        simp only [Option.isSome_some, if_true]
        rw [e2]
        omega
end
end Go.Proofs.YtbbicdfipheaeaaDoor

/-
  run.Do, whole. Conditions: as the contract says.
-/
set_option linter.unusedVariables false
set_option linter.unusedSimpArgs false
namespace Go.Proofs.YtbbicdfipheaeaaDoor
open Go

theorem h_alloc {P : Program} {R : Value → List (List Value) → H → Prop} {G : List Value} {L : Lv} {h : H} {e : TypeId} {l : List SV} {mk : NK} {k : Out} (cs : List Value) (hcs : SV.denL G dE l = cs) (hk : ∀ b, h b = none → holds P R k (G ++ [mk.val b]) L (h.put b (.cells cs.toArray e (0, 0)))) : holds P R (.alloc e l mk k) G L h := by
  subst hcs; exact hk
theorem repZ_int (m : Nat) : repZ [Value.int .i64 0] m = (List.replicate m (0 : Int)).map (.int .i64) := by
  unfold repZ
  simp only [List.length_cons, List.length_nil, Nat.zero_add, Nat.mul_one, List.map_replicate]
  apply List.ext_getElem?
  intro i
  rw [List.getElem?_map, List.getElem?_replicate]
  by_cases h : i < m
  · rw [List.getElem?_range h, if_pos h]; simp [Nat.mod_one]
  · rw [if_neg h, List.getElem?_eq_none (by simp; omega)]; rfl
theorem h_mkI {R : Value → List (List Value) → H → Prop} {G : List Value} {L : Lv} {h : H} {n : X} {k : Out} {m : Nat} (hn : vi (n.den G) = (m : Int)) (hm : m ≤ 100000)
    (hk : ∀ b, h b = none → holds Tryd.prog R k (G ++ [.slice (some ⟨b, 0, none⟩) m m]) L (h.put b (.cells ((List.replicate m (0 : Int)).map (Value.int .i64)).toArray 2 (0, 0)))) :
    holds Tryd.prog R (.mk 2 1 8 n k) G L h := by
  refine ⟨by rw [hn]; omega, by rw [hn]; omega, fun b hb => ?_⟩
  have := hk b hb
  rw [hn, Int.toNat_natCast, zeroI64, repZ_int]; exact this
theorem copy_ints {h : H} {sv : Value} {l : List Int} {ad : Addr} {m c : Nat} {K : Nat → H → Prop} (hs : IntsAt h sv l) (hw : Writable h ad (l.take m).length) (HK : K (l.take m).length (h.sets ad ((l.take m).map (.int .i64)))) :
    CopySpec h 1 (.slice (some ad) m c) sv K := by
  have hl := hs.len
  have hall := hs.all
  obtain ⟨a, n, cc, rfl, h1, h2⟩ := hs.fit
  simp only [vlen_sl] at hl
  have hmin : Nat.min n m = (l.take m).length := by rw [List.length_take, hl]; exact Nat.min_comm ..
  refine ⟨(l.take m).map (.int .i64), by rw [List.length_map, Nat.mul_one, hmin], fun ad' e i v hi => ?_, fun e => ?_, fun v hv => ?_, fun ad' e => ?_, fun e => (by cases e), ?_⟩
  · subst e
    refine hall i v ?_
    rw [List.getElem?_map] at hi ⊢
    rw [List.getElem?_take] at hi
    split at hi
    · exact hi
    · cases hi
  · obtain ⟨rfl, _⟩ := h1 e
    have : l = [] := List.eq_nil_of_length_eq_zero hl.symm
    rw [this]; simp
  · rw [List.mem_map] at hv
    obtain ⟨q, _, rfl⟩ := hv; rfl
  · cases e; rw [List.length_map]; exact hw
  · rw [hmin]; exact HK
theorem set_rep {h : H} {b n first : Nat} {l : List Int} {e : TypeId} (hb : h b = some (.cells ((List.replicate n (0 : Int)).map (Value.int .i64)).toArray e (0, 0))) (hl : first + l.length ≤ n) :
    (h.sets ((bp b).add first) (l.map (.int .i64))) b = some (.cells ((places0 n first l).map (Value.int .i64)).toArray e (0, 0)) ∧ ∀ c, c ≠ b → (h.sets ((bp b).add first) (l.map (.int .i64))) c = h c := by
  have hsp : (List.replicate n (0 : Int)).map (Value.int .i64) = (List.replicate first (0 : Int)).map (Value.int .i64) ++ (List.replicate l.length (0 : Int)).map (Value.int .i64) ++ (List.replicate (n - first - l.length) (0 : Int)).map (Value.int .i64) := by
    rw [← List.map_append, ← List.map_append, List.replicate_append_replicate, List.replicate_append_replicate, show first + l.length + (n - first - l.length) = n by omega]
  rw [hsp] at hb
  obtain ⟨s1, s2⟩ := sets_block (b := b) (e := e) (f := (0, 0)) (l.map (Value.int .i64)) h first _ _ _ (by simp) (by simp) hb
  rw [add_lit, Nat.zero_add]
  exact ⟨by rw [s1]; simp only [places0, List.map_append], s2⟩
theorem vi_add {R S : Nat} {G : List Value} {i j : Nat} (e1 : gv G i = .int .i64 (R : Int)) (e2 : gv G j = .int .i64 (S : Int)) (h : R + S ≤ 100000) : vi ((X.op .add .i64 (.var i) (.var j)).den G) = ((R + S : Nat) : Int) := by
  simp only [X.den, e1, e2, vi_int, intOp]; rw [wrap_i64 (by omega) (by omega)]; simp
theorem writable_at {h : H} {b k m : Nat} {L : List Value} {e : TypeId} (hb : h b = some (.cells L.toArray e (0, 0))) (hk : k + m ≤ L.length) : Writable h ((bp b).add k) m := by
  intro i hi
  rw [add_add, add_lit]
  unfold H.cell? H.frozen?
  rw [hb]
  simp; omega
theorem s66 {h : H} {bv av mv nv : Value} {bs : List Blk} {args mem ans : List Int} {R S first : Nat} {fuel : Int} (hb : BlksAt h bv bs) (ha : IntsAt h av args) (hm : IntsAt h mv mem) (hn : IntsAt h nv ans)
    (hok : ∀ x ∈ bs, BlOk R ((R + S : Nat) : Int) bs.length x) (hb1 : 1 ≤ bs.length) (hb16 : bs.length ≤ 1000) (hRS : R + S ≤ 1000) (hf : first + args.length ≤ R + S) (hfu : 0 ≤ fuel ∧ fuel ≤ 1100000) :
    CallsA Tryd.prog 66 (fun _ => [bv, .int .i64 (R : Int), .int .i64 (S : Int), .int .i64 (first : Int), .agg #[av, mv, nv, .int .i64 fuel]]) [] h (Ret fun r h' => KeptH h h' [] ∧ ∃ t, Runs bs R 0 0 (start (R + S) first args mem ans fuel) t ∧ OutR h h' r t) := by
  refine c66 (G := [bv, .int .i64 (R : Int), .int .i64 (S : Int), .int .i64 (first : Int), av, mv, nv, .int .i64 fuel]) ⟨hb.fit, ⟨_, rfl⟩, ⟨_, rfl⟩, ⟨_, rfl⟩, ha.fit, hm.fit, hn.fit, ⟨_, rfl⟩, trivial⟩ ?_
  refine h_mkI (m := R + S) (vi_add rfl rfl (by omega)) (by omega) fun pb hpb => ?_
  obtain ⟨n, hnd⟩ : ∃ n, n = R + S := ⟨_, rfl⟩
  rw [← hnd] at hRS hf hok ⊢
  obtain ⟨pv, hpv⟩ : ∃ pv, pv = Value.slice (some ⟨pb, 0, none⟩) n n := ⟨_, rfl⟩
  rw [← hpv]
  simp only [List.cons_append, List.nil_append]
  refine h_alloc (outC ⟨0, 0, [], List.replicate 64 0, 0, [], []⟩ (.slice none 0 0) ++ [pv, .int .i64 (R : Int), nv]) rfl fun b hbn => ?_
  have hbh : h b = none := H.le_none (H.le_put hpb) hbn
  have hbp : b ≠ pb := fun e => by rw [e, H.put_same] at hbn; cases hbn
  simp only [List.cons_append, List.nil_append]
  generalize hh1 : h.put pb (.cells ((List.replicate n (0 : Int)).map (Value.int .i64)).toArray 2 (0, 0)) = h1 at hbn ⊢
  have h1p : h1 pb = some (.cells ((List.replicate n (0 : Int)).map (Value.int .i64)).toArray 2 (0, 0)) := by rw [← hh1]; exact H.put_same
  have k1 : KeptH h h1 [] := by rw [← hh1]; exact KeptH.put hpb _
  generalize hO : outC ⟨0, 0, [], List.replicate 64 0, 0, [], []⟩ (.slice none 0 0) ++ [pv, .int .i64 (R : Int), nv] = O
  have hOl : O.length = 71 := by rw [← hO]; rfl
  have hO68 : O[68]? = some pv := by rw [← hO]; rfl
  generalize hh2 : h1.put b (.cells O.toArray 134 (0, 0)) = h2
  have h2b : h2 b = some (.cells O.toArray 134 (0, 0)) := by rw [← hh2]; exact H.put_same
  have h2p : h2 pb = some (.cells ((List.replicate n (0 : Int)).map (Value.int .i64)).toArray 2 (0, 0)) := by rw [← hh2, H.put_other hbp.symm]; exact h1p
  have k2 : KeptH h h2 [] := by rw [← hh2]; exact k1.trans_nil (KeptH.put hbn []) (fun c hc => by cases hc)
  have rd : ∀ {g : H}, g b = h2 b → Reads g ((bp b).add 68) [pv] := fun e i v hi => by
    obtain ⟨rfl, rfl⟩ := get_one hi
    rw [add_add, add_lit]; unfold H.cell?; rw [e, h2b]; simpa using hO68
  have hpf : Fits .sl pv := by rw [hpv]; exact ⟨_, _, _, rfl, (fun e => by cases e), Nat.le_refl _⟩
  refine h_load [pv] ⟨hpf, trivial⟩ (fun _ => rd rfl) ⟨fun _ => ⟨ge0 first, ?_, trivial⟩, ?_⟩
  · show cmpOp .leq (first : Int) ((vlen pv : Nat) : Int) = true
    rw [hpv, vlen_sl, cmp_leq, decide_eq_true_eq]; omega
  intro w11 hw11
  replace hw11 : w11 = sliceV pv first n 1 := by rw [hw11, hpv]; rfl
  simp only [List.cons_append, List.nil_append]
  have hcopy : ∀ K : Nat → H → Prop, (∀ h3, h3 pb = some (.cells ((places0 n first args).map (Value.int .i64)).toArray 2 (0, 0)) → (∀ c, c ≠ pb → h3 c = h2 c) → K args.length h3) → CopySpec h2 1 w11 av K := fun K HK => by
    have htk : args.take (n - first) = args := List.take_of_length_le (by omega)
    rw [hw11, hpv]
    by_cases hnf : n = first
    · have hnil : args = [] := List.eq_nil_of_length_eq_zero (by omega)
      simp only [sliceV, if_pos hnf]
      refine copy_ints (ha.le k2.le_nil) ?_ ?_
      · rw [hnil]; intro i hi; simp at hi
      · rw [htk]
        have e0 : h2.sets ⟨pb, 0, none⟩ (args.map (.int .i64)) = h2 := by rw [hnil]; rfl
        rw [e0]
        refine HK h2 ?_ (fun c hc => rfl)
        rw [h2p, hnil]
        congr 3
        simp [places0, hnf]
    · simp only [sliceV, if_neg hnf, Option.map_some, Nat.mul_one]
      refine copy_ints (ha.le k2.le_nil) ?_ ?_
      · rw [htk]; exact writable_at h2p (by simp; omega)
      · rw [htk]
        obtain ⟨s1, s2⟩ := set_rep h2p (l := args) hf
        exact HK _ s1 s2
  refine hcopy _ fun h3 h3p h3o => ?_
  have h3b : h3 b = h2 b := h3o b hbp
  have k3 : KeptH h h3 [] := k2.trans_nil (f := [pb]) (fun c hc _ => h3o c fun e => hc (by rw [e]; simp)) (fun c hc => by rw [List.mem_singleton] at hc; subst hc; exact hpb)
  refine ⟨fun _ => rd h3b, ?_⟩
  intro w13 hw13
  replace hw13 : w13 = .slice (some ((bp b).add 3)) 64 64 := by
    rw [hw13]
    show Value.slice (some ((((bp b).add 0).add 3).add 0)) 64 64 = _
    rw [add_zero', add_zero']
  simp only [List.cons_append, List.nil_append]
  show CopySpec h3 1 w13 mv _
  rw [hw13]
  refine copy_ints (hm.le k3.le_nil) (writable_at (h3b.trans h2b) (by rw [hOl, List.length_take]; omega)) ?_
  have hL : (mem.take 64).length ≤ 64 := by rw [List.length_take]; omega
  have hOs : O = [Value.int .i64 0, .int .i64 0, .slice none 0 0] ++ (List.replicate (mem.take 64).length (0 : Int)).map (Value.int .i64) ++ ((List.replicate (64 - (mem.take 64).length) (0 : Int)).map (Value.int .i64) ++ ([.int .i64 0] ++ [pv, .int .i64 (R : Int), nv])) := by
    rw [← hO]
    have : (List.replicate 64 (0 : Int)) = List.replicate (mem.take 64).length 0 ++ List.replicate (64 - (mem.take 64).length) 0 := by rw [List.replicate_append_replicate, show (mem.take 64).length + (64 - (mem.take 64).length) = 64 by omega]
    simp only [outC]
    rw [this, List.map_append]
    simp only [List.append_assoc, List.cons_append, List.nil_append]
  have h3b' : h3 b = some (.cells O.toArray 134 (0, 0)) := h3b.trans h2b
  rw [hOs] at h3b'
  obtain ⟨s1, s2⟩ := sets_block (b := b) (e := 134) (f := (0, 0)) ((mem.take 64).map (Value.int .i64)) h3 3 _ _ _ rfl (by simp) h3b'
  have ea : (bp b).add 3 = ⟨b, 3, none⟩ := by rw [add_lit]
  rw [← ea] at s1 s2
  generalize hh4 : h3.sets ((bp b).add 3) ((mem.take 64).map (Value.int .i64)) = h4 at s1 s2 ⊢
  have M4 : Mc 134 [pv, .int .i64 (R : Int), nv] h h4 b pv (.slice none 0 0) [pb] [] { start n first args mem ans fuel with left := 0 } := by
    refine ⟨?_, mem0_len _, .inr ⟨pb, n, n, [], hpv, ?_, ?_, by simp, Nat.le_refl _, rfl⟩, SlF.nil, by simp [hbp], fun c hc => ?_, ?_⟩
    · rw [s1]
      congr 3
      simp only [outC, start, mem0, List.map_append, List.append_assoc, List.cons_append, List.nil_append, List.length_take]
      rw [show 64 - min 64 mem.length = 64 - mem.length by omega]
    · rw [s2 pb hbp.symm, h3p, List.append_nil]; rfl
    · have := places0_len (n := n) (first := first) (args := args) hf
      simp only [start, List.length_map]
      rw [this]; omega
    · simp only [List.append_nil, List.mem_cons, List.not_mem_nil, or_false] at hc
      rcases hc with rfl | rfl
      · exact hbh
      · exact hpb
    · exact k3.trans_nil (f := [b]) (fun c hc _ => s2 c fun e => hc (by rw [e]; simp)) (fun c hc => by rw [List.mem_singleton] at hc; subst hc; exact hbh)
  have M5 := M4.setLeft fuel
  refine h_store ((bp b).add 67) [.int .i64 fuel] (by rw [show (67 : Nat) = 0 + 67 from rfl, ← add_add]; rfl) rfl (M4.wr (by rw [List.length_append, outC_len M4.m64]; simp)) ?_
  simp only [List.cons_append, List.nil_append]
  subst hnd
  exact do_loop (S := S) hb hok hb1 hb16 hRS ⟨_, _, _, M5, hn⟩ ⟨places0_len hf, by simp only [start, List.length_nil]; omega⟩ fun r h' t hr hk ho => ⟨rfl, hk, t, hr, ho⟩
end Go.Proofs.YtbbicdfipheaeaaDoor
