/-
  The evaluator's values and states, and what a state says of a frame and a memory. Conditions: none (definitions and plain lemmas).
-/
import Derived.Test.YtibdneedfopcoaaEv0
set_option linter.unusedVariables false
set_option linter.unusedSimpArgs false
namespace Go.Proofs.Ytibdneedfopcoaa
open Go

/-! ### Places outside the function's own chunks -/
inductive PE where
  | var (i : Nat)
  | fld (e : PE) (n : Nat)
  | idx (e : PE) (i : X) (sz : Nat)
  deriving Inhabited
def PE.den (G : List Value) : PE → Addr
  | .var i => vaddr (gv G i)
  | .fld e n => (e.den G).add n
  | .idx e i sz => (e.den G).add ((vi (i.den G)).toNat * sz)
def PE.beq : PE → PE → Bool
  | .var i, .var j => i.beq j
  | .fld a n, .fld b m => a.beq b && n.beq m
  | .idx a i n, .idx b j m => a.beq b && i.beq j && n.beq m
  | _, _ => false
theorem PE.beq_eq : ∀ {a b : PE}, a.beq b = true → a = b := by
  intro a
  induction a <;> intro b h <;> cases b <;> simp only [PE.beq, Bool.and_eq_true, Bool.false_eq_true, Nat.beq_eq] at h
  case var.var => rw [h]
  case fld.fld ih _ _ => rw [ih h.1, h.2]
  case idx.idx ih _ _ _ => rw [ih h.1.1, X.beq_eq h.1.2, h.2]
def PE.sc (n : Nat) : PE → Bool
  | .var i => Nat.blt i n
  | .fld e _ => e.sc n
  | .idx e i _ => e.sc n && i.sc n
theorem PE.den_append {G D : List Value} : ∀ {e : PE}, e.sc G.length = true → e.den (G ++ D) = e.den G := by
  intro e
  induction e <;> intro h <;> simp only [PE.sc, Bool.and_eq_true, Nat.blt_eq] at h <;> simp only [PE.den]
  case var => rw [gv_append h]
  case fld ih => rw [ih h]
  case idx ih => rw [ih h.1, X.den_append h.2]

/-! ### Values -/
inductive SV where
  | und
  | int (k : IntKind) (e : X)
  | bool (e : X)
  | str (e : X)
  | ptr (p : PE)
  | loc (l off : Nat)
  | val (i : Nat)
  | cst (v : Value)
  | lsl (l len cap : Nat)
  | fn (f : Fn) (a b : List SV)
  | agg (l : List SV)
  | tup (l : List SV)
  | gd (g : X) (s : SV)
  deriving Inhabited

/-- Where a chunk lies: in a block, behind and ahead of other cells. -/
structure CE where
  blk : Nat
  pre : List Value
  post : List Value
  elem : TypeId
  fr : Nat × Nat
  deriving Inhabited
def CE.at (c : CE) (off : Nat) : Addr := ⟨c.blk, c.pre.length + off, none⟩
def CE.ptr (c : CE) (off : Nat) : Value := .pointer (some (c.at off))

mutual
def SV.den (G : List Value) (E : Nat → CE) : SV → Value
  | .und => undef
  | .int k e => .int k (vi (e.den G))
  | .bool e => .bool (vb (e.den G))
  | .str e => .string (vs (e.den G))
  | .ptr p => .pointer (some (p.den G))
  | .loc l off => (E l).ptr off
  | .val i => gv G i
  | .cst v => v
  | .lsl l n c => .slice (some ((E l).at 0)) n c
  | .fn f a b => .func f (SV.denL G E a).toArray (SV.denL G E b).toArray
  | .agg l => .agg (SV.denL G E l).toArray
  | .tup l => .tuple (SV.denL G E l).toArray
  | .gd _ s => s.den G E
def SV.denL (G : List Value) (E : Nat → CE) : List SV → List Value
  | [] => []
  | s :: l => s.den G E :: SV.denL G E l
end
theorem SV.denL_eq (G : List Value) (E : Nat → CE) (l : List SV) : SV.denL G E l = l.map (SV.den G E) := by
  induction l with
  | nil => simp [SV.denL]
  | cons s l ih => simp [SV.denL, ih]

mutual
def SV.beq : SV → SV → Bool
  | .und, .und => true
  | .int k a, .int k' b => beqIK k k' && a.beq b
  | .bool a, .bool b => a.beq b
  | .str a, .str b => a.beq b
  | .ptr a, .ptr b => a.beq b
  | .loc l o, .loc l' o' => l.beq l' && o.beq o'
  | .val i, .val j => i.beq j
  | .lsl l n c, .lsl l' n' c' => l.beq l' && n.beq n' && c.beq c'
  | .cst (.pointer none), .cst (.pointer none) => true
  | .cst (.slice none 0 0), .cst (.slice none 0 0) => true
  | .cst (.map none), .cst (.map none) => true
  | .cst .nilFunc, .cst .nilFunc => true
  | .fn (.func f) a b, .fn (.func g) c d => f.beq g && SV.beqL a c && SV.beqL b d
  | .agg l, .agg m => SV.beqL l m
  | .tup l, .tup m => SV.beqL l m
  | .gd g s, .gd h t => g.beq h && s.beq t
  | _, _ => false
def SV.beqL : List SV → List SV → Bool
  | [], [] => true
  | a :: l, b :: m => a.beq b && SV.beqL l m
  | _, _ => false
end
mutual
theorem SV.beq_eq : ∀ (a b : SV), a.beq b = true → a = b := by
  intro a b h
  unfold SV.beq at h
  split at h <;> (try simp only [Bool.and_eq_true, Bool.false_eq_true, Nat.beq_eq] at h) <;> try rfl
  · rw [beqIK_eq h.1, X.beq_eq h.2]
  · rw [X.beq_eq h]
  · rw [X.beq_eq h]
  · rw [PE.beq_eq h]
  · rw [h.1, h.2]
  · rw [h]
  · rw [h.1.1, h.1.2, h.2]
  · rw [h.1.1, SV.beqL_eq _ _ h.1.2, SV.beqL_eq _ _ h.2]
  · rw [SV.beqL_eq _ _ h]
  · rw [SV.beqL_eq _ _ h]
  · rw [X.beq_eq h.1, SV.beq_eq _ _ h.2]
theorem SV.beqL_eq : ∀ (a b : List SV), SV.beqL a b = true → a = b := by
  intro a b h
  unfold SV.beqL at h
  split at h <;> (try simp only [Bool.and_eq_true, Bool.false_eq_true] at h)
  · rfl
  · rw [SV.beq_eq _ _ h.1, SV.beqL_eq _ _ h.2]
end

mutual
def SV.sc (n : Nat) : SV → Bool
  | .und | .loc .. | .cst _ | .lsl .. => true
  | .int _ e | .bool e | .str e => e.sc n
  | .ptr p => p.sc n
  | .val i => Nat.blt i n
  | .fn _ a b => SV.scL n a && SV.scL n b
  | .agg l | .tup l => SV.scL n l
  | .gd g s => g.sc n && s.sc n
def SV.scL (n : Nat) : List SV → Bool
  | [] => true
  | s :: l => s.sc n && SV.scL n l
end
mutual
theorem SV.den_append {G D : List Value} {E : Nat → CE} : ∀ (s : SV), s.sc G.length = true → s.den (G ++ D) E = s.den G E := by
  intro s h
  cases s <;> simp only [SV.sc, Bool.and_eq_true, Nat.blt_eq] at h <;> simp only [SV.den]
  case int => rw [X.den_append h]
  case bool => rw [X.den_append h]
  case str => rw [X.den_append h]
  case ptr => rw [PE.den_append h]
  case val => rw [gv_append h]
  case fn a b => rw [SV.denL_append a h.1, SV.denL_append b h.2]
  case agg l => rw [SV.denL_append l h]
  case tup l => rw [SV.denL_append l h]
  case gd g s => exact SV.den_append s h.2
theorem SV.denL_append {G D : List Value} {E : Nat → CE} : ∀ (l : List SV), SV.scL G.length l = true → SV.denL (G ++ D) E l = SV.denL G E l := by
  intro l h
  cases l with
  | nil => simp [SV.denL]
  | cons s l =>
    simp only [SV.scL, Bool.and_eq_true] at h
    simp only [SV.denL]
    rw [SV.den_append s h.1, SV.denL_append l h.2]
end

-- Which chunks a value names: none of those that fail the test.
mutual
def SV.refs (f : Nat → Bool) : SV → Bool
  | .loc l _ | .lsl l _ _ => f l
  | .fn _ a b => SV.refsL f a && SV.refsL f b
  | .agg l | .tup l => SV.refsL f l
  | .gd _ s => s.refs f
  | _ => true
def SV.refsL (f : Nat → Bool) : List SV → Bool
  | [] => true
  | s :: l => s.refs f && SV.refsL f l
end
mutual
theorem SV.den_env {G : List Value} {E F : Nat → CE} {f : Nat → Bool} (hf : ∀ l, f l = true → E l = F l) : ∀ (s : SV), s.refs f = true → s.den G E = s.den G F := by
  intro s h
  cases s <;> simp only [SV.refs, Bool.and_eq_true] at h <;> simp only [SV.den]
  case loc l off => rw [hf l h]
  case lsl l n c => rw [hf l h]
  case fn a b => rw [SV.denL_env hf a h.1, SV.denL_env hf b h.2]
  case agg l => rw [SV.denL_env hf l h]
  case tup l => rw [SV.denL_env hf l h]
  case gd g s => exact SV.den_env hf s h
theorem SV.denL_env {G : List Value} {E F : Nat → CE} {f : Nat → Bool} (hf : ∀ l, f l = true → E l = F l) : ∀ (l : List SV), SV.refsL f l = true → SV.denL G E l = SV.denL G F l := by
  intro l h
  cases l with
  | nil => simp [SV.denL]
  | cons s l =>
    simp only [SV.refsL, Bool.and_eq_true] at h
    simp only [SV.denL]
    rw [SV.den_env hf s h.1, SV.denL_env hf l h.2]
end

/-- A value of one cell, by its form. -/
def SV.one : SV → Bool
  | .int .. | .bool _ | .str _ | .ptr _ | .loc .. | .lsl .. | .fn .. => true
  | .cst (.pointer none) | .cst (.slice none 0 0) | .cst (.map none) | .cst .nilFunc | .cst .nilIface => true
  | _ => false
def SV.ofV1 : Value → SV
  | .int k n => .int k (.lit n)
  | .bool b => .bool (.tt b)
  | .string s => .str (.str s)
  | .func f a b => if a.isEmpty && b.isEmpty then .fn f [] [] else .cst (.func f a b)
  | v => .cst v
theorem SV.ofV1_den (G : List Value) (E : Nat → CE) (v : Value) : (SV.ofV1 v).den G E = v := by
  unfold SV.ofV1
  split <;> try rfl
  split
  · rename_i h
    simp only [Bool.and_eq_true, Array.isEmpty_iff] at h
    rw [h.1, h.2]; rfl
  · rfl
def SV.ofV : Value → SV
  | .agg cs => .agg (cs.toList.map SV.ofV1)
  | v => .ofV1 v
theorem SV.ofV_den (G : List Value) (E : Nat → CE) (v : Value) : (SV.ofV v).den G E = v := by
  unfold SV.ofV
  split
  · simp only [SV.den, SV.denL_eq, List.map_map]
    have : (SV.den G E ∘ SV.ofV1) = id := funext fun v => SV.ofV1_den G E v
    rw [this]; simp
  · exact SV.ofV1_den G E v
def SV.cells : SV → List SV
  | .agg l => l
  | s => [s]

/-! ### Shapes of what is named -/
inductive Sh where
  | int (k : IntKind) | bool | str | sl | ptr | map | fn | any
  deriving Inhabited
def Fits : Sh → Value → Prop
  | .int k, v => ∃ n, v = .int k n
  | .bool, v => ∃ b, v = .bool b
  | .str, v => ∃ s, v = .string s
  | .sl, v => ∃ a n c, v = .slice a n c ∧ (a = none → n = 0 ∧ c = 0) ∧ n ≤ c
  | .ptr, v => ∃ a, v = .pointer a
  | .map, v => ∃ r, v = .map r
  | .fn, v => v = .nilFunc ∨ ∃ f a b, v = .func f a b
  | .any, _ => True
def FitsL : List Sh → List Value → Prop
  | [], [] => True
  | s :: l, v :: m => Fits s v ∧ FitsL l m
  | _, _ => False
theorem FitsL.length : ∀ {l : List Sh} {m : List Value}, FitsL l m → l.length = m.length
  | [], [], _ => rfl
  | _ :: _, _ :: _, h => by simp [FitsL.length h.2]
theorem FitsL.append : ∀ {l : List Sh} {m : List Value} {l' : List Sh} {m' : List Value}, FitsL l m → FitsL l' m' → FitsL (l ++ l') (m ++ m')
  | [], [], _, _, _, h => h
  | _ :: _, _ :: _, _, _, h, h' => ⟨h.1, FitsL.append h.2 h'⟩
theorem FitsL.get : ∀ {l : List Sh} {m : List Value} {i : Nat} {s : Sh}, FitsL l m → l[i]? = some s → Fits s (gv m i)
  | [], _, _, _, _, h => by simp at h
  | s :: l, v :: m, 0, t, h, e => by simp at e; subst e; exact h.1
  | s :: l, v :: m, i + 1, t, h, e => FitsL.get (i := i) h.2 (by simpa using e)
def Sh.sv (i : Nat) : Sh → SV
  | .int k => .int k (.var i)
  | .bool => .bool (.var i)
  | .str => .str (.var i)
  | _ => .val i
theorem Sh.sv_den {G : List Value} {E : Nat → CE} {i : Nat} {s : Sh} (h : Fits s (gv G i)) : (s.sv i).den G E = gv G i := by
  cases s <;> simp only [Sh.sv, SV.den, X.den]
  · obtain ⟨n, h⟩ := h; rw [h]; rfl
  · obtain ⟨n, h⟩ := h; rw [h]; rfl
  · obtain ⟨n, h⟩ := h; rw [h]; rfl
def Sh.svs (i : Nat) : List Sh → List SV
  | [] => []
  | s :: l => s.sv i :: Sh.svs (i + 1) l

/-! ### Memory outside the chunks -/
abbrev H := Nat → Option Obj
def H.sub (h : H) (w : World) : Prop := ∀ b o, h b = some o → w.heap[b]? = some o
def H.cell? (h : H) (a : Addr) : Option Value :=
  match h a.block with
  | some (.cells c _ _) => if a.spot.isSome then none else c[a.off]?
  | _ => none
def H.frozen? (h : H) (a : Addr) : Bool :=
  match h a.block with
  | some (.cells _ _ (lo, hi)) => lo ≤ a.off && a.off < hi
  | _ => false
def H.set (h : H) (a : Addr) (v : Value) : H := fun b =>
  if b = a.block then (match h b with
    | some (.cells c e f) => some (.cells (if a.spot.isSome then c else c.setIfInBounds a.off v) e f)
    | o => o) else h b
def H.put (h : H) (b : Nat) (o : Obj) : H := fun c => if c = b then some o else h c
theorem H.sub_cell {h : H} {w : World} (hs : h.sub w) {a : Addr} {v : Value} (hc : h.cell? a = some v) : w.cell? a = some v := by
  unfold H.cell? at hc
  unfold World.cell?
  split at hc
  · rename_i c e f hb
    rw [hs _ _ hb]; exact hc
  · cases hc

/-! ### States -/
structure St where
  t : List SV
  ch : List (Nat × List SV)
  sh : List Sh
  kn : List (X × Bool)
  deriving Inhabited

/-- What a value of a state says. -/
def Rel (G : List Value) (E : Nat → CE) (v : Value) : SV → Prop
  | .und => True
  | .gd g s => if vb (g.den G) then v = s.den G E else v = undef
  | s => v = s.den G E
theorem Rel.mk {G : List Value} {E : Nat → CE} (s : SV) (h : ∀ g t, s ≠ .gd g t) : Rel G E (s.den G E) s := by
  unfold Rel
  split
  · trivial
  · exact absurd rfl (h _ _)
  · rfl
def RelL (G : List Value) (E : Nat → CE) : List Value → List SV → Prop
  | [], [] => True
  | v :: l, s :: m => Rel G E v s ∧ RelL G E l m
  | _, _ => False
def CE.free (c : CE) (n : Nat) : Prop := ∀ i, i < n → ¬ (c.fr.1 ≤ c.pre.length + i ∧ c.pre.length + i < c.fr.2)
/-- A chunk lies in memory. -/
def CE.holds (c : CE) (G : List Value) (E : Nat → CE) (cells : List SV) (w : World) : Prop :=
  c.free cells.length ∧ ∃ l, w.heap[c.blk]? = some (.cells (c.pre ++ l ++ c.post).toArray c.elem c.fr) ∧ RelL G E l cells

/-- How a call began: the world, what was known of its memory, the chunks that came in. -/
structure Beg where
  w : World
  h : H
  E : List CE
  G0 : List Value
def Beg.in (B : Beg) (b : Nat) : Prop := ∃ c ∈ B.E, c.blk = b
/-- What else there is stays as it was. -/
structure Frm (B : Beg) (h : H) (w : World) : Prop where
  size : B.w.heap.size ≤ w.heap.size
  os : w.os = B.w.os
  tape : w.tape = B.w.tape
  out : w.output = B.w.output
  keep : ∀ b, b < B.w.heap.size → B.h b = none → ¬ B.in b → w.heap[b]? = B.w.heap[b]? ∧ h b = none
/-- The keys of chunks that came in. -/
def pkey (i : Nat) : Nat := 1000000 + i
/-- What a state says of the frame. -/
structure SatA (G : List Value) (E : Nat → CE) (st : St) (a : Act) : Prop where
  size : st.t.length = a.tmps.size
  tmps : ∀ i s, st.t[i]? = some s → Rel G E (a.tmps.getD i undef) s
  nodef : a.defers = []
  fits : FitsL st.sh G
  kn : ∀ x b, (x, b) ∈ st.kn → vb (x.den G) = b
/-- What a state says of the memory. -/
structure SatW (B : Beg) (G : List Value) (E : Nat → CE) (h : H) (ch : List (Nat × List SV)) (w : World) : Prop where
  chunks : ∀ k cs, (k, cs) ∈ ch → (E k).holds G E cs w
  hid : ∀ k cs, (k, cs) ∈ ch → h (E k).blk = none
  dist : ch.Pairwise fun x y => (E x.1).blk ≠ (E y.1).blk
  own : ∀ k cs, (k, cs) ∈ ch → B.in (E k).blk ∨ B.w.heap.size ≤ (E k).blk
  par : ∀ i c, B.E[i]? = some c → E (pkey i) = c
  hsub : h.sub w
  frm : Frm B h w
  pre : B.G0 <+: G
end Go.Proofs.Ytibdneedfopcoaa
