/-
  The words of a small evaluator of the model's code by symbols (expressions, values, chunks of memory) and what they stand for. Conditions: none (definitions and plain lemmas).
-/
import Derived.Calls
import Derived.Orders
import Derived.Tactics
import Derived.KernelRfl
import Derived.Laws.Cells
import Derived.Laws.Sem
import Derived.Laws.Entries
import Derived.Laws.BytesArg
import Derived.MapKept
import Derived.Laws.StructEq
import Derived.ChangeKeysEq
set_option linter.unusedVariables false
set_option linter.unusedSimpArgs false
namespace Go.Proofs.YtbgfabppmobpgaaDoor
open Go

/-! ### Expressions -/
def vi : Value → Int | .int _ n => n | _ => 0
def vb : Value → Bool | .bool b => b | _ => false
def vs : Value → ByteArray | .string s => s | _ => ByteArray.empty
def vlen : Value → Nat | .slice _ n _ => n | .string s => s.size | _ => 0
def vcap : Value → Nat | .slice _ _ c => c | _ => 0
def vaddr : Value → Addr | .pointer (some a) => a | .slice (some a) _ _ => a | _ => default
def vnil : Value → Bool | .pointer none => true | .slice none _ _ => true | .map none => true | .nilFunc => true | .nilIface => true | _ => false
@[simp] theorem vi_int (k : IntKind) (n : Int) : vi (.int k n) = n := rfl
@[simp] theorem vb_bool (b : Bool) : vb (.bool b) = b := rfl
@[simp] theorem vs_str (s : ByteArray) : vs (.string s) = s := rfl
@[simp] theorem vlen_sl (a : Option Addr) (n c : Nat) : vlen (.slice a n c) = n := rfl
@[simp] theorem vlen_str (s : ByteArray) : vlen (.string s) = s.size := rfl
@[simp] theorem vcap_sl (a : Option Addr) (n c : Nat) : vcap (.slice a n c) = c := rfl
@[simp] theorem vaddr_ptr (a : Addr) : vaddr (.pointer (some a)) = a := rfl
@[simp] theorem vaddr_sl (a : Addr) (n c : Nat) : vaddr (.slice (some a) n c) = a := rfl

/-- What the model's whole number operators answer (but '/' and '%' by 0, shifts by less than 0). -/
def intOp (o : BinOp) (k : IntKind) (x y : Int) : Int :=
  match o with
  | .add => k.wrap (x + y)
  | .sub => k.wrap (x - y)
  | .mul => k.wrap (x * y)
  | .quo => k.wrap (x.tdiv y)
  | .rem => x.tmod y
  | .and => k.wrap (BitVec.ofInt k.bits x &&& BitVec.ofInt k.bits y).toNat
  | .or => k.wrap (BitVec.ofInt k.bits x ||| BitVec.ofInt k.bits y).toNat
  | .xor => k.wrap (BitVec.ofInt k.bits x ^^^ BitVec.ofInt k.bits y).toNat
  | .andNot => k.wrap (BitVec.ofInt k.bits x &&& ~~~ BitVec.ofInt k.bits y).toNat
  | .shl => k.wrap (x * 2 ^ (min y.toNat k.bits))
  | .shr => x.fdiv (2 ^ (min y.toNat k.bits))
  | _ => 0
def cmpOp (o : BinOp) (x y : Int) : Bool :=
  match o with
  | .eql => x == y
  | .neq => x != y
  | .lss => decide (x < y)
  | .leq => decide (x ≤ y)
  | .gtr => decide (x > y)
  | .geq => decide (x ≥ y)
  | _ => false

inductive X where
  | lit (n : Int)
  | tt (b : Bool)
  | str (s : ByteArray)
  | var (i : Nat)
  | len (i : Nat)
  | cap (i : Nat)
  | slen (s : X)
  | byte (s i : X)
  | op (o : BinOp) (k : IntKind) (a b : X)
  | conv (k : IntKind) (a : X)
  | cmp (o : BinOp) (a b : X)
  | not (a : X)
  | and (a b : X)
  | ite (c a b : X)
  | seq (a b : X)
  | nilp (i : Nat)
  deriving Inhabited

def gv (G : List Value) (i : Nat) : Value := G.getD i undef
@[simp] theorem gv_zero (v : Value) (G : List Value) : gv (v :: G) 0 = v := rfl
@[simp] theorem gv_succ (v : Value) (G : List Value) (n : Nat) : gv (v :: G) (n + 1) = gv G n := rfl

def X.den (G : List Value) : X → Value
  | .lit n => .int .i64 n
  | .tt b => .bool b
  | .str s => .string s
  | .var i => gv G i
  | .len i => .int .i64 (vlen (gv G i))
  | .cap i => .int .i64 (vcap (gv G i))
  | .slen s => .int .i64 (vs (s.den G)).size
  | .byte s i => .int .u8 (((vs (s.den G)).data.getD (vi (i.den G)).toNat 0).toNat)
  | .op o k a b => .int k (intOp o k (vi (a.den G)) (vi (b.den G)))
  | .conv k a => .int k (k.wrap (vi (a.den G)))
  | .cmp o a b => .bool (cmpOp o (vi (a.den G)) (vi (b.den G)))
  | .not a => .bool (!(vb (a.den G)))
  | .and a b => .bool (vb (a.den G) && vb (b.den G))
  | .ite c a b => if vb (c.den G) then a.den G else b.den G
  | .seq a b => .bool ((vs (a.den G)).toList == (vs (b.den G)).toList)
  | .nilp i => .bool (vnil (gv G i))

abbrev X.i (G : List Value) (e : X) : Int := vi (e.den G)
abbrev X.b (G : List Value) (e : X) : Bool := vb (e.den G)

def beqBO (a b : BinOp) : Bool := a.ctorIdx.beq b.ctorIdx
def beqIK (a b : IntKind) : Bool := a.ctorIdx.beq b.ctorIdx
theorem beqBO_eq {a b : BinOp} (h : beqBO a b = true) : a = b := by
  cases a <;> cases b <;> first | rfl | exact absurd h (by decide)
theorem beqIK_eq {a b : IntKind} (h : beqIK a b = true) : a = b := by
  cases a <;> cases b <;> first | rfl | exact absurd h (by decide)
def beqInt : Int → Int → Bool
  | .ofNat a, .ofNat b => a.beq b
  | .negSucc a, .negSucc b => a.beq b
  | _, _ => false
theorem beqInt_eq {a b : Int} (h : beqInt a b = true) : a = b := by
  cases a <;> cases b <;> simp_all [beqInt, Nat.beq_eq]
def beqB : Bool → Bool → Bool
  | true, b => b
  | false, b => !b
theorem beqB_eq {a b : Bool} (h : beqB a b = true) : a = b := by cases a <;> cases b <;> simp_all [beqB]
def beqBytes (a b : ByteArray) : Bool := (a.data.toList.map UInt8.toNat) == (b.data.toList.map UInt8.toNat)
theorem beqBytes_eq {a b : ByteArray} (h : beqBytes a b = true) : a = b := by
  have h1 : a.data.toList.map UInt8.toNat = b.data.toList.map UInt8.toNat := by simpa [beqBytes] using h
  have h2 : a.data.toList = b.data.toList := (List.map_inj_right (fun x y e => UInt8.toNat_inj.1 e)).1 h1
  cases a; cases b; congr; exact Array.toList_inj.1 h2

def X.beq : X → X → Bool
  | .lit a, .lit b => beqInt a b
  | .tt a, .tt b => beqB a b
  | .str a, .str b => beqBytes a b
  | .var i, .var j => i.beq j
  | .len i, .len j => i.beq j
  | .cap i, .cap j => i.beq j
  | .slen a, .slen b => a.beq b
  | .byte a b, .byte c d => a.beq c && b.beq d
  | .op o k a b, .op o' k' c d => beqBO o o' && beqIK k k' && a.beq c && b.beq d
  | .conv k a, .conv k' b => beqIK k k' && a.beq b
  | .cmp o a b, .cmp o' c d => beqBO o o' && a.beq c && b.beq d
  | .not a, .not b => a.beq b
  | .and a b, .and c d => a.beq c && b.beq d
  | .ite e a b, .ite f c d => e.beq f && a.beq c && b.beq d
  | .seq a b, .seq c d => a.beq c && b.beq d
  | .nilp i, .nilp j => i.beq j
  | _, _ => false
theorem X.beq_eq : ∀ {a b : X}, a.beq b = true → a = b := by
  intro a
  induction a <;> intro b h <;> cases b <;> simp only [X.beq, Bool.and_eq_true, Bool.false_eq_true, Nat.beq_eq] at h
  case lit.lit => rw [beqInt_eq h]
  case tt.tt => rw [beqB_eq h]
  case str.str => rw [beqBytes_eq h]
  case var.var => rw [h]
  case len.len => rw [h]
  case cap.cap => rw [h]
  case slen.slen ih _ => rw [ih h]
  case byte.byte ih1 ih2 _ _ => rw [ih1 h.1, ih2 h.2]
  case op.op ih1 ih2 _ _ _ _ => rw [beqBO_eq h.1.1.1, beqIK_eq h.1.1.2, ih1 h.1.2, ih2 h.2]
  case conv.conv ih _ _ => rw [beqIK_eq h.1, ih h.2]
  case cmp.cmp ih1 ih2 _ _ _ => rw [beqBO_eq h.1.1, ih1 h.1.2, ih2 h.2]
  case not.not ih _ => rw [ih h]
  case and.and ih1 ih2 _ _ => rw [ih1 h.1, ih2 h.2]
  case ite.ite ih1 ih2 ih3 _ _ _ => rw [ih1 h.1.1, ih2 h.1.2, ih3 h.2]
  case seq.seq ih1 ih2 _ _ => rw [ih1 h.1, ih2 h.2]
  case nilp.nilp => rw [h]

/-- Only names below n. -/
def X.sc (n : Nat) : X → Bool
  | .lit _ | .tt _ | .str _ => true
  | .var i | .len i | .cap i | .nilp i => Nat.blt i n
  | .slen a | .conv _ a | .not a => a.sc n
  | .byte a b | .op _ _ a b | .cmp _ a b | .and a b | .seq a b => a.sc n && b.sc n
  | .ite c a b => c.sc n && a.sc n && b.sc n
theorem gv_append {G D : List Value} {i : Nat} (h : i < G.length) : gv (G ++ D) i = gv G i := by
  simp [gv, List.getD_eq_getElem?_getD, List.getElem?_append_left h]
theorem X.den_append {G D : List Value} : ∀ {e : X}, e.sc G.length = true → e.den (G ++ D) = e.den G := by
  intro e
  induction e <;> intro h <;> simp only [X.sc, Bool.and_eq_true, Nat.blt_eq] at h <;> simp only [X.den]
  case var => exact gv_append h
  case len => rw [gv_append h]
  case cap => rw [gv_append h]
  case nilp => rw [gv_append h]
  case slen ih => rw [ih h]
  case conv ih => rw [ih h]
  case not ih => rw [ih h]
  case byte ih1 ih2 => rw [ih1 h.1, ih2 h.2]
  case op ih1 ih2 => rw [ih1 h.1, ih2 h.2]
  case cmp ih1 ih2 => rw [ih1 h.1, ih2 h.2]
  case and ih1 ih2 => rw [ih1 h.1, ih2 h.2]
  case seq ih1 ih2 => rw [ih1 h.1, ih2 h.2]
  case ite ih1 ih2 ih3 => rw [ih1 h.1.1, ih2 h.1.2, ih3 h.2]
end Go.Proofs.YtbgfabppmobpgaaDoor

/-
  The evaluator's values and states, and what a state says of a frame and a memory. Conditions: none (definitions and plain lemmas).
-/
set_option linter.unusedVariables false
set_option linter.unusedSimpArgs false
namespace Go.Proofs.YtbgfabppmobpgaaDoor
open Go

/-! ### Places outside the function's own chunks -/
inductive PE where
  | var (i : Nat)
  | fld (e : PE) (n : Nat)
  | idx (e : PE) (i : X) (sz : Nat)
  | glob (g : Nat)
  deriving Inhabited
def PE.den (G : List Value) : PE → Addr
  | .var i => vaddr (gv G i)
  | .fld e n => (e.den G).add n
  | .idx e i sz => (e.den G).add ((vi (i.den G)).toNat * sz)
  | .glob g => ⟨g, 0, none⟩
def PE.beq : PE → PE → Bool
  | .var i, .var j => i.beq j
  | .fld a n, .fld b m => a.beq b && n.beq m
  | .idx a i n, .idx b j m => a.beq b && i.beq j && n.beq m
  | .glob g, .glob k => g.beq k
  | _, _ => false
theorem PE.beq_eq : ∀ {a b : PE}, a.beq b = true → a = b := by
  intro a
  induction a <;> intro b h <;> cases b <;> simp only [PE.beq, Bool.and_eq_true, Bool.false_eq_true, Nat.beq_eq] at h
  case var.var => rw [h]
  case fld.fld ih _ _ => rw [ih h.1, h.2]
  case idx.idx ih _ _ _ => rw [ih h.1.1, X.beq_eq h.1.2, h.2]
  case glob.glob => rw [h]
def PE.sc (n : Nat) : PE → Bool
  | .var i => Nat.blt i n
  | .fld e _ => e.sc n
  | .idx e i _ => e.sc n && i.sc n
  | .glob _ => true
theorem PE.den_append {G D : List Value} : ∀ {e : PE}, e.sc G.length = true → e.den (G ++ D) = e.den G := by
  intro e
  induction e <;> intro h <;> simp only [PE.sc, Bool.and_eq_true, Nat.blt_eq] at h <;> simp only [PE.den]
  case var => rw [gv_append h]
  case fld ih => rw [ih h]
  case idx ih => rw [ih h.1, X.den_append h.2]

/-! ### Values -/
inductive SV where
  | und
  | int (k : IntKind) (e : X)
  | bool (e : X)
  | str (e : X)
  | ptr (p : PE)
  | loc (l off : Nat)
  | val (i : Nat)
  | cst (v : Value)
  | lsl (l len cap : Nat)
  | fn (f : Fn) (a b : List SV)
  | agg (l : List SV)
  | tup (l : List SV)
  | gd (g : X) (s : SV)
  deriving Inhabited

/-- Where a chunk lies: in a block, behind and ahead of other cells. -/
structure CE where
  blk : Nat
  pre : List Value
  post : List Value
  elem : TypeId
  fr : Nat × Nat
  deriving Inhabited
def CE.at (c : CE) (off : Nat) : Addr := ⟨c.blk, c.pre.length + off, none⟩
def CE.ptr (c : CE) (off : Nat) : Value := .pointer (some (c.at off))

mutual
def SV.den (G : List Value) (E : Nat → CE) : SV → Value
  | .und => undef
  | .int k e => .int k (vi (e.den G))
  | .bool e => .bool (vb (e.den G))
  | .str e => .string (vs (e.den G))
  | .ptr p => .pointer (some (p.den G))
  | .loc l off => (E l).ptr off
  | .val i => gv G i
  | .cst v => v
  | .lsl l n c => .slice (some ((E l).at 0)) n c
  | .fn f a b => .func f (SV.denL G E a).toArray (SV.denL G E b).toArray
  | .agg l => .agg (SV.denL G E l).toArray
  | .tup l => .tuple (SV.denL G E l).toArray
  | .gd _ s => s.den G E
def SV.denL (G : List Value) (E : Nat → CE) : List SV → List Value
  | [] => []
  | s :: l => s.den G E :: SV.denL G E l
end
theorem SV.denL_eq (G : List Value) (E : Nat → CE) (l : List SV) : SV.denL G E l = l.map (SV.den G E) := by
  induction l with
  | nil => simp [SV.denL]
  | cons s l ih => simp [SV.denL, ih]

mutual
def SV.beq : SV → SV → Bool
  | .und, .und => true
  | .int k a, .int k' b => beqIK k k' && a.beq b
  | .bool a, .bool b => a.beq b
  | .str a, .str b => a.beq b
  | .ptr a, .ptr b => a.beq b
  | .loc l o, .loc l' o' => l.beq l' && o.beq o'
  | .val i, .val j => i.beq j
  | .lsl l n c, .lsl l' n' c' => l.beq l' && n.beq n' && c.beq c'
  | .cst (.pointer none), .cst (.pointer none) => true
  | .cst (.slice none 0 0), .cst (.slice none 0 0) => true
  | .cst (.map none), .cst (.map none) => true
  | .cst .nilFunc, .cst .nilFunc => true
  | .fn (.func f) a b, .fn (.func g) c d => f.beq g && SV.beqL a c && SV.beqL b d
  | .agg l, .agg m => SV.beqL l m
  | .tup l, .tup m => SV.beqL l m
  | .gd g s, .gd h t => g.beq h && s.beq t
  | _, _ => false
def SV.beqL : List SV → List SV → Bool
  | [], [] => true
  | a :: l, b :: m => a.beq b && SV.beqL l m
  | _, _ => false
end
mutual
theorem SV.beq_eq : ∀ (a b : SV), a.beq b = true → a = b := by
  intro a b h
  unfold SV.beq at h
  split at h <;> (try simp only [Bool.and_eq_true, Bool.false_eq_true, Nat.beq_eq] at h) <;> try rfl
  · rw [beqIK_eq h.1, X.beq_eq h.2]
  · rw [X.beq_eq h]
  · rw [X.beq_eq h]
  · rw [PE.beq_eq h]
  · rw [h.1, h.2]
  · rw [h]
  · rw [h.1.1, h.1.2, h.2]
  · rw [h.1.1, SV.beqL_eq _ _ h.1.2, SV.beqL_eq _ _ h.2]
  · rw [SV.beqL_eq _ _ h]
  · rw [SV.beqL_eq _ _ h]
  · rw [X.beq_eq h.1, SV.beq_eq _ _ h.2]
theorem SV.beqL_eq : ∀ (a b : List SV), SV.beqL a b = true → a = b := by
  intro a b h
  unfold SV.beqL at h
  split at h <;> (try simp only [Bool.and_eq_true, Bool.false_eq_true] at h)
  · rfl
  · rw [SV.beq_eq _ _ h.1, SV.beqL_eq _ _ h.2]
end

mutual
def SV.sc (n : Nat) : SV → Bool
  | .und | .loc .. | .cst _ | .lsl .. => true
  | .int _ e | .bool e | .str e => e.sc n
  | .ptr p => p.sc n
  | .val i => Nat.blt i n
  | .fn _ a b => SV.scL n a && SV.scL n b
  | .agg l | .tup l => SV.scL n l
  | .gd g s => g.sc n && s.sc n
def SV.scL (n : Nat) : List SV → Bool
  | [] => true
  | s :: l => s.sc n && SV.scL n l
end
mutual
theorem SV.den_append {G D : List Value} {E : Nat → CE} : ∀ (s : SV), s.sc G.length = true → s.den (G ++ D) E = s.den G E := by
  intro s h
  cases s <;> simp only [SV.sc, Bool.and_eq_true, Nat.blt_eq] at h <;> simp only [SV.den]
  case int => rw [X.den_append h]
  case bool => rw [X.den_append h]
  case str => rw [X.den_append h]
  case ptr => rw [PE.den_append h]
  case val => rw [gv_append h]
  case fn a b => rw [SV.denL_append a h.1, SV.denL_append b h.2]
  case agg l => rw [SV.denL_append l h]
  case tup l => rw [SV.denL_append l h]
  case gd g s => exact SV.den_append s h.2
theorem SV.denL_append {G D : List Value} {E : Nat → CE} : ∀ (l : List SV), SV.scL G.length l = true → SV.denL (G ++ D) E l = SV.denL G E l := by
  intro l h
  cases l with
  | nil => simp [SV.denL]
  | cons s l =>
    simp only [SV.scL, Bool.and_eq_true] at h
    simp only [SV.denL]
    rw [SV.den_append s h.1, SV.denL_append l h.2]
end

-- Which chunks a value names: none of those that fail the test.
mutual
def SV.refs (f : Nat → Bool) : SV → Bool
  | .loc l _ | .lsl l _ _ => f l
  | .fn _ a b => SV.refsL f a && SV.refsL f b
  | .agg l | .tup l => SV.refsL f l
  | .gd _ s => s.refs f
  | _ => true
def SV.refsL (f : Nat → Bool) : List SV → Bool
  | [] => true
  | s :: l => s.refs f && SV.refsL f l
end
mutual
theorem SV.den_env {G : List Value} {E F : Nat → CE} {f : Nat → Bool} (hf : ∀ l, f l = true → E l = F l) : ∀ (s : SV), s.refs f = true → s.den G E = s.den G F := by
  intro s h
  cases s <;> simp only [SV.refs, Bool.and_eq_true] at h <;> simp only [SV.den]
  case loc l off => rw [hf l h]
  case lsl l n c => rw [hf l h]
  case fn a b => rw [SV.denL_env hf a h.1, SV.denL_env hf b h.2]
  case agg l => rw [SV.denL_env hf l h]
  case tup l => rw [SV.denL_env hf l h]
  case gd g s => exact SV.den_env hf s h
theorem SV.denL_env {G : List Value} {E F : Nat → CE} {f : Nat → Bool} (hf : ∀ l, f l = true → E l = F l) : ∀ (l : List SV), SV.refsL f l = true → SV.denL G E l = SV.denL G F l := by
  intro l h
  cases l with
  | nil => simp [SV.denL]
  | cons s l =>
    simp only [SV.refsL, Bool.and_eq_true] at h
    simp only [SV.denL]
    rw [SV.den_env hf s h.1, SV.denL_env hf l h.2]
end

/-- A value of one cell, by its form. -/
def SV.one : SV → Bool
  | .int .. | .bool _ | .str _ | .ptr _ | .loc .. | .lsl .. | .fn .. => true
  | .cst (.pointer none) | .cst (.slice none 0 0) | .cst (.map none) | .cst .nilFunc | .cst .nilIface => true
  | _ => false
def SV.ofV1 : Value → SV
  | .int k n => .int k (.lit n)
  | .bool b => .bool (.tt b)
  | .string s => .str (.str s)
  | .func f a b => if a.isEmpty && b.isEmpty then .fn f [] [] else .cst (.func f a b)
  | v => .cst v
theorem SV.ofV1_den (G : List Value) (E : Nat → CE) (v : Value) : (SV.ofV1 v).den G E = v := by
  unfold SV.ofV1
  split <;> try rfl
  split
  · rename_i h
    simp only [Bool.and_eq_true, Array.isEmpty_iff] at h
    rw [h.1, h.2]; rfl
  · rfl
def SV.ofV : Value → SV
  | .agg cs => .agg (cs.toList.map SV.ofV1)
  | v => .ofV1 v
theorem SV.ofV_den (G : List Value) (E : Nat → CE) (v : Value) : (SV.ofV v).den G E = v := by
  unfold SV.ofV
  split
  · simp only [SV.den, SV.denL_eq, List.map_map]
    have : (SV.den G E ∘ SV.ofV1) = id := funext fun v => SV.ofV1_den G E v
    rw [this]; simp
  · exact SV.ofV1_den G E v
def SV.cells : SV → List SV
  | .agg l => l
  | s => [s]

/-! ### Shapes of what is named -/
inductive Sh where
  | int (k : IntKind) | bool | str | sl | ptr | map | fn | any
  deriving Inhabited
def Fits : Sh → Value → Prop
  | .int k, v => ∃ n, v = .int k n
  | .bool, v => ∃ b, v = .bool b
  | .str, v => ∃ s, v = .string s
  | .sl, v => ∃ a n c, v = .slice a n c ∧ (a = none → n = 0 ∧ c = 0) ∧ n ≤ c
  | .ptr, v => ∃ a, v = .pointer a
  | .map, v => ∃ r, v = .map r
  | .fn, v => v = .nilFunc ∨ ∃ f a b, v = .func f a b
  | .any, _ => True
def FitsL : List Sh → List Value → Prop
  | [], [] => True
  | s :: l, v :: m => Fits s v ∧ FitsL l m
  | _, _ => False
theorem FitsL.length : ∀ {l : List Sh} {m : List Value}, FitsL l m → l.length = m.length
  | [], [], _ => rfl
  | _ :: _, _ :: _, h => by simp [FitsL.length h.2]
theorem FitsL.append : ∀ {l : List Sh} {m : List Value} {l' : List Sh} {m' : List Value}, FitsL l m → FitsL l' m' → FitsL (l ++ l') (m ++ m')
  | [], [], _, _, _, h => h
  | _ :: _, _ :: _, _, _, h, h' => ⟨h.1, FitsL.append h.2 h'⟩
theorem FitsL.get : ∀ {l : List Sh} {m : List Value} {i : Nat} {s : Sh}, FitsL l m → l[i]? = some s → Fits s (gv m i)
  | [], _, _, _, _, h => by simp at h
  | s :: l, v :: m, 0, t, h, e => by simp at e; subst e; exact h.1
  | s :: l, v :: m, i + 1, t, h, e => FitsL.get (i := i) h.2 (by simpa using e)
def Sh.sv (i : Nat) : Sh → SV
  | .int k => .int k (.var i)
  | .bool => .bool (.var i)
  | .str => .str (.var i)
  | _ => .val i
theorem Sh.sv_den {G : List Value} {E : Nat → CE} {i : Nat} {s : Sh} (h : Fits s (gv G i)) : (s.sv i).den G E = gv G i := by
  cases s <;> simp only [Sh.sv, SV.den, X.den]
  · obtain ⟨n, h⟩ := h; rw [h]; rfl
  · obtain ⟨n, h⟩ := h; rw [h]; rfl
  · obtain ⟨n, h⟩ := h; rw [h]; rfl
def Sh.svs (i : Nat) : List Sh → List SV
  | [] => []
  | s :: l => s.sv i :: Sh.svs (i + 1) l

/-! ### Memory outside the chunks -/
abbrev H := Nat → Option Obj
def H.sub (h : H) (w : World) : Prop := ∀ b o, h b = some o → w.heap[b]? = some o
def H.cell? (h : H) (a : Addr) : Option Value :=
  match h a.block with
  | some (.cells c _ _) => if a.spot.isSome then none else c[a.off]?
  | _ => none
def H.frozen? (h : H) (a : Addr) : Bool :=
  match h a.block with
  | some (.cells _ _ (lo, hi)) => lo ≤ a.off && a.off < hi
  | _ => false
def H.set (h : H) (a : Addr) (v : Value) : H := fun b =>
  if b = a.block then (match h b with
    | some (.cells c e f) => some (.cells (if a.spot.isSome then c else c.setIfInBounds a.off v) e f)
    | o => o) else h b
def H.put (h : H) (b : Nat) (o : Obj) : H := fun c => if c = b then some o else h c
theorem H.sub_cell {h : H} {w : World} (hs : h.sub w) {a : Addr} {v : Value} (hc : h.cell? a = some v) : w.cell? a = some v := by
  unfold H.cell? at hc
  unfold World.cell?
  split at hc
  · rename_i c e f hb
    rw [hs _ _ hb]; exact hc
  · cases hc

/-! ### States -/
structure St where
  t : List SV
  ch : List (Nat × List SV)
  sh : List Sh
  kn : List (X × Bool)
  deriving Inhabited

/-- What a value of a state says. -/
def Rel (G : List Value) (E : Nat → CE) (v : Value) : SV → Prop
  | .und => True
  | .gd g s => if vb (g.den G) then v = s.den G E else v = undef
  | s => v = s.den G E
theorem Rel.mk {G : List Value} {E : Nat → CE} (s : SV) (h : ∀ g t, s ≠ .gd g t) : Rel G E (s.den G E) s := by
  unfold Rel
  split
  · trivial
  · exact absurd rfl (h _ _)
  · rfl
def RelL (G : List Value) (E : Nat → CE) : List Value → List SV → Prop
  | [], [] => True
  | v :: l, s :: m => Rel G E v s ∧ RelL G E l m
  | _, _ => False
def CE.free (c : CE) (n : Nat) : Prop := ∀ i, i < n → ¬ (c.fr.1 ≤ c.pre.length + i ∧ c.pre.length + i < c.fr.2)
/-- A chunk lies in memory. -/
def CE.holds (c : CE) (G : List Value) (E : Nat → CE) (cells : List SV) (w : World) : Prop :=
  c.free cells.length ∧ ∃ l, w.heap[c.blk]? = some (.cells (c.pre ++ l ++ c.post).toArray c.elem c.fr) ∧ RelL G E l cells

/-- How a call began: the world, what was known of its memory, the chunks that came in. -/
structure Beg where
  w : World
  h : H
  E : List CE
  G0 : List Value
def Beg.in (B : Beg) (b : Nat) : Prop := ∃ c ∈ B.E, c.blk = b
/-- What else there is stays as it was. -/
structure Frm (B : Beg) (h : H) (w : World) : Prop where
  size : B.w.heap.size ≤ w.heap.size
  os : w.os = B.w.os
  tape : w.tape = B.w.tape
  out : w.output = B.w.output
  keep : ∀ b, b < B.w.heap.size → B.h b = none → ¬ B.in b → w.heap[b]? = B.w.heap[b]? ∧ h b = none
/-- The keys of chunks that came in. -/
def pkey (i : Nat) : Nat := 1000000 + i
/-- What a state says of the frame. -/
structure SatA (G : List Value) (E : Nat → CE) (st : St) (a : Act) : Prop where
  size : st.t.length = a.tmps.size
  tmps : ∀ i s, st.t[i]? = some s → Rel G E (a.tmps.getD i undef) s
  nodef : a.defers = []
  fits : FitsL st.sh G
  kn : ∀ x b, (x, b) ∈ st.kn → vb (x.den G) = b
/-- What a state says of the memory. -/
structure SatW (B : Beg) (G : List Value) (E : Nat → CE) (h : H) (ch : List (Nat × List SV)) (w : World) : Prop where
  chunks : ∀ k cs, (k, cs) ∈ ch → (E k).holds G E cs w
  hid : ∀ k cs, (k, cs) ∈ ch → h (E k).blk = none
  dist : ch.Pairwise fun x y => (E x.1).blk ≠ (E y.1).blk
  own : ∀ k cs, (k, cs) ∈ ch → B.in (E k).blk ∨ B.w.heap.size ≤ (E k).blk
  par : ∀ i c, B.E[i]? = some c → E (pkey i) = c
  hsub : h.sub w
  frm : Frm B h w
  pre : B.G0 <+: G
end Go.Proofs.YtbgfabppmobpgaaDoor

/-
  The evaluator's step at operations that only compute, and that it answers what the model answers. Conditions: none.
-/
set_option linter.unusedVariables false
set_option linter.unusedSimpArgs false
namespace Go.Proofs.YtbgfabppmobpgaaDoor
open Go

/-! ### Small words -/
def X.isT : X → Bool | .tt true => true | _ => false
def andG (g c : X) : X := if g.isT then c else .and g c
def mkNot : X → X
  | .tt b => .tt (!b)
  | .not a => a
  | a => .not a
theorem andG_den {G : List Value} {g c : X} : vb ((andG g c).den G) = (vb (g.den G) && vb (c.den G)) := by
  unfold andG
  split
  · rename_i h
    unfold X.isT at h
    split at h
    · simp [X.den]
    · cases h
  · simp [X.den]
theorem mkNot_den {G : List Value} {c : X} : vb ((mkNot c).den G) = !(vb (c.den G)) := by
  unfold mkNot
  split <;> simp [X.den]
def implies (g : X) (g' : X) : Bool :=
  g.beq g' || match g with
    | .and a _ => implies a g'
    | _ => false
theorem implies_den {G : List Value} : ∀ {g g' : X}, implies g g' = true → vb (g.den G) = true → vb (g'.den G) = true := by
  intro g
  induction g <;> intro g' h hg <;> unfold implies at h <;> simp only [Bool.or_eq_true, Bool.or_false] at h
  case and iha ihb =>
    rcases h with h | h
    · rw [← X.beq_eq h]; exact hg
    · simp only [X.den, vb_bool, Bool.and_eq_true] at hg; exact iha h hg.1
  all_goals (rw [← X.beq_eq h]; exact hg)
def mkOp (o : BinOp) (k : IntKind) (a b : X) : X :=
  match a, b with
  | .lit x, .lit y => (match o, k with
    | .add, .i64 | .sub, .i64 | .mul, .i64 => .lit (intOp o .i64 x y)
    | _, _ => .op o k a b)
  | _, _ => .op o k a b
theorem mkOp_den {G : List Value} {o : BinOp} {k : IntKind} {a b : X} : vi ((mkOp o k a b).den G) = intOp o k (vi (a.den G)) (vi (b.den G)) := by
  unfold mkOp
  split
  · split <;> simp [X.den]
  · simp [X.den]
def mkCmp (o : BinOp) (a b : X) : X :=
  match a, b with
  | .lit x, .lit y => .tt (cmpOp o x y)
  | _, _ => .cmp o a b
theorem mkCmp_den {G : List Value} {o : BinOp} {a b : X} : vb ((mkCmp o a b).den G) = cmpOp o (vi (a.den G)) (vi (b.den G)) := by
  unfold mkCmp
  split <;> simp [X.den]
def mkConv (k : IntKind) (a : X) : X :=
  match a with
  | .lit x => .lit (k.wrap x)
  | _ => .conv k a
theorem mkConv_den {G : List Value} {k : IntKind} {a : X} : vi ((mkConv k a).den G) = k.wrap (vi (a.den G)) := by
  unfold mkConv
  split <;> simp [X.den]
def mkIte (c a b : X) : X :=
  match c with
  | .tt true => a
  | .tt false => b
  | _ => if a.beq b then a else .ite c a b
theorem mkIte_den {G : List Value} {c a b : X} : (mkIte c a b).den G = if vb (c.den G) then a.den G else b.den G := by
  unfold mkIte
  split
  · simp [X.den]
  · simp [X.den]
  · split
    · rename_i h; rw [X.beq_eq h]; simp
    · simp [X.den]

/-! ### What is known -/
/-- What is known of a test. -/
def know (l : List (X × Bool)) (x : X) : Option Bool :=
  match l with
  | [] => none
  | (y, b) :: l => if x.beq y then some b else know l x
theorem know_den {G : List Value} : ∀ {l : List (X × Bool)} {x : X} {b : Bool}, (∀ x b, (x, b) ∈ l → vb (x.den G) = b) → know l x = some b → vb (x.den G) = b
  | [], _, _, _, h => by simp [know] at h
  | (y, c) :: l, x, b, hl, h => by
    unfold know at h
    split at h
    · rename_i he
      cases h
      rw [X.beq_eq he]
      exact hl _ _ (List.mem_cons_self ..)
    · exact know_den (fun x b hm => hl x b (List.mem_cons_of_mem _ hm)) h
def testL (l : List (X × Bool)) (x : X) : Option Bool :=
  match x with
  | .tt b => some b
  | .not y => (match know l (.not y) with
    | some b => some b
    | none => (testL l y).map (!·))
  | .and y z => (match testL l y, testL l z with
    | some false, _ => some false
    | _, some false => some false
    | some true, some true => some true
    | _, _ => know l (.and y z))
  | x => know l x
theorem testL_den {G : List Value} {l : List (X × Bool)} (hl : ∀ x b, (x, b) ∈ l → vb (x.den G) = b) : ∀ {x : X} {b : Bool}, testL l x = some b → vb (x.den G) = b := by
  intro x
  induction x <;> intro b h <;> unfold testL at h
  case tt => cases h; rfl
  case not y ih =>
    split at h
    · cases h; exact know_den hl (by assumption)
    · cases hk : testL l y with
      | none => simp [hk] at h
      | some c =>
        simp only [hk, Option.map_some, Option.some.injEq] at h
        subst h
        simp [X.den, ih hk]
  case and y z iy iz =>
    split at h
    · cases h; rename_i h1; simp [X.den, iy h1]
    · cases h; rename_i h1 _; simp [X.den, iz h1]
    · cases h; rename_i h1 h2; simp [X.den, iy h1, iz h2]
    · exact know_den hl h
  all_goals exact know_den hl h
def St.test (st : St) (x : X) : Option Bool := testL st.kn x

/-! ### Operands -/
def SV.plain : SV → Bool | .und | .gd .. => false | _ => true
def SV.get (l : List SV) (t : Nat) : SV := l.getD t .und
def isSome (o : Option Bool) : Bool := match o with | some true => true | _ => false
def SV.under (l : List (X × Bool)) (g : X) : SV → SV
  | .gd g' s => if implies g g' || isSome (testL l g') then (if s.plain then s else .und) else .und
  | s => s
def St.opr (st : St) (g : X) : Operand → SV
  | .tmp t => (SV.get st.t t).under st.kn g
  | .const v => .ofV v
  | .global n => .ptr (.glob n)
  | .func f => .fn (.func f) [] []
theorem Rel.plain {G : List Value} {E : Nat → CE} {v : Value} {s : SV} (h : Rel G E v s) (hp : s.plain = true) : v = s.den G E := by
  unfold Rel at h
  split at h
  · cases hp
  · cases hp
  · exact h
theorem Rel.of {G : List Value} {E : Nat → CE} {v : Value} {s : SV} (h : s.plain = true → v = s.den G E) (hg : ∀ g t, s ≠ .gd g t) : Rel G E v s := by
  unfold Rel
  split
  · trivial
  · exact absurd rfl (hg _ _)
  · rename_i h1 h2
    apply h
    unfold SV.plain
    split
    · exact absurd rfl h1
    · exact absurd rfl (h2 _ _)
    · rfl
theorem under_nogd (l : List (X × Bool)) (g : X) (s : SV) : ∀ g' t, s.under l g ≠ .gd g' t := by
  intro g' t h
  unfold SV.under at h
  split at h
  · split at h
    · split at h
      · rename_i hp; rw [h] at hp; cases hp
      · cases h
    · cases h
  · rename_i h1; exact h1 _ _ h
theorem ofV1_nogd (v : Value) : ∀ g t, SV.ofV1 v ≠ .gd g t := by
  intro g t h
  unfold SV.ofV1 at h
  split at h <;> try (cases h)
  split at h <;> cases h
theorem ofV_nogd (v : Value) : ∀ g t, SV.ofV v ≠ .gd g t := by
  intro g t h
  unfold SV.ofV at h
  split at h
  · cases h
  · exact ofV1_nogd _ _ _ h
theorem opr_nogd (st : St) (g : X) (x : Operand) : ∀ g' t, st.opr g x ≠ .gd g' t := by
  intro g' t h
  unfold St.opr at h
  split at h
  · exact under_nogd _ _ _ _ _ h
  · exact ofV_nogd _ _ _ h
  · cases h
  · cases h
theorem under_rel {G : List Value} {E : Nat → CE} {v : Value} {s : SV} {l : List (X × Bool)} (hl : ∀ x b, (x, b) ∈ l → vb (x.den G) = b) {g : X} (h : Rel G E v s) (hg : vb (g.den G) = true)
    (hp : (s.under l g).plain = true) : v = (s.under l g).den G E := by
  unfold SV.under at hp ⊢
  split at hp
  · rename_i g' t
    split at hp
    · rename_i hi
      have hg' : vb (g'.den G) = true := by
        simp only [Bool.or_eq_true] at hi
        rcases hi with hi | hi
        · exact implies_den hi hg
        · unfold isSome at hi
          split at hi
          · exact testL_den hl (by assumption)
          · cases hi
      simp only [hi, if_true]
      split at hp
      · rename_i ht
        simp only [ht, if_true]
        unfold Rel at h
        simp only [hg', if_true] at h
        exact h
      · cases hp
    · cases hp
  · exact h.plain hp
variable {G : List Value} {E : Nat → CE} {st : St} {a : Act}
theorem opr_rel (hA : SatA G E st a) {g : X} (hg : vb (g.den G) = true) (x : Operand) : Rel G E (a.eval x) (st.opr g x) := by
  refine Rel.of (fun hp => ?_) (opr_nogd st g x)
  cases x with
  | tmp t =>
    simp only [St.opr, SV.get, List.getD_eq_getElem?_getD] at hp ⊢
    cases ht : st.t[t]? with
    | none => simp [ht, SV.under, SV.plain] at hp
    | some s =>
      simp only [ht, Option.getD_some] at hp ⊢
      exact under_rel hA.kn (hA.tmps t s ht) hg hp
  | const v => simp only [St.opr]; rw [SV.ofV_den]; rfl
  | global n => rfl
  | func f => rfl
theorem opr_den (hA : SatA G E st a) {g : X} (hg : vb (g.den G) = true) {x : Operand} {s : SV} (h : st.opr g x = s) (hp : s.plain = true) : a.eval x = s.den G E :=
  h ▸ (opr_rel hA hg x).plain (h ▸ hp)

theorem test_den (hA : SatA G E st a) {x : X} {b : Bool} (h : st.test x = some b) : vb (x.den G) = b := testL_den hA.kn h

/-! ### Types -/
section
variable (P : Program)
def tsize (t : TypeId) : Option Nat := (P.info? t).map (·.size)
def aggB (t : TypeId) : Option Bool := (P.underlying t).map fun | .struct _ | .array _ _ => true | _ => false
def fieldOf (t : TypeId) (f : Nat) : Option Field := match P.underlying t with | some (.struct fs) => fs[f]? | _ => none
end
section
variable {P : Program} {w : World}
theorem run_tsize {t : TypeId} {n : Nat} (h : tsize P t = some n) : (sizeOf t).run P w = .ok n w := by
  unfold tsize at h
  cases hi : P.info? t with
  | none => simp [hi] at h
  | some i => simp [hi] at h; subst h; simp [sizeOf, typeInfo, hi]
theorem run_aggB {t : TypeId} {b : Bool} (h : aggB P t = some b) : (isAgg t).run P w = .ok b w := by
  unfold aggB at h
  cases hu : P.underlying t with
  | none => simp [hu] at h
  | some d =>
    simp only [hu, Option.map_some, Option.some.injEq] at h
    subst h
    cases d <;> simp [isAgg, run_underlying hu]
end
def partS (P : Program) (t : TypeId) (l : List SV) (off : Nat) : SV :=
  match aggB P t, tsize P t with
  | some true, some n => if off + n ≤ l.length then .agg ((l.drop off).take n) else .und
  | some false, _ => SV.get l off
  | _, _ => .und
theorem part_run {P : Program} {w : World} {t : TypeId} {l : List SV} {off : Nat} (hp : (partS P t l off).plain = true) :
    (part t (SV.denL G E l).toArray off).run P w = .ok ((partS P t l off).den G E) w := by
  unfold partS at hp ⊢
  cases ha : aggB P t with
  | none => simp [ha, SV.plain] at hp
  | some b =>
    cases b with
    | true =>
      cases hn : tsize P t with
      | none => simp [ha, hn, SV.plain] at hp
      | some n =>
        simp only [ha, hn] at hp ⊢
        split at hp
        · rename_i hle
          simp only [hle, if_true]
          simp only [part, Sem.run_bind, run_aggB ha, Result.andThen_ok, if_true, run_tsize hn, Sem.run_pure, SV.den, SV.denL_eq, Result.ok.injEq, and_true, Value.agg.injEq]
          apply Array.ext'
          simp [List.map_drop, List.map_take]
        · cases hp
    | false =>
      simp only [ha] at hp ⊢
      simp only [SV.get, List.getD_eq_getElem?_getD] at hp ⊢
      cases hl : l[off]? with
      | none => simp [hl, SV.plain] at hp
      | some s =>
        simp only [part, Sem.run_bind, run_aggB ha, Result.andThen_ok, Bool.false_eq_true, if_false]
        simp [SV.denL_eq, hl]
end Go.Proofs.YtbgfabppmobpgaaDoor

/-
  The evaluator's step at operations that only compute: each kind, and that it answers what the model answers. Conditions: none.
-/
set_option linter.unusedVariables false
set_option linter.unusedSimpArgs false
namespace Go.Proofs.YtbgfabppmobpgaaDoor
open Go

/-- What is computed and given a name of its own. -/
inductive LF where
  | slice (s : SV) (lo hi : Option X) (sz : Nat)
  | sub (s : X) (lo hi : Option X)
  | cat (a b : X)
  | scmp (o : BinOp) (a b : X)
  | arr (p : PE) (lo hi : Option X) (n sz : Nat)
  | slice3 (s : SV) (hi mx : X)
  | slice4 (s : SV) (lo hi mx : X) (sz : Nat)
  deriving Inhabited
def dE : Nat → CE := fun _ => default
def sliceV (v : Value) (l h : Nat) (sz : Nat) : Value :=
  match v with
  | .slice a _ c => .slice (if c = l then a else a.map (·.add (l * sz))) (h - l) (c - l)
  | v => v
def scmpOp (o : BinOp) (a b : ByteArray) : Bool :=
  match o with
  | .lss => Op.bytesLess a.toList b.toList
  | .leq => Op.bytesLess a.toList b.toList || a.toList == b.toList
  | .gtr => !(Op.bytesLess a.toList b.toList || a.toList == b.toList)
  | .geq => !(Op.bytesLess a.toList b.toList)
  | _ => false
def optN (G : List Value) (x : Option X) (d : Nat) : Nat := match x with | some x => (vi (x.den G)).toNat | none => d
def LF.den (G : List Value) : LF → Value
  | .slice s lo hi sz => sliceV (s.den G dE) (optN G lo 0) (optN G hi (vlen (s.den G dE))) sz
  | .sub s lo hi => .string ((vs (s.den G)).extract (optN G lo 0) (optN G hi (vs (s.den G)).size))
  | .cat a b => .string (vs (a.den G) ++ vs (b.den G))
  | .scmp o a b => .bool (scmpOp o (vs (a.den G)) (vs (b.den G)))
  | .arr p lo hi n sz => .slice (some (if n = optN G lo 0 then p.den G else (p.den G).add (optN G lo 0 * sz))) (optN G hi n - optN G lo 0) (n - optN G lo 0)
  | .slice4 s lo hi mx sz => (match s.den G dE with | .slice a _ _ => .slice (if (vi (mx.den G)).toNat = (vi (lo.den G)).toNat then a else a.map (·.add ((vi (lo.den G)).toNat * sz))) ((vi (hi.den G)).toNat - (vi (lo.den G)).toNat) ((vi (mx.den G)).toNat - (vi (lo.den G)).toNat) | v => v)
  | .slice3 s hi mx => (match s.den G dE with | .slice a _ _ => .slice a (vi (hi.den G)).toNat (vi (mx.den G)).toNat | v => v)

inductive QR where
  | bad
  | val (ns : List X) (s : SV)
  | bnd (ns : List X) (sh : Sh) (f : LF)
  deriving Inhabited

def QR.sound (P : Program) (G : List Value) (E : Nat → CE) (a : Act) (o : Op) (ty : TypeId) : QR → Prop
  | .bad => True
  | .val ns s => (∀ x ∈ ns, vb (x.den G) = true) → (∀ g t, s ≠ .gd g t) ∧ ∃ v, Rel G E v s ∧ ∀ w dst pos after guard, (execOp a.eval ⟨dst, o, ty, pos, after, guard⟩).run P w = .ok (.value v) w
  | .bnd ns sh f => (∀ x ∈ ns, vb (x.den G) = true) → Fits sh (f.den G) ∧ ∀ w dst pos after guard, (execOp a.eval ⟨dst, o, ty, pos, after, guard⟩).run P w = .ok (.value (f.den G)) w

section
variable {P : Program} {G : List Value} {E : Nat → CE} {st : St} {a : Act} {ty : TypeId}
theorem QR.sound_val {o : Op} {ns : List X} {s : SV} (hp : s.plain = true)
    (h : (∀ x ∈ ns, vb (x.den G) = true) → ∀ w dst pos after guard, (execOp a.eval ⟨dst, o, ty, pos, after, guard⟩).run P w = .ok (.value (s.den G E)) w) :
    (QR.val ns s).sound P G E a o ty := by
  intro hn
  refine ⟨?_, _, Rel.of (fun _ => rfl) (by intro g t e; rw [e] at hp; cases hp), fun w dst pos after guard => h hn w dst pos after guard⟩
  intro g t e; rw [e] at hp; cases hp

/-! move, assign -/
theorem sound_move (hA : SatA G E st a) {g : X} (hg : vb (g.den G) = true) (x : Operand) :
    (QR.val [] (st.opr g x)).sound P G E a (.move x) ty ∧ (QR.val [] (st.opr g x)).sound P G E a (.assign x) ty := by
  constructor <;> exact fun _ => ⟨opr_nogd _ _ _, _, opr_rel hA hg x, fun w _ _ _ _ => by simp [execOp]⟩

/-! pick -/
def mergeQ (x : X) (s t : SV) : QR :=
  match s, t with
  | .int k e, .int k' f => if beqIK k k' then .val [] (.int k (mkIte x e f)) else .bad
  | .bool e, .bool f => .val [] (.bool (mkIte x e f))
  | .str e, .str f => .val [] (.str (mkIte x e f))
  | s, t => if s.plain && s.beq t then .val [] s else .bad
theorem mergeQ_den {x : X} {s t s' : SV} {ns : List X} (h : mergeQ x s t = .val ns s') : ns = [] ∧ s.plain = true ∧ t.plain = true ∧ s'.plain = true ∧ s'.den G E = if vb (x.den G) then s.den G E else t.den G E := by
  unfold mergeQ at h
  split at h
  · split at h
    · rename_i hk
      cases h
      refine ⟨rfl, rfl, rfl, rfl, ?_⟩
      rw [beqIK_eq hk]
      simp only [SV.den, mkIte_den]
      split <;> rfl
    · cases h
  · cases h
    refine ⟨rfl, rfl, rfl, rfl, ?_⟩
    simp only [SV.den, mkIte_den]
    split <;> rfl
  · cases h
    refine ⟨rfl, rfl, rfl, rfl, ?_⟩
    simp only [SV.den, mkIte_den]
    split <;> rfl
  · split at h
    · rename_i hb
      simp only [Bool.and_eq_true] at hb
      cases h
      have := SV.beq_eq _ _ hb.2
      subst this
      exact ⟨rfl, hb.1, hb.1, hb.1, by simp⟩
    · cases h
def qPick (st : St) (g : X) (c x y : Operand) : QR :=
  match st.opr g c with
  | .bool e => (match st.test e with
    | some true => .val [] (st.opr g x)
    | some false => .val [] (st.opr g y)
    | none => mergeQ e (st.opr (andG g e) x) (st.opr (andG g (mkNot e)) y))
  | _ => .bad
theorem sound_pick (hA : SatA G E st a) {g : X} (hg : vb (g.den G) = true) (c x y : Operand) : (qPick st g c x y).sound P G E a (.pick c x y) ty := by
  unfold qPick
  split
  · rename_i e he
    have hc := opr_den hA hg he rfl
    split
    · rename_i ht
      have ht' := test_den hA ht
      refine fun _ => ⟨opr_nogd _ _ _, _, opr_rel hA hg x, fun w _ _ _ _ => ?_⟩
      simp [execOp, hc, SV.den, ht', asBool]
    · rename_i ht
      have ht' := test_den hA ht
      refine fun _ => ⟨opr_nogd _ _ _, _, opr_rel hA hg y, fun w _ _ _ _ => ?_⟩
      simp [execOp, hc, SV.den, ht', asBool]
    · cases hm : mergeQ e (st.opr (andG g e) x) (st.opr (andG g (mkNot e)) y) with
      | bad => trivial
      | bnd => unfold mergeQ at hm; split at hm <;> first | (split at hm <;> cases hm) | cases hm
      | val ns s =>
        obtain ⟨rfl, h1, h2, h3, h4⟩ := mergeQ_den (G := G) (E := E) hm
        refine QR.sound_val h3 fun _ w _ _ _ _ => ?_
        simp only [execOp, hc, SV.den, asBool, Sem.run_bind, Sem.run_pure, Result.andThen_ok, h4]
        by_cases hb : vb (e.den G) = true
        · simp only [hb, if_true]
          rw [opr_den hA (g := andG g e) (by simp [andG_den, hg, hb]) rfl h1]
        · simp only [hb, if_false, Bool.false_eq_true]
          rw [opr_den hA (g := andG g (mkNot e)) (by simp [andG_den, mkNot_den, hg, hb]) rfl h2]
  · trivial

/-! makeFunc -/
def allPlain (l : List SV) : Bool := l.all SV.plain
theorem oprs_den (hA : SatA G E st a) {g : X} (hg : vb (g.den G) = true) (xs : Array Operand) (hp : allPlain (xs.toList.map (st.opr g)) = true) :
    xs.map a.eval = (SV.denL G E (xs.toList.map (st.opr g))).toArray := by
  obtain ⟨l⟩ := xs
  simp only [List.map_toArray, SV.denL_eq, List.map_map]
  congr 1
  apply List.map_congr_left
  intro x hx
  simp only [allPlain, List.all_eq_true, List.mem_map] at hp
  exact opr_den hA hg rfl (hp _ ⟨x, hx, rfl⟩)
def qFunc (st : St) (g : X) (f : Fn) (x y : Array Operand) : QR :=
  if allPlain (x.toList.map (st.opr g)) && allPlain (y.toList.map (st.opr g)) then .val [] (.fn f (x.toList.map (st.opr g)) (y.toList.map (st.opr g))) else .bad
theorem sound_func (hA : SatA G E st a) {g : X} (hg : vb (g.den G) = true) (f : Fn) (x y : Array Operand) : (qFunc st g f x y).sound P G E a (.makeFunc f x y) ty := by
  unfold qFunc
  split
  · rename_i h
    simp only [Bool.and_eq_true] at h
    refine QR.sound_val rfl fun _ w _ _ _ _ => ?_
    simp only [execOp, Instr.makeFunc, Sem.run_bind, Sem.run_pure, Result.andThen_ok, SV.den]
    rw [oprs_den hA hg x h.1, oprs_den hA hg y h.2]
  · trivial

/-! extract -/
def qExtract (st : St) (g : X) (x : Operand) (i : Nat) : QR :=
  match st.opr g x with
  | .tup l => if (SV.get l i).plain then .val [] (SV.get l i) else .bad
  | _ => .bad
theorem get_den {l : List SV} {i : Nat} (h : (SV.get l i).plain = true) : (SV.denL G E l)[i]? = some ((SV.get l i).den G E) := by
  simp only [SV.get, List.getD_eq_getElem?_getD, SV.denL_eq, List.getElem?_map] at h ⊢
  cases hl : l[i]? with
  | none => simp [hl, SV.plain] at h
  | some s => simp [hl]
theorem sound_extract (hA : SatA G E st a) {g : X} (hg : vb (g.den G) = true) (x : Operand) (i : Nat) : (qExtract st g x i).sound P G E a (.extract x i) ty := by
  unfold qExtract
  split
  · rename_i l he
    have hc := opr_den hA hg he rfl
    split
    · rename_i hp
      refine QR.sound_val hp fun _ w _ _ _ _ => ?_
      simp [execOp, hc, SV.den, Instr.extract, get_den hp]
    · trivial
  · trivial

/-! field -/
def qField (P : Program) (st : St) (g : X) (t : TypeId) (x : Operand) (i : Nat) : QR :=
  match st.opr g x, fieldOf P t i with
  | .agg l, some f => if (partS P f.type l f.offset).plain then .val [] (partS P f.type l f.offset) else .bad
  | _, _ => .bad
theorem fieldOf_spec {t : TypeId} {i : Nat} {f : Field} (h : fieldOf P t i = some f) : ∃ fs, P.underlying t = some (.struct fs) ∧ fs[i]? = some f := by
  unfold fieldOf at h
  split at h
  · rename_i fs hu; exact ⟨fs, hu, h⟩
  · cases h
theorem sound_field (hA : SatA G E st a) {g : X} (hg : vb (g.den G) = true) (t : TypeId) (x : Operand) (i : Nat) : (qField P st g t x i).sound P G E a (.field t x i) ty := by
  unfold qField
  split
  · rename_i l f he hf
    have hc := opr_den hA hg he rfl
    obtain ⟨fs, hu, hi⟩ := fieldOf_spec hf
    split
    · rename_i hp
      refine QR.sound_val hp fun _ w _ _ _ _ => ?_
      simp only [execOp, hc, SV.den, Instr.field, Sem.run_bind, run_underlying hu, Result.andThen_ok, hi, asAgg, Sem.run_pure, part_run hp]
    · trivial
  · trivial

/-! fieldAddr -/
def qFieldAddr (P : Program) (st : St) (g : X) (t : TypeId) (x : Operand) (i : Nat) : QR :=
  match fieldOf P t i with
  | some f => (match tsize P f.type with
    | some (n + 1) => (match st.opr g x with
      | .loc l off => .val [] (.loc l (off + f.offset))
      | .ptr p => .val [] (.ptr (.fld p f.offset))
      | _ => .bad)
    | _ => .bad)
  | none => .bad
theorem at_add (c : CE) (off n : Nat) : (c.at off).add n = c.at (off + n) := by
  unfold Addr.add CE.at
  split
  · rename_i h; subst h; rfl
  · simp [Nat.add_assoc]
theorem sound_fieldAddr (hA : SatA G E st a) {g : X} (hg : vb (g.den G) = true) (t : TypeId) (x : Operand) (i : Nat) : (qFieldAddr P st g t x i).sound P G E a (.fieldAddr t x i) ty := by
  unfold qFieldAddr
  split
  · rename_i f hf
    obtain ⟨fs, hu, hi⟩ := fieldOf_spec hf
    split
    · rename_i n hn
      split
      · rename_i l off he
        have hc := opr_den hA hg he rfl
        refine QR.sound_val rfl fun _ w _ _ _ _ => ?_
        simp [execOp, hc, SV.den, Instr.fieldAt, Sem.run_bind, run_underlying hu, hi, Instr.sureAddr, CE.ptr, fieldPlace, run_tsize hn, at_add]
      · rename_i p he
        have hc := opr_den hA hg he rfl
        refine QR.sound_val rfl fun _ w _ _ _ _ => ?_
        simp [execOp, hc, SV.den, Instr.fieldAt, Sem.run_bind, run_underlying hu, hi, Instr.sureAddr, fieldPlace, run_tsize hn, PE.den]
      · trivial
    · trivial
  · trivial
end
end Go.Proofs.YtbgfabppmobpgaaDoor

/-
  The evaluator's step at operations that only compute: the rest of the kinds, and that it answers what the model answers. Conditions: none.
-/
set_option linter.unusedVariables false
set_option linter.unusedSimpArgs false
namespace Go.Proofs.YtbgfabppmobpgaaDoor
open Go

section
variable {P : Program} {G : List Value} {E : Nat → CE} {st : St} {a : Act} {ty : TypeId}

theorem n_geq {x y : X} (h : vb ((mkCmp .geq x y).den G) = true) : vi (y.den G) ≤ vi (x.den G) := by rw [mkCmp_den] at h; exact of_decide_eq_true h
theorem n_lss {x y : X} (h : vb ((mkCmp .lss x y).den G) = true) : vi (x.den G) < vi (y.den G) := by rw [mkCmp_den] at h; exact of_decide_eq_true h
theorem n_leq {x y : X} (h : vb ((mkCmp .leq x y).den G) = true) : vi (x.den G) ≤ vi (y.den G) := by rw [mkCmp_den] at h; exact of_decide_eq_true h
theorem n_neq {x y : X} (h : vb ((mkCmp .neq x y).den G) = true) : vi (x.den G) ≠ vi (y.den G) := by rw [mkCmp_den] at h; simpa [cmpOp] using h

/-- Shapes of what a state names. -/
def St.shape (st : St) (i : Nat) : Sh := st.sh.getD i .any
theorem shape_fits (hA : SatA G E st a) (i : Nat) : Fits (st.shape i) (gv G i) := by
  unfold St.shape
  rw [List.getD_eq_getElem?_getD]
  cases h : st.sh[i]? with
  | none => trivial
  | some s => exact hA.fits.get h

/-! indexAddr -/
/-- A slice: its first place, its length. -/
def slOf (st : St) : SV → Option (PE × X)
  | .val i => (match st.shape i with | .sl => some (.var i, .len i) | _ => none)
  | _ => none
def qIndexAddr (P : Program) (st : St) (g : X) (t : TypeId) (x i : Operand) : QR :=
  match P.underlying t with
  | some (.slice e) => (match tsize P e, st.opr g x, st.opr g i with
    | some n, .val j, .int k ix => (match st.shape j with
      | .sl => .val [mkCmp .geq ix (.lit 0), mkCmp .lss ix (.len j)] (.ptr (.idx (.var j) ix n))
      | _ => .bad)
    | some n, .lsl l m _, .int k (.lit z) => if decide (0 ≤ z) && decide (z < m) then .val [] (.loc l (z.toNat * n)) else .bad
    | _, _, _ => .bad)
  | some (.array m e) => (match tsize P e, st.opr g x, st.opr g i with
    | some n, .ptr p, .int k ix => .val [mkCmp .geq ix (.lit 0), mkCmp .lss ix (.lit m)] (.ptr (.idx p ix n))
    | some n, .loc l off, .int k (.lit z) => if decide (0 ≤ z) && decide (z < m) then .val [] (.loc l (off + z.toNat * n)) else .bad
    | _, _, _ => .bad)
  | _ => .bad
theorem sound_indexAddr (hA : SatA G E st a) {g : X} (hg : vb (g.den G) = true) (t : TypeId) (x i : Operand) : (qIndexAddr P st g t x i).sound P G E a (.indexAddr t x i) ty := by
  unfold qIndexAddr
  split
  · rename_i e hu
    split
    · rename_i n j k ix hn hx hi
      have hc := opr_den hA hg hx rfl
      have hd := opr_den hA hg hi rfl
      split
      · rename_i hs
        have hf := shape_fits hA j
        rw [hs] at hf
        obtain ⟨ad, m, c, hv, hz, hmc⟩ := hf
        refine QR.sound_val rfl fun hns w _ _ _ _ => ?_
        have h1 := n_geq (hns _ (List.mem_cons_self ..))
        have h2 := n_lss (hns _ (List.mem_cons_of_mem _ (List.mem_cons_self ..)))
        simp only [X.den, vi_int, hv, vlen_sl] at h1 h2
        cases ad with
        | none => exfalso; have := (hz rfl).1; omega
        | some ad =>
          simp [execOp, hc, hd, SV.den, Instr.indexAt, asIntOf, run_underlying hu, hv, h1, h2, run_tsize hn, PE.den]
      · trivial
    · rename_i n l m c k z hn hx hi
      have hc := opr_den hA hg hx rfl
      have hd := opr_den hA hg hi rfl
      split
      · rename_i hz
        simp only [Bool.and_eq_true, decide_eq_true_eq] at hz
        refine QR.sound_val rfl fun hns w _ _ _ _ => ?_
        simp [execOp, hc, hd, SV.den, X.den, Instr.indexAt, asIntOf, run_underlying hu, hz.1, hz.2, run_tsize hn, at_add, CE.ptr]
      · trivial
    · trivial
  · rename_i m e hu
    split
    · rename_i n p k ix hn hx hi
      have hc := opr_den hA hg hx rfl
      have hd := opr_den hA hg hi rfl
      refine QR.sound_val rfl fun hns w _ _ _ _ => ?_
      have h1 := n_geq (hns _ (List.mem_cons_self ..))
      have h2 := n_lss (hns _ (List.mem_cons_of_mem _ (List.mem_cons_self ..)))
      simp only [X.den, vi_int] at h1 h2
      simp [execOp, hc, hd, SV.den, Instr.indexAt, asIntOf, run_underlying hu, h1, h2, run_tsize hn, PE.den, Instr.sureAddr]
    · rename_i n l off k z hn hx hi
      have hc := opr_den hA hg hx rfl
      have hd := opr_den hA hg hi rfl
      split
      · rename_i hz
        simp only [Bool.and_eq_true, decide_eq_true_eq] at hz
        refine QR.sound_val rfl fun hns w _ _ _ _ => ?_
        simp [execOp, hc, hd, SV.den, X.den, Instr.indexAt, asIntOf, run_underlying hu, hz.1, hz.2, run_tsize hn, at_add, CE.ptr, Instr.sureAddr]
      · trivial
    · trivial
  · trivial

/-! index: of a string; of an array's value, at a constant -/
def qIndex (P : Program) (st : St) (g : X) (t : TypeId) (x i : Operand) : QR :=
  match P.underlying t, st.opr g x, st.opr g i with
  | some .string, .str s, .int k ix => .val [mkCmp .geq ix (.lit 0), mkCmp .lss ix (.slen s)] (.int .u8 (.byte s ix))
  | some (.array m e), .agg l, .int k (.lit z) => (match tsize P e with
    | some n => if decide (0 ≤ z) && decide (z < m) && (partS P e l (z.toNat * n)).plain then .val [] (partS P e l (z.toNat * n)) else .bad
    | none => .bad)
  | _, _, _ => .bad
theorem sound_index (hA : SatA G E st a) {g : X} (hg : vb (g.den G) = true) (t : TypeId) (x i : Operand) : (qIndex P st g t x i).sound P G E a (.index t x i) ty := by
  unfold qIndex
  split
  · rename_i s k ix hu hx hi
    have hc := opr_den hA hg hx rfl
    have hd := opr_den hA hg hi rfl
    refine QR.sound_val rfl fun hns w _ _ _ _ => ?_
    have h1 := n_geq (hns _ (List.mem_cons_self ..))
    have h2 := n_lss (hns _ (List.mem_cons_of_mem _ (List.mem_cons_self ..)))
    simp only [X.den, vi_int] at h1 h2
    have h3 : (vi (X.den G ix)).toNat < (vs (X.den G s)).size := by omega
    have h4 : (vs (X.den G s))[(vi (X.den G ix)).toNat]? = some ((vs (X.den G s)).data.getD (vi (X.den G ix)).toNat 0) := by
      rw [getElem?_pos (vs (X.den G s)) _ h3]
      have h5 : (vi (X.den G ix)).toNat < (vs (X.den G s)).data.size := h3
      rw [Array.getD, dif_pos h5]
      rfl
    simp [execOp, hc, hd, SV.den, X.den, Instr.index, asIntOf, run_underlying hu, h1, h4]
  · rename_i m e l k z hu hx hi
    have hc := opr_den hA hg hx rfl
    have hd := opr_den hA hg hi rfl
    split
    · rename_i n hn
      split
      · rename_i hz
        simp only [Bool.and_eq_true, decide_eq_true_eq] at hz
        refine QR.sound_val hz.2 fun hns w _ _ _ _ => ?_
        simp [execOp, hc, hd, SV.den, X.den, Instr.index, asIntOf, run_underlying hu, hz.1.1, hz.1.2, run_tsize hn, part_run hz.2]
      · trivial
    · trivial
  · trivial

/-! nilCheck -/
def qNil (st : St) (g : X) (x : Operand) : QR :=
  match st.opr g x with
  | .loc l off => .val [] (.loc l off)
  | .ptr p => .val [] (.ptr p)
  | .fn (.func f) l m => .val [] (.fn (.func f) l m)
  | .val i => (match st.shape i with
    | .ptr => .val [mkNot (.nilp i)] (.ptr (.var i))
    | _ => .bad)
  | _ => .bad
theorem sound_nil (hA : SatA G E st a) {g : X} (hg : vb (g.den G) = true) (x : Operand) : (qNil st g x).sound P G E a (.nilCheck x) ty := by
  unfold qNil
  split
  · rename_i l off he
    have hc := opr_den hA hg he rfl
    refine QR.sound_val rfl fun hns w _ _ _ _ => ?_
    simp [execOp, hc, SV.den, CE.ptr]
  · rename_i p he
    have hc := opr_den hA hg he rfl
    refine QR.sound_val rfl fun hns w _ _ _ _ => ?_
    simp [execOp, hc, SV.den]
  · rename_i f l m he
    have hc := opr_den hA hg he rfl
    refine QR.sound_val rfl fun hns w _ _ _ _ => ?_
    simp [execOp, hc, SV.den]
  · rename_i i he
    have hc := opr_den hA hg he rfl
    split
    · rename_i hs
      have hf := shape_fits hA i
      rw [hs] at hf
      obtain ⟨ad, hv⟩ := hf
      refine QR.sound_val rfl fun hns w _ _ _ _ => ?_
      have h1 := hns _ (List.mem_cons_self ..)
      simp only [mkNot_den, X.den, vb_bool, hv] at h1
      cases ad with
      | none => simp [vnil] at h1
      | some ad => simp [execOp, hc, SV.den, hv, PE.den]
    · trivial
  · trivial

/-! binOp -/
def mkAnd (a b : X) : X := match a, b with
  | .tt true, b => b
  | .tt false, _ => .tt false
  | a, .tt true => a
  | a, b => .and a b
theorem mkAnd_den {a b : X} : vb ((mkAnd a b).den G) = (vb (a.den G) && vb (b.den G)) := by
  unfold mkAnd
  split <;> simp [X.den]
/-- Are two values the same? -/
def eqFs (P : Program) (rec : TypeId → SV → SV → Option X) (l m : List SV) : List Field → Option X
  | [] => some (.tt true)
  | f :: fs => if f.name == "_" then none else
    match rec f.type (partS P f.type l f.offset) (partS P f.type m f.offset), eqFs P rec l m fs with
    | some a, some b => if (partS P f.type l f.offset).plain && (partS P f.type m f.offset).plain then some (mkAnd a b) else none
    | _, _ => none
def eqIs (P : Program) (rec : TypeId → SV → SV → Option X) (e : TypeId) (sz : Nat) (l m : List SV) : List Nat → Option X
  | [] => some (.tt true)
  | i :: is =>
    match rec e (partS P e l (i * sz)) (partS P e m (i * sz)), eqIs P rec e sz l m is with
    | some a, some b => if (partS P e l (i * sz)).plain && (partS P e m (i * sz)).plain then some (mkAnd a b) else none
    | _, _ => none
def eqX (P : Program) : Nat → TypeId → SV → SV → Option X
  | 0, _, _, _ => none
  | d + 1, t, s, u => match P.underlying t, s, u with
    | some (.int _), .int k e, .int k' f => if beqIK k k' then some (mkCmp .eql e f) else none
    | some .bool, .bool e, .bool f => some (mkIte e f (mkNot f))
    | some .string, .str e, .str f => some (.seq e f)
    | some (.struct fs), .agg l, .agg m => if P.stoodInHeld t then none else eqFs P (eqX P d) l m fs.toList
    | some (.array n e), .agg l, .agg m => (match tsize P e with
      | some sz => eqIs P (eqX P d) e sz l m (List.range n)
      | none => none)
    | _, _, _ => none
def isCmp : BinOp → Bool
  | .eql | .neq | .lss | .leq | .gtr | .geq => true
  | _ => false
def nonneg : X → List X
  | .lit n => if decide (0 ≤ n) then [] else [.tt false]
  | e => [mkCmp .geq e (.lit 0)]
def nonzero : X → List X
  | .lit n => if beqInt n 0 then [.tt false] else []
  | e => [mkCmp .neq e (.lit 0)]
def nilV : SV → Bool
  | .cst (.pointer none) | .cst (.slice none 0 0) | .cst (.map none) | .cst .nilFunc => true
  | _ => false
def nilOk : TypeDesc → Sh → Bool
  | .pointer _, .ptr => true
  | .slice _, .sl => true
  | .map _ _, .map => true
  | _, _ => false
def nilIs (d : TypeDesc) (v : SV) : Bool :=
  match d, v with
  | .pointer _, .cst (.pointer none) => true
  | .slice _, .cst (.slice none 0 0) => true
  | .map _ _, .cst (.map none) => true
  | _, _ => false
def qBin (P : Program) (st : St) (g : X) (o : BinOp) (t : TypeId) (x y : Operand) : QR :=
  match st.opr g x, st.opr g y with
  | .int k e, .int k' f =>
    (match o with
    | .shl | .shr => .val (nonneg f) (.int k (.op o k e f))
    | _ => if beqIK k k' then (match o with
      | .add | .sub | .mul | .and | .or | .xor | .andNot => .val [] (.int k (mkOp o k e f))
      | .quo | .rem => .val (nonzero f) (.int k (.op o k e f))
      | _ => .val [] (.bool (mkCmp o e f))) else .bad)
  | .bool e, .bool f => (match o, P.underlying t with
    | .eql, some .bool => .val [] (.bool (mkIte e f (mkNot f)))
    | .neq, some .bool => .val [] (.bool (mkIte e (mkNot f) f))
    | _, _ => .bad)
  | .str e, .str f => (match o with
    | .eql => .val [] (.bool (.seq e f))
    | .neq => .val [] (.bool (.not (.seq e f)))
    | .add => .bnd [mkCmp .leq (.slen f) (.lit 9223372036854775807), mkCmp .leq (.slen e) (.op .sub .i64 (.lit 9223372036854775807) (.slen f))] .str (.cat e f)
    | .lss => .bnd [] .bool (.scmp .lss e f)
    | .leq => .bnd [] .bool (.scmp .leq e f)
    | .gtr => .bnd [] .bool (.scmp .gtr e f)
    | .geq => .bnd [] .bool (.scmp .geq e f)
    | _ => .bad)
  | .agg l, .agg m => if P.eqGuardType P.depth t then .bad else (match o, eqX P 6 t (.agg l) (.agg m) with
    | .eql, some e => .val [] (.bool e)
    | .neq, some e => .val [] (.bool (mkNot e))
    | _, _ => .bad)
  | .val i, v => (match P.underlying t with
    | some d => if nilOk d (st.shape i) && nilIs d v then (match o with
      | .eql => .val [] (.bool (.nilp i))
      | .neq => .val [] (.bool (.not (.nilp i)))
      | _ => .bad) else .bad
    | none => .bad)
  | _, _ => .bad
theorem nonneg_den {f : X} (h : ∀ x ∈ nonneg f, vb (x.den G) = true) : 0 ≤ vi (f.den G) := by
  unfold nonneg at h
  split at h
  · split at h
    · rename_i h0; simpa [X.den] using h0
    · have := h _ (List.mem_cons_self ..); simp [X.den] at this
  · have := h _ (List.mem_cons_self ..)
    simpa [mkCmp_den, cmpOp, X.den] using this
theorem nonzero_den {f : X} (h : ∀ x ∈ nonzero f, vb (x.den G) = true) : vi (f.den G) ≠ 0 := by
  unfold nonzero at h
  split at h
  · split at h
    · have := h _ (List.mem_cons_self ..); simp [X.den] at this
    · rename_i n h0
      simp only [X.den, vi_int]
      intro h1
      rw [h1] at h0
      exact h0 (by decide)
  · have := h _ (List.mem_cons_self ..)
    simpa [mkCmp_den, cmpOp, X.den] using this
end
end Go.Proofs.YtbgfabppmobpgaaDoor

/-
  The evaluator's step at operations that only compute: operators, conversions, lengths, literals, pieces of slices; all kinds under one name. Conditions: none.
-/
set_option linter.unusedVariables false
set_option linter.unusedSimpArgs false
namespace Go.Proofs.YtbgfabppmobpgaaDoor
open Go

section
variable {P : Program} {G : List Value} {E : Nat → CE} {st : St} {a : Act} {ty : TypeId}
theorem run_v {α : Type} {w : World} {s : Sem Value} {v : Value} (h : s.run P w = .ok v w) : (do let x ← s; pure (Next.value x) : Sem Next).run P w = .ok (.value v) w := by
  simp [h]
theorem wrap64_of (n : Int) (h1 : -9223372036854775808 ≤ n) (h2 : n ≤ 9223372036854775807) : IntKind.i64.wrap n = n := by
  unfold IntKind.wrap
  simp only [IntKind.bits, IntKind.signed, Bool.true_and]
  split <;> (rename_i h; simp at h; omega)

theorem equal_of {w : World} {t : TypeId} {x y : Value} {b : Bool} (h : ∀ d, (Op.equalIn (d + 1) t x y).run P w = .ok b w) : (Op.equal t x y).run P w = .ok b w := h 9999
theorem equal_bool {w : World} {t : TypeId} (hu : P.underlying t = some .bool) (x y : Bool) : (Op.equal t (.bool x) (.bool y)).run P w = .ok (x == y) w :=
  equal_of fun d => by simp only [Op.equalIn, Sem.run_bind, run_underlying hu, Result.andThen_ok, Sem.run_pure]
theorem equal_ptr {w : World} {t e : TypeId} (hu : P.underlying t = some (.pointer e)) (x : Option Addr) : (Op.equal t (.pointer x) (.pointer none)).run P w = .ok x.isNone w :=
  equal_of fun d => by cases x <;> simp only [Op.equalIn, Sem.run_bind, run_underlying hu, Result.andThen_ok, Sem.run_pure] <;> rfl
theorem equal_sl {w : World} {t e : TypeId} (hu : P.underlying t = some (.slice e)) (x : Option Addr) (n c n' c' : Nat) : (Op.equal t (.slice x n c) (.slice none n' c')).run P w = .ok x.isNone w :=
  equal_of fun d => by cases x <;> simp only [Op.equalIn, Sem.run_bind, run_underlying hu, Result.andThen_ok, Sem.run_pure] <;> rfl
theorem equal_map {w : World} {t k e : TypeId} (hu : P.underlying t = some (.map k e)) (x : Option Nat) : (Op.equal t (.map x) (.map none)).run P w = .ok x.isNone w :=
  equal_of fun d => by cases x <;> simp only [Op.equalIn, Sem.run_bind, run_underlying hu, Result.andThen_ok, Sem.run_pure] <;> rfl
theorem eqFs_run {w : World} {d n : Nat} {l m : List SV} (ih : ∀ {t : TypeId} {s u : SV} {e : X}, eqX P n t s u = some e → (Op.equalIn d t (s.den G E) (u.den G E)).run P w = .ok (vb (e.den G)) w) :
    ∀ {fs : List Field} {e : X}, eqFs P (eqX P n) l m fs = some e → (Op.eqFields d (SV.denL G E l).toArray (SV.denL G E m).toArray fs).run P w = .ok (vb (e.den G)) w
  | [], e, h => by simp only [eqFs, Option.some.injEq] at h; subst h; rfl
  | f :: fs, e, h => by
    unfold eqFs at h
    split at h
    · cases h
    · rename_i hn
      split at h
      · rename_i x y hx hy
        split at h
        · rename_i hp
          simp only [Bool.and_eq_true] at hp
          cases h
          have hn' : f.name ≠ "_" := by intro e; apply hn; rw [e]; rfl
          simp only [Op.eqFields, hn', ne_eq, not_false_eq_true, if_true, Sem.run_bind, part_run hp.1, part_run hp.2, Result.andThen_ok, ih hx]
          rw [mkAnd_den]
          cases hb : vb (x.den G) with
          | false => simp
          | true => simp [eqFs_run ih hy]
        · cases h
      · cases h
theorem cells_of {e : TypeId} {sz : Nat} (h : tsize P e = some sz) : ∃ i, P.info? e = some i ∧ P.cellsOf e = sz := by
  unfold tsize at h
  cases hi : P.info? e with
  | none => rw [hi] at h; cases h
  | some i => rw [hi] at h; cases h; exact ⟨i, rfl, by simp [Program.cellsOf, hi]⟩
theorem eqIs_run {w : World} {d n sz : Nat} {e : TypeId} {l m : List SV} (ih : ∀ {t : TypeId} {s u : SV} {e : X}, eqX P n t s u = some e → (Op.equalIn d t (s.den G E) (u.den G E)).run P w = .ok (vb (e.den G)) w) :
    ∀ {is : List Nat} {x : X}, eqIs P (eqX P n) e sz l m is = some x → (Op.eqItems d e sz (SV.denL G E l).toArray (SV.denL G E m).toArray is).run P w = .ok (vb (x.den G)) w
  | [], x, h => by simp only [eqIs, Option.some.injEq] at h; subst h; rfl
  | i :: is, x, h => by
    unfold eqIs at h
    split at h
    · rename_i a b ha hb
      split at h
      · rename_i hp
        simp only [Bool.and_eq_true] at hp
        cases h
        simp only [Op.eqItems, Sem.run_bind, part_run hp.1, part_run hp.2, Result.andThen_ok, ih ha]
        rw [mkAnd_den]
        cases hv : vb (a.den G) with
        | false => simp
        | true => simp [eqIs_run ih hb]
      · cases h
    · cases h
theorem eqX_run {w : World} : ∀ {n : Nat} {t : TypeId} {s u : SV} {e : X}, eqX P n t s u = some e → ∀ d, n ≤ d → (Op.equalIn d t (s.den G E) (u.den G E)).run P w = .ok (vb (e.den G)) w := by
  intro n
  induction n with
  | zero => intro t s u e h; cases h
  | succ n ih =>
    intro t s u e h d hd
    obtain ⟨d, rfl⟩ : ∃ m, d = m + 1 := ⟨d - 1, by omega⟩
    unfold eqX at h
    split at h
    · rename_i k0 k e1 k' f1 hu
      split at h
      · rename_i hk
        cases h
        rw [beqIK_eq hk]
        simp only [SV.den]
        rw [run_equalIn_int w d t _ _ _ _ hu, mkCmp_den]; rfl
      · cases h
    · rename_i e1 f1 hu
      cases h
      simp only [SV.den]
      rw [run_equalIn_bool' w d t _ _ hu, mkIte_den]
      cases vb (e1.den G) <;> cases hb : vb (f1.den G) <;> simp [hb, mkNot_den]
    · rename_i e1 f1 hu
      cases h
      simp only [SV.den]
      rw [run_equalIn_string w d t _ _ hu]; rfl
    · rename_i fs l m hu
      split at h
      · cases h
      · rename_i hs
        have hs' : P.stoodInHeld t = false := by simpa using hs
        have hf : P.fieldsOf t = fs := by unfold Program.fieldsOf; rw [hu]
        simp only [SV.den]
        rw [run_equalIn_struct w d t _ _ (by rw [hf]; exact hu) hs', hf]
        exact eqFs_run (fun hx => ih hx d (by omega)) h
    · rename_i n' e' l m hu
      split at h
      · rename_i sz hsz
        have hi : ∃ i, P.info? e' = some i ∧ P.cellsOf e' = sz := cells_of hsz
        obtain ⟨i, hi, hc⟩ := hi
        simp only [SV.den]
        rw [run_equalIn_array w d _ _ hu hi, hc]
        exact eqIs_run (fun hx => ih hx d (by omega)) h
      · cases h
    · cases h
theorem nilIs_spec {d : TypeDesc} {v : SV} (h : nilIs d v = true) :
    (∃ e, d = .pointer e ∧ v = .cst (.pointer none)) ∨ (∃ e, d = .slice e ∧ v = .cst (.slice none 0 0)) ∨ (∃ k e, d = .map k e ∧ v = .cst (.map none)) := by
  unfold nilIs at h
  split at h
  · exact .inl ⟨_, rfl, rfl⟩
  · exact .inr (.inl ⟨_, rfl, rfl⟩)
  · exact .inr (.inr ⟨_, _, rfl, rfl⟩)
  · cases h
theorem sound_bin (hA : SatA G E st a) {g : X} (hg : vb (g.den G) = true) (o : BinOp) (t : TypeId) (x y : Operand) (yt : TypeId) :
    (qBin P st g o t x y).sound P G E a (.binOp o t x y yt) ty := by
  unfold qBin
  split
  · rename_i k e k' f hx hy
    have hc := opr_den hA hg hx rfl
    have hd := opr_den hA hg hy rfl
    split
    · refine QR.sound_val rfl fun hns w _ _ _ _ => ?_
      have h0 := nonneg_den hns
      simp [execOp, hc, hd, SV.den, X.den, eqGuard, binOp, Op.shift, intOp, show ¬ (vi (X.den G f) < 0) by omega]
    · refine QR.sound_val rfl fun hns w _ _ _ _ => ?_
      have h0 := nonneg_den hns
      simp [execOp, hc, hd, SV.den, X.den, eqGuard, binOp, Op.shift, intOp, show ¬ (vi (X.den G f) < 0) by omega]
    · split
      · rename_i hk
        have := beqIK_eq hk
        subst this
        cases o <;> dsimp only <;> first | contradiction | skip
        all_goals refine QR.sound_val rfl fun hns w _ _ _ _ => ?_
        all_goals first
          | (simp [execOp, hc, hd, SV.den, eqGuard, binOp, Op.intArith, Op.intBits, Op.intCmp, mkOp_den, mkCmp_den, intOp, cmpOp]; done)
          | (have h0 := nonzero_den hns
             simp [execOp, hc, hd, SV.den, X.den, eqGuard, binOp, Op.intDiv, intOp, h0])
      · trivial
  · rename_i e f hx hy
    have hc := opr_den hA hg hx rfl
    have hd := opr_den hA hg hy rfl
    split
    · rename_i hu
      refine QR.sound_val rfl fun hns w _ _ _ _ => ?_
      simp only [execOp, hc, hd, SV.den, eqGuard, binOp, Sem.run_bind, equal_bool hu, Result.andThen_ok, Sem.run_pure, mkIte_den]
      cases vb (X.den G e) <;> cases h : vb (X.den G f) <;> simp [h, mkNot_den]
    · rename_i hu
      refine QR.sound_val rfl fun hns w _ _ _ _ => ?_
      simp only [execOp, hc, hd, SV.den, eqGuard, binOp, Sem.run_bind, equal_bool hu, Result.andThen_ok, Sem.run_pure, mkIte_den]
      cases vb (X.den G e) <;> cases h : vb (X.den G f) <;> simp [h, mkNot_den]
    · trivial
  · rename_i e f hx hy
    have hc := opr_den hA hg hx rfl
    have hd := opr_den hA hg hy rfl
    split
    · refine QR.sound_val rfl fun hns w _ _ _ _ => ?_
      simp [execOp, hc, hd, SV.den, X.den, eqGuard, binOp, Op.stringOp]
    · refine QR.sound_val rfl fun hns w _ _ _ _ => ?_
      simp [execOp, hc, hd, SV.den, X.den, eqGuard, binOp, Op.stringOp]
    · intro hns
      refine ⟨⟨_, rfl⟩, fun w _ _ _ _ => ?_⟩
      have h1 := n_leq (hns _ (List.mem_cons_self ..))
      have h2 := n_leq (hns _ (List.mem_cons_of_mem _ (List.mem_cons_self ..)))
      simp only [X.den, vi_int] at h1 h2
      have h3 : intOp .sub .i64 9223372036854775807 ((vs (X.den G f)).size : Int) = 9223372036854775807 - ((vs (X.den G f)).size : Int) := by
        unfold intOp; exact wrap64_of _ (by omega) (by omega)
      rw [h3] at h2
      have h4 : ¬ (((vs (X.den G e)).size + (vs (X.den G f)).size : Nat) : Int) > IntKind.i64.max := by
        have : IntKind.i64.max = 9223372036854775807 := by decide
        rw [this]; omega
      simp only [execOp, hc, hd, SV.den, eqGuard, binOp, Op.stringOp, LF.den, h4, if_false]
      simp
    all_goals first
      | trivial
      | (intro hns
         refine ⟨⟨_, rfl⟩, fun w _ _ _ _ => ?_⟩
         simp [execOp, hc, hd, SV.den, LF.den, scmpOp, eqGuard, binOp, Op.stringOp])
  · rename_i l m hx hy
    have hc := opr_den hA hg hx rfl
    have hd := opr_den hA hg hy rfl
    split
    · trivial
    · rename_i hgt
      have hgt' : P.eqGuardType P.depth t = false := by simpa using hgt
      split
      · rename_i e he
        refine QR.sound_val rfl fun hns w _ _ _ _ => ?_
        have := eqX_run (G := G) (E := E) (w := w) he 10000 (by decide)
        simp only [SV.den] at this
        simp only [execOp, hc, hd, SV.den, Sem.run_bind, run_eqGuard_agg w _ t x y _ _ hgt', Result.andThen_ok, run_eql_struct, this, Sem.run_pure]
      · rename_i e he
        refine QR.sound_val rfl fun hns w _ _ _ _ => ?_
        have := eqX_run (G := G) (E := E) (w := w) he 10000 (by decide)
        simp only [SV.den] at this
        simp only [execOp, hc, hd, SV.den, Sem.run_bind, run_eqGuard_agg w _ t x y _ _ hgt', Result.andThen_ok, run_neq_struct, this, Sem.run_pure, mkNot_den]
      · trivial
  · rename_i i hx
    have hc := opr_den hA hg hx rfl
    split
    · rename_i d hu
      split
      · rename_i h
        generalize hy : st.opr g y = v at h
        simp only [Bool.and_eq_true] at h
        have hf := shape_fits hA i
        rcases nilIs_spec h.2 with ⟨el, rfl, rfl⟩ | ⟨el, rfl, rfl⟩ | ⟨k, el, rfl, rfl⟩
        · have hd := opr_den hA hg hy rfl
          obtain ⟨ad, hv⟩ : ∃ ad, gv G i = .pointer ad := by
            have h1 := h.1
            unfold nilOk at h1
            split at h1 <;> first | (rename_i hs; rw [hs] at hf; exact hf) | contradiction
          split
          · refine QR.sound_val rfl fun hns w _ _ _ _ => ?_
            cases ad <;> simp [execOp, hc, hd, SV.den, X.den, hv, eqGuard, binOp, equal_ptr hu, vnil]
          · refine QR.sound_val rfl fun hns w _ _ _ _ => ?_
            cases ad <;> simp [execOp, hc, hd, SV.den, X.den, hv, eqGuard, binOp, equal_ptr hu, vnil]
          · trivial
        · have hd := opr_den hA hg hy rfl
          obtain ⟨ad, n, c, hv, _⟩ : ∃ a n c, gv G i = .slice a n c ∧ True := by
            have h1 := h.1
            unfold nilOk at h1
            split at h1 <;> first | (rename_i hs; rw [hs] at hf; obtain ⟨a, n, c, hv, _⟩ := hf; exact ⟨a, n, c, hv, trivial⟩) | contradiction
          split
          · refine QR.sound_val rfl fun hns w _ _ _ _ => ?_
            cases ad <;> simp [execOp, hc, hd, SV.den, X.den, hv, eqGuard, binOp, equal_sl hu, vnil]
          · refine QR.sound_val rfl fun hns w _ _ _ _ => ?_
            cases ad <;> simp [execOp, hc, hd, SV.den, X.den, hv, eqGuard, binOp, equal_sl hu, vnil]
          · trivial
        · have hd := opr_den hA hg hy rfl
          obtain ⟨ad, hv⟩ : ∃ r, gv G i = .map r := by
            have h1 := h.1
            unfold nilOk at h1
            split at h1 <;> first | (rename_i hs; rw [hs] at hf; exact hf) | contradiction
          split
          · refine QR.sound_val rfl fun hns w _ _ _ _ => ?_
            cases ad <;> simp [execOp, hc, hd, SV.den, X.den, hv, eqGuard, binOp, equal_map hu, vnil]
          · refine QR.sound_val rfl fun hns w _ _ _ _ => ?_
            cases ad <;> simp [execOp, hc, hd, SV.den, X.den, hv, eqGuard, binOp, equal_map hu, vnil]
          · trivial
      · trivial
    · trivial
  · trivial
end
end Go.Proofs.YtbgfabppmobpgaaDoor

/-
  The evaluator's step at operations that only compute: lengths, conversions, literals of structs, pieces of slices; all kinds under one name. Conditions: none.
-/
set_option linter.unusedVariables false
set_option linter.unusedSimpArgs false
namespace Go.Proofs.YtbgfabppmobpgaaDoor
open Go

section
variable {P : Program} {G : List Value} {E : Nat → CE} {st : St} {a : Act} {ty : TypeId}

/-! unOp -/
def qUn (st : St) (g : X) (o : UnOp) (x : Operand) : QR :=
  match o, st.opr g x with
  | .not, .bool e => .val [] (.bool (mkNot e))
  | .neg, .int k e => .val [] (.int k (mkOp .sub k (.lit 0) e))
  | .xor, .int k e => .val [] (.int k (.op .xor k (.lit (if k.signed then -1 else k.max)) e))
  | _, _ => .bad
theorem sound_un (hA : SatA G E st a) {g : X} (hg : vb (g.den G) = true) (o : UnOp) (t : TypeId) (x : Operand) : (qUn st g o x).sound P G E a (.unOp o t x) ty := by
  unfold qUn
  split
  · rename_i e hx
    have hc := opr_den hA hg hx rfl
    refine QR.sound_val rfl fun hns w _ _ _ _ => ?_
    simp [execOp, hc, SV.den, Op.unary, mkNot_den]
  · rename_i k e hx
    have hc := opr_den hA hg hx rfl
    refine QR.sound_val rfl fun hns w _ _ _ _ => ?_
    simp [execOp, hc, SV.den, Op.unary, Op.intArith, mkOp_den, intOp, X.den]
  · rename_i k e hx
    have hc := opr_den hA hg hx rfl
    refine QR.sound_val rfl fun hns w _ _ _ _ => ?_
    simp [execOp, hc, SV.den, Op.unary, Op.intBits, intOp, X.den]
  · trivial

/-! convert -/
def qConv (P : Program) (st : St) (g : X) (s d : TypeId) (x : Operand) : QR :=
  match P.underlying s, P.underlying d, st.opr g x with
  | some _, some (.int k), .int _ e => .val [] (.int k (mkConv k e))
  | some .string, some .string, .str e => .val [] (.str e)
  | _, _, _ => .bad
theorem sound_conv (hA : SatA G E st a) {g : X} (hg : vb (g.den G) = true) (s d : TypeId) (x : Operand) : (qConv P st g s d x).sound P G E a (.convert s d x) ty := by
  unfold qConv
  split
  · rename_i ds k k' e hs hd hx
    have hc := opr_den hA hg hx rfl
    refine QR.sound_val rfl fun hns w _ _ _ _ => ?_
    simp only [execOp, hc, SV.den, Sem.run_bind, convert, run_underlying hs, run_underlying hd, Result.andThen_ok]
    simp [Conv.intToInt, mkConv_den]
  · rename_i e hs hd hx
    have hc := opr_den hA hg hx rfl
    refine QR.sound_val rfl fun hns w _ _ _ _ => ?_
    simp [execOp, hc, SV.den, convert, run_underlying hs, run_underlying hd]
  · trivial

/-! len, cap, min, max -/
def lenX (st : St) : SV → Option X
  | .val i => (match st.shape i with | .sl => some (.len i) | _ => none)
  | .cst (.slice none 0 0) => some (.lit 0)
  | .lsl _ n _ => some (.lit n)
  | _ => none
def capX (st : St) : SV → Option X
  | .val i => (match st.shape i with | .sl => some (.cap i) | _ => none)
  | .cst (.slice none 0 0) => some (.lit 0)
  | .lsl _ _ c => some (.lit c)
  | _ => none
theorem lenX_den (hA : SatA G E st a) {s : SV} {e : X} (h : lenX st s = some e) : ∃ ad n c, s.den G E = .slice ad n c ∧ e.den G = .int .i64 n ∧ s.plain = true := by
  unfold lenX at h
  split at h
  · rename_i i
    split at h
    · rename_i hs
      cases h
      have hf := shape_fits hA i
      rw [hs] at hf
      obtain ⟨ad, n, c, hv, _⟩ := hf
      exact ⟨ad, n, c, hv, by simp [X.den, hv], rfl⟩
    · cases h
  · cases h; exact ⟨none, 0, 0, rfl, rfl, rfl⟩
  · cases h; exact ⟨_, _, _, rfl, rfl, rfl⟩
  · cases h
theorem capX_den (hA : SatA G E st a) {s : SV} {e : X} (h : capX st s = some e) : ∃ ad n c, s.den G E = .slice ad n c ∧ e.den G = .int .i64 c ∧ s.plain = true := by
  unfold capX at h
  split at h
  · rename_i i
    split at h
    · rename_i hs
      cases h
      have hf := shape_fits hA i
      rw [hs] at hf
      obtain ⟨ad, n, c, hv, _⟩ := hf
      exact ⟨ad, n, c, hv, by simp [X.den, hv], rfl⟩
    · cases h
  · cases h; exact ⟨none, 0, 0, rfl, rfl, rfl⟩
  · cases h; exact ⟨_, _, _, rfl, rfl, rfl⟩
  · cases h
def qLen (P : Program) (st : St) (g : X) (t : TypeId) (x : Operand) : QR :=
  match P.underlying t, st.opr g x with
  | some .string, .str s => .val [] (.int .i64 (.slen s))
  | some (.array n _), _ => .val [] (.int .i64 (.lit n))
  | some (.slice _), s => (match lenX st s with | some e => .val [] (.int .i64 e) | none => .bad)
  | _, _ => .bad
def qCap (P : Program) (st : St) (g : X) (t : TypeId) (x : Operand) : QR :=
  match P.underlying t, st.opr g x with
  | some (.slice _), s => (match capX st s with | some e => .val [] (.int .i64 e) | none => .bad)
  | _, _ => .bad
def minX (k : IntKind) (x : X) : List SV → Option X
  | [] => some x
  | .int k' y :: l => if beqIK k k' then minX k (mkIte (mkCmp .lss y x) y x) l else none
  | _ => none
def maxX (k : IntKind) (x : X) : List SV → Option X
  | [] => some x
  | .int k' y :: l => if beqIK k k' then maxX k (mkIte (mkCmp .gtr y x) y x) l else none
  | _ => none
theorem minX_run {k : IntKind} {w : World} : ∀ {l : List SV} {x e : X}, minX k x l = some e → ((SV.denL G E l).foldlM Builtin.min2 (.int k (vi (x.den G)))).run P w = .ok (.int k (vi (e.den G))) w
  | [], x, e, h => by simp only [minX, Option.some.injEq] at h; subst h; simp [SV.denL]
  | s :: l, x, e, h => by
    unfold minX at h
    split at h
    · cases ‹s :: l = []›
    · rename_i k' y l' he
      cases he
      split at h
      · have := minX_run (w := w) h
        simp only [SV.denL, SV.den, List.foldlM_cons, Builtin.min2, Sem.run_bind, Sem.run_pure, Result.andThen_ok]
        rw [mkIte_den, mkCmp_den] at this
        have e1 : vi (if cmpOp .lss (vi (y.den G)) (vi (x.den G)) = true then y.den G else x.den G) = if vi (y.den G) < vi (x.den G) then vi (y.den G) else vi (x.den G) := by
          simp only [cmpOp, decide_eq_true_eq]; split <;> rfl
        rw [e1] at this
        exact this
      · cases h
    · cases h
theorem maxX_run {k : IntKind} {w : World} : ∀ {l : List SV} {x e : X}, maxX k x l = some e → ((SV.denL G E l).foldlM Builtin.max2 (.int k (vi (x.den G)))).run P w = .ok (.int k (vi (e.den G))) w
  | [], x, e, h => by simp only [maxX, Option.some.injEq] at h; subst h; simp [SV.denL]
  | s :: l, x, e, h => by
    unfold maxX at h
    split at h
    · cases ‹s :: l = []›
    · rename_i k' y l' he
      cases he
      split at h
      · have := maxX_run (w := w) h
        simp only [SV.denL, SV.den, List.foldlM_cons, Builtin.max2, Sem.run_bind, Sem.run_pure, Result.andThen_ok]
        rw [mkIte_den, mkCmp_den] at this
        have e1 : vi (if cmpOp .gtr (vi (y.den G)) (vi (x.den G)) = true then y.den G else x.den G) = if vi (y.den G) > vi (x.den G) then vi (y.den G) else vi (x.den G) := by
          simp only [cmpOp, decide_eq_true_eq]; split <;> rfl
        rw [e1] at this
        exact this
      · cases h
    · cases h
def qBuiltin (P : Program) (st : St) (g : X) (b : Builtin) (ts : Array TypeId) (xs : Array Operand) : QR :=
  match b, ts.toList, xs.toList with
  | .len, [t], [x] => qLen P st g t x
  | .cap, [t], [x] => qCap P st g t x
  | .min, _, x :: l => (match st.opr g x with
    | .int k e => if allPlain (l.map (st.opr g)) then (match minX k e (l.map (st.opr g)) with | some e => .val [] (.int k e) | none => .bad) else .bad
    | _ => .bad)
  | .max, _, x :: l => (match st.opr g x with
    | .int k e => if allPlain (l.map (st.opr g)) then (match maxX k e (l.map (st.opr g)) with | some e => .val [] (.int k e) | none => .bad) else .bad
    | _ => .bad)
  | _, _, _ => .bad
theorem oprsL_den (hA : SatA G E st a) {g : X} (hg : vb (g.den G) = true) (l : List Operand) (hp : allPlain (l.map (st.opr g)) = true) :
    l.map a.eval = SV.denL G E (l.map (st.opr g)) := by
  simp only [SV.denL_eq, List.map_map]
  apply List.map_congr_left
  intro x hx
  simp only [allPlain, List.all_eq_true, List.mem_map] at hp
  exact opr_den hA hg rfl (hp _ ⟨x, hx, rfl⟩)
theorem sound_builtin (hA : SatA G E st a) {g : X} (hg : vb (g.den G) = true) (b : Builtin) (ts : Array TypeId) (xs : Array Operand) :
    (qBuiltin P st g b ts xs).sound P G E a (.call { callee := .builtin b, args := xs, argTypes := ts }) ty := by
  obtain ⟨ts⟩ := ts
  obtain ⟨xs⟩ := xs
  unfold qBuiltin
  split
  · rename_i t x e1 e2
    simp only at e1 e2; subst e1; subst e2
    unfold qLen
    split
    · rename_i s hu hx
      have hc := opr_den hA hg hx rfl
      refine QR.sound_val rfl fun hns w _ _ _ _ => ?_
      simp [execOp, resolve, invoke, builtin, Builtin.len_, hc, SV.den, run_underlying hu, X.den, goInt]
    · rename_i n _ hu
      refine QR.sound_val rfl fun hns w _ _ _ _ => ?_
      simp [execOp, resolve, invoke, builtin, Builtin.len_, SV.den, run_underlying hu, X.den, goInt]
    · rename_i el hu
      split
      · rename_i e hl
        obtain ⟨ad, n, c, h1, h2, h3⟩ := lenX_den (E := E) hA hl
        have hc := opr_den hA hg rfl h3
        refine QR.sound_val rfl fun hns w _ _ _ _ => ?_
        simp [execOp, resolve, invoke, builtin, Builtin.len_, hc, h1, h2, SV.den, run_underlying hu, X.den, goInt]
      · trivial
    · trivial
  · rename_i t x e1 e2
    simp only at e1 e2; subst e1; subst e2
    unfold qCap
    split
    · rename_i el hu
      split
      · rename_i e hl
        obtain ⟨ad, n, c, h1, h2, h3⟩ := capX_den (E := E) hA hl
        have hc := opr_den hA hg rfl h3
        refine QR.sound_val rfl fun hns w _ _ _ _ => ?_
        simp [execOp, resolve, invoke, builtin, Builtin.cap_, hc, h1, h2, SV.den, run_underlying hu, X.den, goInt]
      · trivial
    · trivial
  · rename_i x l e2
    simp only at e2; subst e2
    split
    · rename_i k e hx
      have hc := opr_den hA hg hx rfl
      split
      · rename_i hp
        split
        · rename_i e' hm
          refine QR.sound_val rfl fun hns w _ _ _ _ => ?_
          have := minX_run (P := P) (G := G) (E := E) (w := w) hm
          rw [← oprsL_den hA hg l hp] at this
          simp only [execOp, resolve, invoke, builtin, Builtin.min_, Sem.run_bind, Sem.run_pure, Result.andThen_ok, List.map_toArray, List.map_cons, hc, SV.den]
          rw [this]; rfl
        · trivial
      · trivial
    · trivial
  · rename_i x l e2
    simp only at e2; subst e2
    split
    · rename_i k e hx
      have hc := opr_den hA hg hx rfl
      split
      · rename_i hp
        split
        · rename_i e' hm
          refine QR.sound_val rfl fun hns w _ _ _ _ => ?_
          have := maxX_run (P := P) (G := G) (E := E) (w := w) hm
          rw [← oprsL_den hA hg l hp] at this
          simp only [execOp, resolve, invoke, builtin, Builtin.max_, Sem.run_bind, Sem.run_pure, Result.andThen_ok, List.map_toArray, List.map_cons, hc, SV.den]
          rw [this]; rfl
        · trivial
      · trivial
    · trivial
  · trivial
end
end Go.Proofs.YtbgfabppmobpgaaDoor

/-
  The evaluator's step at operations that only compute: literals of structs, pieces of slices and strings; all kinds under one name. Conditions: none.
-/
set_option linter.unusedVariables false
set_option linter.unusedSimpArgs false
namespace Go.Proofs.YtbgfabppmobpgaaDoor
open Go

section
variable {P : Program} {G : List Value} {E : Nat → CE} {st : St} {a : Act} {ty : TypeId}

/-! build: of a struct -/
def St.one (st : St) : SV → Bool
  | .val i => (match st.shape i with | .any => false | _ => true)
  | s => s.one
theorem one_cells (hA : SatA G E st a) {s : SV} (h : st.one s = true) : (s.den G E).cells = #[s.den G E] ∧ s.plain = true ∧ (s.den G E).oneCell' = true := by
  unfold St.one at h
  split at h
  · rename_i i
    have hf := shape_fits hA i
    cases hs : st.shape i <;> simp only [hs] at h hf <;> simp only [SV.den]
    · obtain ⟨n, hv⟩ := hf; rw [hv]; exact ⟨rfl, rfl, rfl⟩
    · obtain ⟨n, hv⟩ := hf; rw [hv]; exact ⟨rfl, rfl, rfl⟩
    · obtain ⟨n, hv⟩ := hf; rw [hv]; exact ⟨rfl, rfl, rfl⟩
    · obtain ⟨_, _, _, hv, _⟩ := hf; rw [hv]; exact ⟨rfl, rfl, rfl⟩
    · obtain ⟨n, hv⟩ := hf; rw [hv]; exact ⟨rfl, rfl, rfl⟩
    · obtain ⟨n, hv⟩ := hf; rw [hv]; exact ⟨rfl, rfl, rfl⟩
    · rcases hf with hv | ⟨_, _, _, hv⟩ <;> rw [hv] <;> exact ⟨rfl, rfl, rfl⟩
    · cases h
  · unfold SV.one at h
    split at h <;> first | exact ⟨rfl, rfl, rfl⟩ | contradiction
def St.parts (st : St) (s : SV) : Option (List SV) :=
  match s with
  | .agg l => if allPlain l then some l else none
  | s => if st.one s then some [s] else none
theorem parts_den (hA : SatA G E st a) {s : SV} {l : List SV} (h : st.parts s = some l) : (s.den G E).cells = (SV.denL G E l).toArray ∧ s.plain = true ∧ allPlain l = true := by
  unfold St.parts at h
  split at h
  · split at h
    · rename_i hp; cases h; exact ⟨rfl, rfl, hp⟩
    · cases h
  · split at h
    · rename_i ho
      cases h
      obtain ⟨h1, h2, _⟩ := one_cells hA ho
      exact ⟨by simp [SV.denL, h1], h2, by simp [allPlain, h2]⟩
    · cases h
/-- Cells put in place. -/
def splice {α : Type} (l : List α) (off : Nat) (m : List α) : List α := l.take off ++ m ++ l.drop (off + m.length)
theorem foldl_splice : ∀ (m : List Value) (off k : Nat) (cs : Array Value), off + k + m.length ≤ cs.size →
    ((m.zipIdx k).foldl (fun cs (x : Value × Nat) => cs.setIfInBounds (off + x.2) x.1) cs).toList = splice cs.toList (off + k) m
  | [], off, k, cs, h => by simp [splice]
  | v :: m, off, k, cs, h => by
    simp only [List.length_cons] at h
    simp only [List.zipIdx_cons, List.foldl_cons]
    rw [foldl_splice m off (k + 1) _ (by simp; omega)]
    simp only [splice, Array.toList_setIfInBounds, List.length_cons]
    apply List.ext_getElem?
    intro i
    have hl : off + k < cs.toList.length := by simp; omega
    by_cases h1 : i < off + k
    · simp [List.getElem?_append, List.getElem?_set, h1, hl, show i < off + (k + 1) by omega, show ¬ (off + k = i) by omega]
      have : i < cs.size := by omega
      simp [this, show i < off + (k+1) + m.length by omega, show i < off + k + (m.length + 1) by omega, show min (off + (k + 1)) cs.size = off + (k + 1) by omega, show min (off + k) cs.size = off + k by omega, h1, show i < off + (k+1) by omega]
    · by_cases h2 : i = off + k
      · subst h2
        have : off + k < cs.size := by omega
        simp [List.getElem?_append, List.getElem?_set, hl, this, show min (off + (k + 1)) cs.size = off + (k + 1) by omega, show min (off + k) cs.size = off + k by omega, show off + k < off + (k + 1) + m.length by omega, show off + k < off + (k+1) by omega]
      · have e1 : i - (off + (k + 1)) = i - (off + k) - 1 := by omega
        simp only [List.getElem?_append, List.length_append, List.length_take, List.length_set, List.length_cons, Array.length_toList, List.getElem?_drop, List.getElem?_set,
          show min (off + (k + 1)) cs.size = off + (k + 1) by omega, show min (off + k) cs.size = off + k by omega]
        by_cases h3 : i < off + k + 1 + m.length
        · simp only [show i < off + (k + 1) + m.length by omega, show ¬ (i < off + (k + 1)) by omega, show ¬ (i < off + k) by omega, show i < off + k + (m.length + 1) by omega, if_true, if_false, e1]
          rw [show i - (off + k) = (i - (off + k) - 1) + 1 by omega, List.getElem?_cons_succ]
          simp
        · simp only [show ¬ (i < off + (k + 1) + m.length) by omega, show ¬ (i < off + k + (m.length + 1)) by omega, if_false]
          rw [if_neg (by omega)]
          congr 1; omega
theorem fill_one (v : Value) (off size : Nat) (cs : Array Value) (h1 : v.cells.size = size) (h2 : off + size ≤ cs.size) :
    (v.cells.zipIdx.foldl (fun cs (x : Value × Nat) => cs.setIfInBounds (off + x.2) x.1) cs) = (splice cs.toList off v.cells.toList).toArray := by
  apply Array.ext'
  rw [← Array.foldl_toList, Array.toList_zipIdx]
  have := foldl_splice v.cells.toList off 0 cs (by simp [h1]; omega)
  simpa using this
def buildS (P : Program) (st : St) (fs : List Field) (cells : List SV) : List (Nat × SV) → Option (List SV)
  | [] => some cells
  | (i, s) :: l =>
    match fs[i]?, st.parts s with
    | some f, some m => (match tsize P f.type with
      | some n => if m.length.beq n && Nat.ble (f.offset + n) cells.length then buildS P st fs (splice cells f.offset m) l else none
      | none => none)
    | _, _ => none
def fieldSizes (P : Program) : List Field → Option (List (Nat × Nat))
  | [] => some []
  | f :: l => match tsize P f.type, fieldSizes P l with
    | some n, some m => some ((f.offset, n) :: m)
    | _, _ => none
theorem fieldSizes_run {w : World} : ∀ {fs : List Field} {l : List (Nat × Nat)}, fieldSizes P fs = some l →
    (fs.mapM (m := Sem) fun f => do pure (f.offset, ← sizeOf f.type)).run P w = .ok l w
  | [], l, h => by simp only [fieldSizes, Option.some.injEq] at h; subst h; simp
  | f :: fs, l, h => by
    unfold fieldSizes at h
    split at h
    · rename_i n m hn hm
      cases h
      have := fieldSizes_run (w := w) hm
      simp only [List.mapM_cons, Sem.run_bind, run_tsize hn, Result.andThen_ok, Sem.run_pure]
      rw [this]; rfl
    · cases h
theorem fieldSizes_get : ∀ {fs : List Field} {l : List (Nat × Nat)} {i : Nat} {f : Field} {n : Nat}, fieldSizes P fs = some l → fs[i]? = some f → tsize P f.type = some n → l[i]? = some (f.offset, n)
  | [], _, _, _, _, _, h, _ => by simp at h
  | f :: fs, l, i, f', n', h, hi, hn => by
    unfold fieldSizes at h
    split at h
    · rename_i n m hn' hm
      cases h
      cases i with
      | zero => simp at hi; subst hi; rw [hn] at hn'; cases hn'; rfl
      | succ i => simp at hi ⊢; exact fieldSizes_get hm hi hn
    · cases h
theorem denL_splice (l m : List SV) (off : Nat) : SV.denL G E (splice l off m) = splice (SV.denL G E l) off (SV.denL G E m) := by
  simp [SV.denL_eq, splice, List.map_take, List.map_drop]
theorem buildS_fill (hA : SatA G E st a) {fs : List Field} {places : List (Nat × Nat)} (hpl : fieldSizes P fs = some places) :
    ∀ {ps : List (Nat × SV)} {cells out : List SV}, buildS P st fs cells ps = some out →
      Instr.fill (places.toArray[·]?) (SV.denL G E cells).toArray (ps.map fun p => (p.1, p.2.den G E)) = some (SV.denL G E out).toArray ∧ ∀ p ∈ ps, p.2.plain = true
  | [], cells, out, h => by simp only [buildS, Option.some.injEq] at h; subst h; exact ⟨by simp [Instr.fill], by simp⟩
  | (i, s) :: ps, cells, out, h => by
    unfold buildS at h
    split at h
    · rename_i f m hf hm
      split at h
      · rename_i n hn
        split at h
        · rename_i hc
          simp only [Bool.and_eq_true, Nat.beq_eq, Nat.ble_eq] at hc
          obtain ⟨h1, h2⟩ := buildS_fill hA hpl h
          obtain ⟨c1, c2, c3⟩ := parts_den hA hm
          refine ⟨?_, ?_⟩
          · simp only [List.map_cons, Instr.fill]
            have hg := fieldSizes_get hpl hf hn
            simp only [List.getElem?_toArray, hg]
            have hs : (s.den G E).cells.size = n := by rw [c1]; simp [SV.denL_eq, hc.1]
            rw [if_neg (by simp [hs, SV.denL_eq]; omega)]
            rw [fill_one _ _ n _ hs (by simp [SV.denL_eq]; omega)]
            rw [denL_splice] at h1
            rw [c1]
            simpa using h1
          · intro p hp
            rcases List.mem_cons.1 hp with rfl | hp
            · exact c2
            · exact h2 p hp
        · cases h
      · cases h
    · cases h
def qBuild (P : Program) (st : St) (g : X) (t : TypeId) (ps : Array (Nat × Operand)) : QR :=
  match P.underlying t, (P.info? t).bind (·.zero) with
  | some (.struct fs), some z => (match fieldSizes P fs.toList, buildS P st fs.toList (z.cells.toList.map SV.ofV1) (ps.toList.map fun p => (p.1, st.opr g p.2)) with
    | some _, some out => .val [] (.agg out)
    | _, _ => .bad)
  | _, _ => .bad
theorem denL_ofV1 (l : List Value) : SV.denL G E (l.map SV.ofV1) = l := by
  simp only [SV.denL_eq, List.map_map]
  have : (SV.den G E ∘ SV.ofV1) = id := funext fun v => SV.ofV1_den G E v
  rw [this]; simp
theorem run_zero {w : World} {t : TypeId} {z : Value} (h : (P.info? t).bind (·.zero) = some z) : (zeroValue t).run P w = .ok z w := by
  cases hi : P.info? t with
  | none => simp [hi] at h
  | some i => simp only [hi, Option.bind_some] at h; simp [zeroValue, typeInfo, hi, h]
theorem sound_build (hA : SatA G E st a) {g : X} (hg : vb (g.den G) = true) (t : TypeId) (ps : Array (Nat × Operand)) : (qBuild P st g t ps).sound P G E a (.build t ps) ty := by
  unfold qBuild
  split
  · rename_i fs z hu hz
    split
    · rename_i places out hpl hb
      obtain ⟨h1, h2⟩ := buildS_fill (E := E) hA hpl hb
      rw [denL_ofV1] at h1
      refine QR.sound_val rfl fun hns w _ _ _ _ => ?_
      obtain ⟨ps⟩ := ps
      have h3 : (ps.map fun p => (p.1, a.eval p.2)) = ((ps.map fun p => (p.1, st.opr g p.2)).map fun p => (p.1, p.2.den G E)) := by
        rw [List.map_map]
        apply List.map_congr_left
        intro p hp
        simp only [Function.comp, Prod.mk.injEq, true_and]
        exact opr_den hA hg rfl (h2 _ (List.mem_map.2 ⟨p, hp, rfl⟩))
      have h4 := fieldSizes_run (w := w) hpl
      have h5 : (fs.mapM (m := Sem) fun f => do pure (f.offset, ← sizeOf f.type)).run P w = .ok places.toArray w := by
        rw [Array.mapM_eq_mapM_toList, Sem.run_map, h4]; rfl
      have h6 : (ps.toArray.map fun x => (x.1, a.eval x.2)).toList = ((ps.map fun p => (p.1, st.opr g p.2)).map fun p => (p.1, p.2.den G E)) := by simpa using h3
      simp only [execOp, Instr.build, Sem.run_bind, run_zero hz, Result.andThen_ok, run_underlying hu]
      have h7 : (fs.mapM (m := Sem) fun f => do let n ← sizeOf f.type; pure (f.offset, n)).run P w = .ok places.toArray w := h5
      rw [h7]
      simp only [Result.andThen_ok]
      have h8 : (ps.toArray.map fun (x : Nat × Operand) => (x.1, a.eval x.2)).toList = ((ps.map fun p => (p.1, st.opr g p.2)).map fun p => (p.1, p.2.den G E)) := h6
      rw [h8]
      have h9 : Instr.fill (places.toArray[·]?) z.cells ((ps.map fun p => (p.1, st.opr g p.2)).map fun p => (p.1, p.2.den G E)) = some (SV.denL G E out).toArray := by simpa using h1
      rw [h9]
      simp [SV.den]
    · trivial
  · trivial
end
end Go.Proofs.YtbgfabppmobpgaaDoor

/-
  The evaluator's step at operations that only compute: pieces of slices and strings; all kinds under one name. Conditions: none.
-/
set_option linter.unusedVariables false
set_option linter.unusedSimpArgs false
namespace Go.Proofs.YtbgfabppmobpgaaDoor
open Go

section
variable {P : Program} {G : List Value} {E : Nat → CE} {st : St} {a : Act} {ty : TypeId}

def closed (s : SV) : Bool := s.refs fun _ => false
theorem closed_den {s : SV} (h : closed s = true) : s.den G E = s.den G dE := SV.den_env (fun l h => by cases h) s h
def oprInt (st : St) (g : X) : Option Operand → Option (Option X)
  | none => some none
  | some x => (match st.opr g x with | .int _ e => some (some e) | _ => none)
theorem oprInt_some (hA : SatA G E st a) {g : X} (hg : vb (g.den G) = true) {x : Operand} {e : Option X} (h : oprInt st g (some x) = some e) :
    ∃ y k, e = some y ∧ a.eval x = .int k (vi (y.den G)) := by
  unfold oprInt at h
  split at h
  · rename_i heq; cases heq
  · rename_i x' heq
    cases heq
    split at h
    · rename_i k y hx
      cases h
      exact ⟨y, k, rfl, opr_den hA hg hx rfl⟩
    · cases h
def bounds (lo hi : Option X) (len cap : X) : List X :=
  (match hi with | some h => [mkCmp .geq h (.lit 0), mkCmp .leq h cap] | none => []) ++
  (match lo with | some l => [mkCmp .geq l (.lit 0), mkCmp .leq l (hi.getD len)] | none => [])
def qSlice (P : Program) (st : St) (g : X) (t : TypeId) (x : Operand) (lo hi mx : Option Operand) : QR :=
  match mx, P.underlying t, oprInt st g lo, oprInt st g hi with
  | none, some .string, some l, some h => (match st.opr g x with
    | .str s => .bnd (bounds l h (.slen s) (.slen s)) .str (.sub s l h)
    | _ => .bad)
  | none, some (.slice e), some l, some h => (match tsize P e, lenX st (st.opr g x), capX st (st.opr g x) with
    | some n, some len, some cap => if closed (st.opr g x) then .bnd (bounds l h len cap) .sl (.slice (st.opr g x) l h n) else .bad
    | _, _, _ => .bad)
  | none, some (.array n e), some l, some h => (match st.opr g x with
    | .ptr p => (match tsize P e with
      | some sz => .bnd (bounds l h (.lit n) (.lit n)) .sl (.arr p l h n sz)
      | none => .bad)
    | _ => .bad)
  | _, _, _, _ => .bad
def OptRel (G : List Value) : Option X → Option Value → Prop
  | none, none => True
  | some y, some v => ∃ k, v = .int k (vi (y.den G))
  | _, _ => False
theorem sliceBounds_run {w : World} {isSl : Bool} {len cap : Nat} {lo hi : Option X} {lx cx : X} {vlo vhi : Option Value}
    (hl : lx.den G = .int .i64 len) (hc : cx.den G = .int .i64 cap) (hle : len ≤ cap)
    (h1 : OptRel G lo vlo)
    (h2 : OptRel G hi vhi)
    (hb : ∀ x ∈ bounds lo hi lx cx, vb (x.den G) = true) :
    (Instr.sliceBounds isSl len cap vlo vhi none).run P w = .ok (optN G lo 0, optN G hi len, cap) w ∧ optN G lo 0 ≤ optN G hi len ∧ optN G hi len ≤ cap := by
  have key : ∀ (y : X) (k : IntKind) (m : Nat) (code : BoundsCode), 0 ≤ vi (y.den G) → vi (y.den G) ≤ m → (Instr.sliceBound (.int k (vi (y.den G))) m code).run P w = .ok (vi (y.den G)).toNat w := by
    intro y k m code a b
    simp [Instr.sliceBound, asIntOf, a, b]
  cases hi with
  | none =>
    cases vhi with
    | some _ => exact h2.elim
    | none =>
      cases lo with
      | none =>
        cases vlo with
        | some _ => exact h1.elim
        | none => simp [Instr.sliceBounds, optN, hle]
      | some y =>
        cases vlo with
        | none => exact h1.elim
        | some v =>
          obtain ⟨k, rfl⟩ := h1
          simp only [bounds, List.nil_append, Option.getD_none] at hb
          have a1 := n_geq (hb _ (List.mem_cons_self ..))
          have a2 := n_leq (hb _ (List.mem_cons_of_mem _ (List.mem_cons_self ..)))
          simp only [X.den, vi_int, hl] at a1 a2
          refine ⟨?_, ?_, ?_⟩
          · simp [Instr.sliceBounds, optN, key y k len _ a1 a2]
          · simp only [optN]; omega
          · simp only [optN]; omega
  | some z =>
    cases vhi with
    | none => exact h2.elim
    | some u =>
      obtain ⟨k', rfl⟩ := h2
      cases lo with
      | none =>
        cases vlo with
        | some _ => exact h1.elim
        | none =>
          simp only [bounds, List.append_nil] at hb
          have a1 := n_geq (hb _ (List.mem_cons_self ..))
          have a2 := n_leq (hb _ (List.mem_cons_of_mem _ (List.mem_cons_self ..)))
          simp only [X.den, vi_int, hc] at a1 a2
          refine ⟨?_, ?_, ?_⟩
          · simp [Instr.sliceBounds, optN, key z k' cap _ a1 a2]
          · simp only [optN]; omega
          · simp only [optN]; omega
      | some y =>
        cases vlo with
        | none => exact h1.elim
        | some v =>
          obtain ⟨k, rfl⟩ := h1
          simp only [bounds, List.cons_append, List.nil_append, Option.getD_some] at hb
          have a1 := n_geq (hb _ (List.mem_cons_self ..))
          have a2 := n_leq (hb _ (List.mem_cons_of_mem _ (List.mem_cons_self ..)))
          have a3 := n_geq (hb _ (List.mem_cons_of_mem _ (List.mem_cons_of_mem _ (List.mem_cons_self ..))))
          have a4 := n_leq (hb _ (List.mem_cons_of_mem _ (List.mem_cons_of_mem _ (List.mem_cons_of_mem _ (List.mem_cons_self ..)))))
          simp only [X.den, vi_int, hc] at a1 a2 a3 a4
          refine ⟨?_, ?_, ?_⟩
          · simp [Instr.sliceBounds, optN, key z k' cap _ a1 a2, key y k (vi (z.den G)).toNat _ a3 (by omega)]
          · simp only [optN]; omega
          · simp only [optN]; omega
theorem oprInt_ok (hA : SatA G E st a) {g : X} (hg : vb (g.den G) = true) {x : Option Operand} {e : Option X} (h : oprInt st g x = some e) :
    OptRel G e (x.map a.eval) := by
  cases x with
  | none => simp [oprInt] at h; subst h; trivial
  | some x => obtain ⟨y, k, rfl, hv⟩ := oprInt_some hA hg h; exact ⟨k, hv⟩
theorem sound_slice (hA : SatA G E st a) {g : X} (hg : vb (g.den G) = true) (t : TypeId) (x : Operand) (lo hi mx : Option Operand) :
    (qSlice P st g t x lo hi mx).sound P G E a (.slice t x lo hi mx) ty := by
  unfold qSlice
  split
  · rename_i l h hu hl hh
    split
    · rename_i s hx
      have hc := opr_den hA hg hx rfl
      intro hns
      refine ⟨⟨_, rfl⟩, fun w _ _ _ _ => ?_⟩
      obtain ⟨h1, h2, h3⟩ := sliceBounds_run (P := P) (w := w) (isSl := false) (len := (vs (s.den G)).size) (cap := (vs (s.den G)).size) (by simp [X.den]) (by simp [X.den]) (Nat.le_refl _) (oprInt_ok hA hg hl) (oprInt_ok hA hg hh) hns
      simp only [execOp, Instr.sliceAt, Sem.run_bind, run_underlying hu, Result.andThen_ok, Instr.slice, hc, SV.den, Option.map_none, Option.isSome_none, Bool.false_eq_true, if_false]
      simp [h1, LF.den]
    · trivial
  · rename_i e l h hu hl hh
    split
    · rename_i n len cap hn hlen hcap
      split
      · rename_i hcl
        obtain ⟨ad, m, c, e1, e2, e3⟩ := lenX_den (E := E) hA hlen
        obtain ⟨ad', m', c', f1, f2, f3⟩ := capX_den (E := E) hA hcap
        rw [e1] at f1
        cases f1
        have hc := opr_den hA hg rfl e3
        have hd : (st.opr g x).den G dE = .slice ad m c := by rw [← closed_den (E := E) hcl, e1]
        intro hns
        have hw : (ad = none → m = 0 ∧ c = 0) ∧ m ≤ c := by
          have hlen' := hlen
          unfold lenX at hlen'
          split at hlen'
          · rename_i i hxi
            split at hlen'
            · rename_i hs
              have hf := shape_fits hA i
              rw [hs] at hf
              obtain ⟨_, _, _, hv, hf1, hf2⟩ := hf
              rw [hxi] at e1
              simp only [SV.den, hv] at e1
              cases e1
              exact ⟨hf1, hf2⟩
            · cases hlen'
          · rename_i hxi; rw [hxi] at e1; simp only [SV.den] at e1; cases e1; simp
          · rename_i hxi; rw [hxi] at hcl; simp [closed, SV.refs] at hcl
          · cases hlen'
        obtain ⟨h1, h2, h3⟩ := sliceBounds_run (P := P) (w := default) (isSl := true) (len := m) (cap := c) e2 f2 hw.2 (oprInt_ok hA hg hl) (oprInt_ok hA hg hh) hns
        refine ⟨?_, fun w _ _ _ _ => ?_⟩
        · simp only [LF.den, hd, vlen_sl, sliceV]
          refine ⟨_, _, _, rfl, ?_, by omega⟩
          intro hn
          have : ad = none := by
            split at hn
            · exact hn
            · simpa using hn
          obtain ⟨rfl, rfl⟩ := hw.1 this
          omega
        · obtain ⟨h1, h2, h3⟩ := sliceBounds_run (P := P) (w := w) (isSl := true) (len := m) (cap := c) e2 f2 hw.2 (oprInt_ok hA hg hl) (oprInt_ok hA hg hh) hns
          simp only [execOp, Instr.sliceAt, Sem.run_bind, run_underlying hu, Result.andThen_ok, Instr.slice, hc, e1, Option.map_none]
          simp [h1, LF.den, hd, sliceV, run_tsize hn]
      · trivial
    · trivial
  · rename_i n e l h hn hl hh
    split
    · rename_i p hx
      have hc := opr_den hA hg hx rfl
      split
      · rename_i sz hsz
        intro hns
        obtain ⟨h1, h2, h3⟩ := sliceBounds_run (P := P) (w := default) (isSl := false) (len := n) (cap := n) (by simp [X.den]) (by simp [X.den]) (Nat.le_refl _) (oprInt_ok hA hg hl) (oprInt_ok hA hg hh) hns
        refine ⟨⟨_, _, _, rfl, (fun e => by cases e), by omega⟩, fun w _ _ _ _ => ?_⟩
        obtain ⟨h1, h2, h3⟩ := sliceBounds_run (P := P) (w := w) (isSl := false) (len := n) (cap := n) (by simp [X.den]) (by simp [X.den]) (Nat.le_refl _) (oprInt_ok hA hg hl) (oprInt_ok hA hg hh) hns
        simp only [execOp, Instr.sliceAt, Sem.run_bind, run_underlying hn, Result.andThen_ok, hc, SV.den, Option.map_none]
        simp [h1, LF.den, run_tsize hsz, Instr.sureAddr]
      · trivial
    · trivial
  · trivial

/-- A slice with its room told. -/
def qSlice3 (P : Program) (st : St) (g : X) (t : TypeId) (x : Operand) (lo hi : Option Operand) (mx : Operand) : QR :=
  match lo, P.underlying t, oprInt st g hi, oprInt st g (some mx) with
  | none, some (.slice e), some (some h), some (some y) => (match tsize P e, lenX st (st.opr g x), capX st (st.opr g x) with
    | some n, some len, some cap => if closed (st.opr g x) then .bnd [mkCmp .geq y (.lit 0), mkCmp .leq y cap, mkCmp .geq h (.lit 0), mkCmp .leq h y] .sl (.slice3 (st.opr g x) h y) else .bad
    | _, _, _ => .bad)
  | _, _, _, _ => .bad
theorem addr_add_zero (a : Addr) : a.add 0 = a := by unfold Addr.add; simp
theorem sound_slice3 (hA : SatA G E st a) {g : X} (hg : vb (g.den G) = true) (t : TypeId) (x : Operand) (lo hi : Option Operand) (mx : Operand) :
    (qSlice3 P st g t x lo hi mx).sound P G E a (.slice t x lo hi (some mx)) ty := by
  unfold qSlice3
  split
  · rename_i e h y hu hh hy
    split
    · rename_i n len cap hn hlen hcap
      split
      · rename_i hcl
        obtain ⟨ad, m, c, e1, e2, e3⟩ := lenX_den (E := E) hA hlen
        obtain ⟨ad', m', c', f1, f2, f3⟩ := capX_den (E := E) hA hcap
        rw [e1] at f1
        cases f1
        have hc := opr_den hA hg rfl e3
        have hd : (st.opr g x).den G dE = .slice ad m c := by rw [← closed_den (E := E) hcl, e1]
        intro hns
        have hw : (ad = none → m = 0 ∧ c = 0) ∧ m ≤ c := by
          have hlen' := hlen
          unfold lenX at hlen'
          split at hlen'
          · rename_i i hxi
            split at hlen'
            · rename_i hs
              have hf := shape_fits hA i
              rw [hs] at hf
              obtain ⟨_, _, _, hv, hf1, hf2⟩ := hf
              rw [hxi] at e1
              simp only [SV.den, hv] at e1
              cases e1
              exact ⟨hf1, hf2⟩
            · cases hlen'
          · rename_i hxi; rw [hxi] at e1; simp only [SV.den] at e1; cases e1; simp
          · rename_i hxi; rw [hxi] at hcl; simp [closed, SV.refs] at hcl
          · cases hlen'
        have a1 := n_geq (hns _ (List.mem_cons_self ..))
        have a2 := n_leq (hns _ (List.mem_cons_of_mem _ (List.mem_cons_self ..)))
        have a3 := n_geq (hns _ (List.mem_cons_of_mem _ (List.mem_cons_of_mem _ (List.mem_cons_self ..))))
        have a4 := n_leq (hns _ (List.mem_cons_of_mem _ (List.mem_cons_of_mem _ (List.mem_cons_of_mem _ (List.mem_cons_self ..)))))
        simp only [X.den, vi_int, f2] at a1 a2 a3 a4
        have o1 := oprInt_ok hA hg hh
        have o2 := oprInt_ok hA hg hy
        obtain ⟨vh, ehv⟩ : ∃ vh, hi.map a.eval = some vh := by
          cases hi with
          | none => exact o1.elim
          | some z => exact ⟨_, rfl⟩
        rw [ehv] at o1
        obtain ⟨k1, ek1⟩ : ∃ k, vh = .int k (vi (h.den G)) := o1
        obtain ⟨k2, ek2⟩ : ∃ k, a.eval mx = .int k (vi (y.den G)) := o2
        subst ek1
        have key : ∀ (w : World) (z : X) (k : IntKind) (q : Nat) (code : BoundsCode), 0 ≤ vi (z.den G) → vi (z.den G) ≤ q → (Instr.sliceBound (.int k (vi (z.den G))) q code).run P w = .ok (vi (z.den G)).toNat w := by
          intro w z k q code a b
          simp [Instr.sliceBound, asIntOf, a, b]
        refine ⟨?_, fun w _ _ _ _ => ?_⟩
        · simp only [LF.den, hd]
          refine ⟨_, _, _, rfl, fun hn => ?_, by omega⟩
          obtain ⟨rfl, rfl⟩ := hw.1 hn
          omega
        · have hb : (Instr.sliceBounds true m c none (some (.int k1 (vi (h.den G)))) (some (.int k2 (vi (y.den G))))).run P w = .ok (0, (vi (h.den G)).toNat, (vi (y.den G)).toNat) w := by
            simp [Instr.sliceBounds, key w y k2 c _ a1 a2, key w h k1 (vi (y.den G)).toNat _ a3 (by omega)]
          simp only [execOp, Instr.sliceAt, Sem.run_bind, run_underlying hu, Result.andThen_ok, Instr.slice, hc, e1, ehv, ek2, Option.map_none, Option.map_some]
          simp [hb, LF.den, hd, run_tsize hn, addr_add_zero]
      · trivial
    · trivial
  · trivial
/-- A slice with its room told, and where it begins. -/
def qSlice4 (P : Program) (st : St) (g : X) (t : TypeId) (x : Operand) (lo : Operand) (hi : Option Operand) (mx : Operand) : QR :=
  match P.underlying t, oprInt st g hi, oprInt st g (some mx), oprInt st g (some lo) with
  | some (.slice e), some (some h), some (some y), some (some l) => (match tsize P e, lenX st (st.opr g x), capX st (st.opr g x) with
    | some n, some len, some cap => if closed (st.opr g x) then .bnd [mkCmp .geq y (.lit 0), mkCmp .leq y cap, mkCmp .geq h (.lit 0), mkCmp .leq h y, mkCmp .geq l (.lit 0), mkCmp .leq l h] .sl (.slice4 (st.opr g x) l h y n) else .bad
    | _, _, _ => .bad)
  | _, _, _, _ => .bad
theorem sound_slice4 (hA : SatA G E st a) {g : X} (hg : vb (g.den G) = true) (t : TypeId) (x : Operand) (lo : Operand) (hi : Option Operand) (mx : Operand) :
    (qSlice4 P st g t x lo hi mx).sound P G E a (.slice t x (some lo) hi (some mx)) ty := by
  unfold qSlice4
  split
  · rename_i e h y l hu hh hy hlo
    split
    · rename_i n len cap hn hlen hcap
      split
      · rename_i hcl
        obtain ⟨ad, m, c, e1, e2, e3⟩ := lenX_den (E := E) hA hlen
        obtain ⟨ad', m', c', f1, f2, f3⟩ := capX_den (E := E) hA hcap
        rw [e1] at f1
        cases f1
        have hc := opr_den hA hg rfl e3
        have hd : (st.opr g x).den G dE = .slice ad m c := by rw [← closed_den (E := E) hcl, e1]
        intro hns
        have hw : (ad = none → m = 0 ∧ c = 0) ∧ m ≤ c := by
          have hlen' := hlen
          unfold lenX at hlen'
          split at hlen'
          · rename_i i hxi
            split at hlen'
            · rename_i hs
              have hf := shape_fits hA i
              rw [hs] at hf
              obtain ⟨_, _, _, hv, hf1, hf2⟩ := hf
              rw [hxi] at e1
              simp only [SV.den, hv] at e1
              cases e1
              exact ⟨hf1, hf2⟩
            · cases hlen'
          · rename_i hxi; rw [hxi] at e1; simp only [SV.den] at e1; cases e1; simp
          · rename_i hxi; rw [hxi] at hcl; simp [closed, SV.refs] at hcl
          · cases hlen'
        have a1 := n_geq (hns _ (List.mem_cons_self ..))
        have a2 := n_leq (hns _ (List.mem_cons_of_mem _ (List.mem_cons_self ..)))
        have a3 := n_geq (hns _ (List.mem_cons_of_mem _ (List.mem_cons_of_mem _ (List.mem_cons_self ..))))
        have a4 := n_leq (hns _ (List.mem_cons_of_mem _ (List.mem_cons_of_mem _ (List.mem_cons_of_mem _ (List.mem_cons_self ..)))))
        have a5 := n_geq (hns _ (List.mem_cons_of_mem _ (List.mem_cons_of_mem _ (List.mem_cons_of_mem _ (List.mem_cons_of_mem _ (List.mem_cons_self ..))))))
        have a6 := n_leq (hns _ (List.mem_cons_of_mem _ (List.mem_cons_of_mem _ (List.mem_cons_of_mem _ (List.mem_cons_of_mem _ (List.mem_cons_of_mem _ (List.mem_cons_self ..)))))))
        simp only [X.den, vi_int, f2] at a1 a2 a3 a4 a5 a6
        have o1 := oprInt_ok hA hg hh
        have o2 := oprInt_ok hA hg hy
        have o3 := oprInt_ok hA hg hlo
        obtain ⟨vh, ehv⟩ : ∃ vh, hi.map a.eval = some vh := by
          cases hi with
          | none => exact o1.elim
          | some z => exact ⟨_, rfl⟩
        rw [ehv] at o1
        obtain ⟨k1, ek1⟩ : ∃ k, vh = .int k (vi (h.den G)) := o1
        obtain ⟨k2, ek2⟩ : ∃ k, a.eval mx = .int k (vi (y.den G)) := o2
        subst ek1
        obtain ⟨k3, ek3⟩ : ∃ k, a.eval lo = .int k (vi (l.den G)) := o3
        have key : ∀ (w : World) (z : X) (k : IntKind) (q : Nat) (code : BoundsCode), 0 ≤ vi (z.den G) → vi (z.den G) ≤ q → (Instr.sliceBound (.int k (vi (z.den G))) q code).run P w = .ok (vi (z.den G)).toNat w := by
          intro w z k q code a b
          simp [Instr.sliceBound, asIntOf, a, b]
        refine ⟨?_, fun w _ _ _ _ => ?_⟩
        · simp only [LF.den, hd]
          refine ⟨_, _, _, rfl, fun hn => ?_, by omega⟩
          have : ad = none := by
            split at hn
            · exact hn
            · simpa using hn
          obtain ⟨rfl, rfl⟩ := hw.1 this
          omega
        · have hb : (Instr.sliceBounds true m c (some (.int k3 (vi (l.den G)))) (some (.int k1 (vi (h.den G)))) (some (.int k2 (vi (y.den G))))).run P w = .ok ((vi (l.den G)).toNat, (vi (h.den G)).toNat, (vi (y.den G)).toNat) w := by
            simp [Instr.sliceBounds, key w y k2 c _ a1 a2, key w h k1 (vi (y.den G)).toNat _ a3 (by omega), key w l k3 (vi (h.den G)).toNat _ a5 (by omega)]
          simp only [execOp, Instr.sliceAt, Sem.run_bind, run_underlying hu, Result.andThen_ok, Instr.slice, hc, e1, ehv, ek2, ek3, Option.map_none, Option.map_some]
          simp [hb, LF.den, hd, run_tsize hn]
      · trivial
    · trivial
  · trivial
/-! ### All of them -/
def qpure (P : Program) (st : St) (g : X) : Op → QR
  | .move x => .val [] (st.opr g x)
  | .assign x => .val [] (st.opr g x)
  | .pick c x y => qPick st g c x y
  | .build t ps => qBuild P st g t ps
  | .nilCheck x => qNil st g x
  | .binOp o t x y _ => qBin P st g o t x y
  | .unOp o _ x => qUn st g o x
  | .convert s d x => qConv P st g s d x
  | .makeFunc f x y => qFunc st g f x y
  | .slice t x lo hi none => qSlice P st g t x lo hi none
  | .slice t x (some lo) hi (some mx) => qSlice4 P st g t x lo hi mx
  | .slice t x none hi (some mx) => qSlice3 P st g t x none hi mx
  | .fieldAddr t x i => qFieldAddr P st g t x i
  | .field t x i => qField P st g t x i
  | .indexAddr t x i => qIndexAddr P st g t x i
  | .index t x i => qIndex P st g t x i
  | .extract x i => qExtract st g x i
  | .call { callee := .builtin b, args := xs, argTypes := ts } => qBuiltin P st g b ts xs
  | _ => .bad
theorem qpure_sound (hA : SatA G E st a) {g : X} (hg : vb (g.den G) = true) (o : Op) : (qpure P st g o).sound P G E a o ty := by
  unfold qpure
  split
  · exact (sound_move hA hg _).1
  · exact (sound_move hA hg _).2
  · exact sound_pick hA hg _ _ _
  · exact sound_build hA hg _ _
  · exact sound_nil hA hg _
  · exact sound_bin hA hg _ _ _ _ _
  · exact sound_un hA hg _ _ _
  · exact sound_conv hA hg _ _ _
  · exact sound_func hA hg _ _ _
  · exact sound_slice hA hg _ _ _ _ _
  · exact sound_slice4 hA hg _ _ _ _ _
  · exact sound_slice3 hA hg _ _ _ _ _
  · exact sound_fieldAddr hA hg _ _ _
  · exact sound_field hA hg _ _ _
  · exact sound_indexAddr hA hg _ _ _
  · exact sound_index hA hg _ _ _
  · exact sound_extract hA hg _ _
  · exact sound_builtin hA hg _ _ _
  · trivial
end
end Go.Proofs.YtbgfabppmobpgaaDoor
