/-
  The words of a small evaluator of the model's code by symbols (expressions, values, chunks of memory) and what they stand for. Conditions: none (definitions and plain lemmas).
-/
import Derived.Calls
import Derived.Orders
import Derived.Tactics
import Derived.KernelRfl
import Derived.Laws.Cells
import Derived.Laws.Sem
import Derived.Laws.Entries
set_option linter.unusedVariables false
set_option linter.unusedSimpArgs false
namespace Go.Proofs.Ytibdneedfopcoaa
open Go

/-! ### Expressions -/
def vi : Value → Int | .int _ n => n | _ => 0
def vb : Value → Bool | .bool b => b | _ => false
def vs : Value → ByteArray | .string s => s | _ => ByteArray.empty
def vlen : Value → Nat | .slice _ n _ => n | .string s => s.size | _ => 0
def vcap : Value → Nat | .slice _ _ c => c | _ => 0
def vaddr : Value → Addr | .pointer (some a) => a | .slice (some a) _ _ => a | _ => default
def vnil : Value → Bool | .pointer none => true | .slice none _ _ => true | .map none => true | .nilFunc => true | .nilIface => true | _ => false
@[simp] theorem vi_int (k : IntKind) (n : Int) : vi (.int k n) = n := rfl
@[simp] theorem vb_bool (b : Bool) : vb (.bool b) = b := rfl
@[simp] theorem vs_str (s : ByteArray) : vs (.string s) = s := rfl
@[simp] theorem vlen_sl (a : Option Addr) (n c : Nat) : vlen (.slice a n c) = n := rfl
@[simp] theorem vlen_str (s : ByteArray) : vlen (.string s) = s.size := rfl
@[simp] theorem vcap_sl (a : Option Addr) (n c : Nat) : vcap (.slice a n c) = c := rfl
@[simp] theorem vaddr_ptr (a : Addr) : vaddr (.pointer (some a)) = a := rfl
@[simp] theorem vaddr_sl (a : Addr) (n c : Nat) : vaddr (.slice (some a) n c) = a := rfl

/-- What the model's whole number operators answer (but '/' and '%' by 0, shifts by less than 0). -/
def intOp (o : BinOp) (k : IntKind) (x y : Int) : Int :=
  match o with
  | .add => k.wrap (x + y)
  | .sub => k.wrap (x - y)
  | .mul => k.wrap (x * y)
  | .quo => k.wrap (x.tdiv y)
  | .rem => x.tmod y
  | .and => k.wrap (BitVec.ofInt k.bits x &&& BitVec.ofInt k.bits y).toNat
  | .or => k.wrap (BitVec.ofInt k.bits x ||| BitVec.ofInt k.bits y).toNat
  | .xor => k.wrap (BitVec.ofInt k.bits x ^^^ BitVec.ofInt k.bits y).toNat
  | .andNot => k.wrap (BitVec.ofInt k.bits x &&& ~~~ BitVec.ofInt k.bits y).toNat
  | .shl => k.wrap (x * 2 ^ (min y.toNat k.bits))
  | .shr => x.fdiv (2 ^ (min y.toNat k.bits))
  | _ => 0
def cmpOp (o : BinOp) (x y : Int) : Bool :=
  match o with
  | .eql => x == y
  | .neq => x != y
  | .lss => decide (x < y)
  | .leq => decide (x ≤ y)
  | .gtr => decide (x > y)
  | .geq => decide (x ≥ y)
  | _ => false

inductive X where
  | lit (n : Int)
  | tt (b : Bool)
  | str (s : ByteArray)
  | var (i : Nat)
  | len (i : Nat)
  | cap (i : Nat)
  | slen (s : X)
  | byte (s i : X)
  | op (o : BinOp) (k : IntKind) (a b : X)
  | conv (k : IntKind) (a : X)
  | cmp (o : BinOp) (a b : X)
  | not (a : X)
  | and (a b : X)
  | ite (c a b : X)
  | seq (a b : X)
  | nilp (i : Nat)
  deriving Inhabited

def gv (G : List Value) (i : Nat) : Value := G.getD i undef
@[simp] theorem gv_zero (v : Value) (G : List Value) : gv (v :: G) 0 = v := rfl
@[simp] theorem gv_succ (v : Value) (G : List Value) (n : Nat) : gv (v :: G) (n + 1) = gv G n := rfl

def X.den (G : List Value) : X → Value
  | .lit n => .int .i64 n
  | .tt b => .bool b
  | .str s => .string s
  | .var i => gv G i
  | .len i => .int .i64 (vlen (gv G i))
  | .cap i => .int .i64 (vcap (gv G i))
  | .slen s => .int .i64 (vs (s.den G)).size
  | .byte s i => .int .u8 (((vs (s.den G)).data.getD (vi (i.den G)).toNat 0).toNat)
  | .op o k a b => .int k (intOp o k (vi (a.den G)) (vi (b.den G)))
  | .conv k a => .int k (k.wrap (vi (a.den G)))
  | .cmp o a b => .bool (cmpOp o (vi (a.den G)) (vi (b.den G)))
  | .not a => .bool (!(vb (a.den G)))
  | .and a b => .bool (vb (a.den G) && vb (b.den G))
  | .ite c a b => if vb (c.den G) then a.den G else b.den G
  | .seq a b => .bool ((vs (a.den G)).toList == (vs (b.den G)).toList)
  | .nilp i => .bool (vnil (gv G i))

abbrev X.i (G : List Value) (e : X) : Int := vi (e.den G)
abbrev X.b (G : List Value) (e : X) : Bool := vb (e.den G)

def beqBO (a b : BinOp) : Bool := a.ctorIdx.beq b.ctorIdx
def beqIK (a b : IntKind) : Bool := a.ctorIdx.beq b.ctorIdx
theorem beqBO_eq {a b : BinOp} (h : beqBO a b = true) : a = b := by
  cases a <;> cases b <;> first | rfl | exact absurd h (by decide)
theorem beqIK_eq {a b : IntKind} (h : beqIK a b = true) : a = b := by
  cases a <;> cases b <;> first | rfl | exact absurd h (by decide)
def beqInt : Int → Int → Bool
  | .ofNat a, .ofNat b => a.beq b
  | .negSucc a, .negSucc b => a.beq b
  | _, _ => false
theorem beqInt_eq {a b : Int} (h : beqInt a b = true) : a = b := by
  cases a <;> cases b <;> simp_all [beqInt, Nat.beq_eq]
def beqB : Bool → Bool → Bool
  | true, b => b
  | false, b => !b
theorem beqB_eq {a b : Bool} (h : beqB a b = true) : a = b := by cases a <;> cases b <;> simp_all [beqB]
def beqBytes (a b : ByteArray) : Bool := (a.data.toList.map UInt8.toNat) == (b.data.toList.map UInt8.toNat)
theorem beqBytes_eq {a b : ByteArray} (h : beqBytes a b = true) : a = b := by
  have h1 : a.data.toList.map UInt8.toNat = b.data.toList.map UInt8.toNat := by simpa [beqBytes] using h
  have h2 : a.data.toList = b.data.toList := (List.map_inj_right (fun x y e => UInt8.toNat_inj.1 e)).1 h1
  cases a; cases b; congr; exact Array.toList_inj.1 h2

def X.beq : X → X → Bool
  | .lit a, .lit b => beqInt a b
  | .tt a, .tt b => beqB a b
  | .str a, .str b => beqBytes a b
  | .var i, .var j => i.beq j
  | .len i, .len j => i.beq j
  | .cap i, .cap j => i.beq j
  | .slen a, .slen b => a.beq b
  | .byte a b, .byte c d => a.beq c && b.beq d
  | .op o k a b, .op o' k' c d => beqBO o o' && beqIK k k' && a.beq c && b.beq d
  | .conv k a, .conv k' b => beqIK k k' && a.beq b
  | .cmp o a b, .cmp o' c d => beqBO o o' && a.beq c && b.beq d
  | .not a, .not b => a.beq b
  | .and a b, .and c d => a.beq c && b.beq d
  | .ite e a b, .ite f c d => e.beq f && a.beq c && b.beq d
  | .seq a b, .seq c d => a.beq c && b.beq d
  | .nilp i, .nilp j => i.beq j
  | _, _ => false
theorem X.beq_eq : ∀ {a b : X}, a.beq b = true → a = b := by
  intro a
  induction a <;> intro b h <;> cases b <;> simp only [X.beq, Bool.and_eq_true, Bool.false_eq_true, Nat.beq_eq] at h
  case lit.lit => rw [beqInt_eq h]
  case tt.tt => rw [beqB_eq h]
  case str.str => rw [beqBytes_eq h]
  case var.var => rw [h]
  case len.len => rw [h]
  case cap.cap => rw [h]
  case slen.slen ih _ => rw [ih h]
  case byte.byte ih1 ih2 _ _ => rw [ih1 h.1, ih2 h.2]
  case op.op ih1 ih2 _ _ _ _ => rw [beqBO_eq h.1.1.1, beqIK_eq h.1.1.2, ih1 h.1.2, ih2 h.2]
  case conv.conv ih _ _ => rw [beqIK_eq h.1, ih h.2]
  case cmp.cmp ih1 ih2 _ _ _ => rw [beqBO_eq h.1.1, ih1 h.1.2, ih2 h.2]
  case not.not ih _ => rw [ih h]
  case and.and ih1 ih2 _ _ => rw [ih1 h.1, ih2 h.2]
  case ite.ite ih1 ih2 ih3 _ _ _ => rw [ih1 h.1.1, ih2 h.1.2, ih3 h.2]
  case seq.seq ih1 ih2 _ _ => rw [ih1 h.1, ih2 h.2]
  case nilp.nilp => rw [h]

/-- Only names below n. -/
def X.sc (n : Nat) : X → Bool
  | .lit _ | .tt _ | .str _ => true
  | .var i | .len i | .cap i | .nilp i => Nat.blt i n
  | .slen a | .conv _ a | .not a => a.sc n
  | .byte a b | .op _ _ a b | .cmp _ a b | .and a b | .seq a b => a.sc n && b.sc n
  | .ite c a b => c.sc n && a.sc n && b.sc n
theorem gv_append {G D : List Value} {i : Nat} (h : i < G.length) : gv (G ++ D) i = gv G i := by
  simp [gv, List.getD_eq_getElem?_getD, List.getElem?_append_left h]
theorem X.den_append {G D : List Value} : ∀ {e : X}, e.sc G.length = true → e.den (G ++ D) = e.den G := by
  intro e
  induction e <;> intro h <;> simp only [X.sc, Bool.and_eq_true, Nat.blt_eq] at h <;> simp only [X.den]
  case var => exact gv_append h
  case len => rw [gv_append h]
  case cap => rw [gv_append h]
  case nilp => rw [gv_append h]
  case slen ih => rw [ih h]
  case conv ih => rw [ih h]
  case not ih => rw [ih h]
  case byte ih1 ih2 => rw [ih1 h.1, ih2 h.2]
  case op ih1 ih2 => rw [ih1 h.1, ih2 h.2]
  case cmp ih1 ih2 => rw [ih1 h.1, ih2 h.2]
  case and ih1 ih2 => rw [ih1 h.1, ih2 h.2]
  case seq ih1 ih2 => rw [ih1 h.1, ih2 h.2]
  case ite ih1 ih2 ih3 => rw [ih1 h.1.1, ih2 h.1.2, ih3 h.2]
end Go.Proofs.Ytibdneedfopcoaa
