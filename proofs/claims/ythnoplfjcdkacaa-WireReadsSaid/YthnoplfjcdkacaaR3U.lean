/-
  The document's reader: ends, instructions. Conditions: as each lemma says.
-/
import Derived.Test.YthnoplfjcdkacaaR3S
set_option linter.unusedVariables false
set_option linter.unusedSimpArgs false
namespace Go.Proofs.Ythnoplfjcdkacaa
open Go

/-! ### Words for the tree -/
def rdK (lim b : Nat) (k : Out) : Out := .call 48 [(.loc 1000000 0), (.int .i64 (.lit lim))] [1000000] [[(.val b), (.int .i64 (.var (b + 1)))]] [[.sl, .int .i64]] [(false, [.int .i64])] k
def flK (b : Nat) (k : Out) : Out := .call 70 [(.loc 1000000 0), (.int .i64 (.lit 20))] [1000000] [[(.val b), (.int .i64 (.var (b + 1)))]] [[.sl, .int .i64]] [] k
def apB (kd : Nat) (a t e : X) (b m : Nat) : Out := .app 83 5 56 (.val 6) (.cells [(.val 14), (.int .u8 (.conv .u8 (.var kd))), (.int .i64 a), (.int .i64 t), (.int .i64 e)] 1) (.again 0 [(.val m), (.int .i64 (.op .add .i64 (.var 7) (.lit 1))), (.val b), (.int .i64 (.var (b + 1)))])
def elT (kd : Nat) (a t : X) (b m : Nat) : Out := .ite (.cmp .eql (.conv .u8 (.var kd)) (.lit 2)) (rdK 4096 b (apB kd a t (.var (m + 2)) m (m + 3))) (apB kd a t (.lit 0) b m)
def toT (kd : Nat) (a : X) (b m : Nat) : Out := .ite (.cmp .neq (.conv .u8 (.var kd)) (.lit 3)) (rdK 4096 b (elT kd a (.var (m + 2)) m (m + 3))) (elT kd a (.lit 0) b m)
def takesT (kd b m : Nat) : Out := .call 61 [(.agg [(.int .u8 (.conv .u8 (.var kd))), (.int .i64 (.lit 0)), (.int .i64 (.lit 0)), (.int .i64 (.lit 0))])] [] [] [] [(false, [.bool])] (.ite (.var m) (rdK 4096 b (toT kd (.var (m + 3)) (m + 1) (m + 4))) (toT kd (.lit 0) b (m + 1)))
def badX (m lim : Nat) : X := .ite (.cmp .eql (.var (m + 1)) (.lit 0)) (.ite (.cmp .lss (.conv .u8 (.var (m + 2))) (.lit 1)) (.tt true) (.cmp .gtr (.conv .u8 (.var (m + 2))) (.lit lim))) (.tt false)
def endT (b m : Nat) : Out := rdK 256 b (.ite (badX m 3) (flK m (takesT (m + 2) (m + 3) (m + 5))) (takesT (m + 2) m (m + 3)))
def nx2 (q : Nat) (op v c d a b n l : SV) : Out := .again 2 [(.int .i64 (.op .add .i64 (.var q) (.lit 1))), op, v, c, d, a, b, n, l]
def iv (i : Nat) : SV := .int .i64 (.var i)
def argT (q : Nat) : Out := .loop 3 [(.int .i64 (.lit 0)), (.val (q + 8)), (.val (q + 9)), iv (q + 10)] [.int .i64, .sl, .sl, .int .i64]
  (.ite (.cmp .lss (.var (q + 12)) (.var (q + 11))) (rdK 4096 (q + 14) (.app 3 1 8 (.val (q + 13)) (.cells [iv (q + 18)] 1) (.again 3 [(.int .i64 (.op .add .i64 (.var (q + 12)) (.lit 1))), (.val (q + 19)), (.val (q + 16)), iv (q + 17)])))
    (nx2 q (.int .u8 (.var (q + 1))) (.val (q + 14)) (iv (q + 15)) (iv (q + 4)) (iv (q + 5)) (iv (q + 6)) (iv (q + 7)) (.val (q + 13))))
def stT (m q : Nat) : Out :=
  .ite (.cmp .eql (.byte (.var m) (.var q)) (.lit 79)) (rdK 256 (q + 2) (nx2 q (.int .u8 (.conv .u8 (.var (q + 11)))) (.val (q + 9)) (iv (q + 10)) (iv (q + 4)) (iv (q + 5)) (iv (q + 6)) (iv (q + 7)) (.val (q + 8))))
  (.ite (.cmp .eql (.byte (.var m) (.var q)) (.lit 68)) (rdK 4096 (q + 2) (nx2 q (.int .u8 (.var (q + 1))) (.val (q + 9)) (iv (q + 10)) (iv (q + 11)) (iv (q + 5)) (iv (q + 6)) (iv (q + 7)) (.val (q + 8))))
  (.ite (.cmp .eql (.byte (.var m) (.var q)) (.lit 65)) (rdK 4096 (q + 2) (nx2 q (.int .u8 (.var (q + 1))) (.val (q + 9)) (iv (q + 10)) (iv (q + 4)) (iv (q + 11)) (iv (q + 6)) (iv (q + 7)) (.val (q + 8))))
  (.ite (.cmp .eql (.byte (.var m) (.var q)) (.lit 66)) (rdK 4096 (q + 2) (nx2 q (.int .u8 (.var (q + 1))) (.val (q + 9)) (iv (q + 10)) (iv (q + 4)) (iv (q + 5)) (iv (q + 11)) (iv (q + 7)) (.val (q + 8))))
  (.ite (.cmp .eql (.byte (.var m) (.var q)) (.lit 78)) (.call 67 [(.loc 1000000 0)] [1000000] [[(.val (q + 2)), iv (q + 3)]] [[.sl, .int .i64]] [(false, [.int .u64])] (.call 71 [(.int .u64 (.var (q + 11)))] [] [] [] [(false, [.int .i64])]
    (nx2 q (.int .u8 (.var (q + 1))) (.val (q + 9)) (iv (q + 10)) (iv (q + 4)) (iv (q + 5)) (iv (q + 6)) (iv (q + 12)) (.val (q + 8)))))
  (rdK 4 (q + 2) (argT q))))))
def fieldsT (b m q : Nat) : Out := .call 59 [(.int .u8 (.conv .u8 (.var 19)))] [] [] [] [(false, [.str])]
  (.loop 2 [(.int .i64 (.lit 0)), (.int .u8 (.lit 0)), (.val b), iv (b + 1), (.int .i64 (.lit 0)), (.int .i64 (.lit 0)), (.int .i64 (.lit 0)), (.int .i64 (.lit 0)), (.cst (.slice none 0 0))] [.int .i64, .int .u8, .sl, .int .i64, .int .i64, .int .i64, .int .i64, .int .i64, .sl]
  (.ite (.cmp .lss (.var q) (.slen (.var m))) (.need (.tt true) [(.cmp .geq (.var q) (.lit 0)), (.cmp .lss (.var q) (.slen (.var m)))] (stT m q))
    (.app 87 7 64 (.val 14) (.cells [(.int .u8 (.conv .u8 (.var 19))), (.int .u8 (.var (q + 1))), iv (q + 4), iv (q + 5), iv (q + 6), iv (q + 7), (.val (q + 8))] 1)
      (.again 1 [(.int .i64 (.op .add .i64 (.var 13) (.lit 1))), (.val (q + 9)), (.val (q + 2)), iv (q + 3)]))))
theorem tB_eq : t52k = .call 48 [(.loc 1000000 0), (.int .i64 (.lit 17))] [1000000] [[(.val 0), (.int .i64 (.var 1))]] [[.sl, .int .i64]] [(false, [.int .i64])]
  (.loop 0 [(.cst (.slice none 0 0)), (.int .i64 (.lit 0)), (.val 3), (.int .i64 (.var 4))] [.sl, .int .i64, .sl, .int .i64]
  (.ite (.ite (.cmp .lss (.var 7) (.var 5)) (.cmp .eql (.var 9) (.lit 0)) (.tt false))
   (.call 48 [(.loc 1000000 0), (.int .i64 (.op .add .i64 (.var 2) (.lit 1)))] [1000000] [[(.val 8), (.int .i64 (.var 9))]] [[.sl, .int .i64]] [(false, [.int .i64])]
   (.loop 1 [(.int .i64 (.lit 0)), (.cst (.slice none 0 0)), (.val 10), (.int .i64 (.var 11))] [.int .i64, .sl, .sl, .int .i64]
    (.ite (.ite (.cmp .lss (.var 13) (.var 12)) (.cmp .eql (.var 16) (.lit 0)) (.tt false))
     (rdK 256 15 (.ite (badX 17 8) (flK 17 (.ite (.cmp .neq (.var 21) (.lit 0)) (endT 20 22) (fieldsT 20 22 23))) (.ite (.cmp .neq (.var 18) (.lit 0)) (endT 17 20) (fieldsT 17 20 21))))
     (endT 15 17))))
   (.done (.val 6) [[(.val 8), (.int .i64 (.var 9))]]))) := by kernel_rfl
end Go.Proofs.Ythnoplfjcdkacaa
