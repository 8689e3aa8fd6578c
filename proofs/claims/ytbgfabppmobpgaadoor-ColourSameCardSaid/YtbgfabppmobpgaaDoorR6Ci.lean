/-
  What the laws of colouring say of a made graph. Conditions: none (plain lemmas).
-/
import Derived.Test.YtbgfabppmobpgaaDoorR6Ch
set_option linter.unusedVariables false
set_option linter.unusedSimpArgs false
namespace Go.Proofs.YtbgfabppmobpgaaDoor
open Go

theorem made_len {N : Nat} (hN : N < 14) (p : Nat → Bool) : (madeE N p).length ≤ 10000 := by
  have := (selP_sub p (pairsTo N N)).length_le
  have h2 := pairsTo_len N N
  have : N * N ≤ 13 * 13 := Nat.mul_le_mul (by omega) (by omega)
  unfold madeE; omega
theorem any_snoc {α : Type} {p : α → Bool} {l : List α} {i : Nat} {x : α} (hx : l[i]? = some x) : (l.take (i + 1)).any p = ((l.take i).any p || p x) := by
  rw [List.take_add_one, hx, List.any_append]; simp
theorem fits_ok {h : H} {ve vm lv : Value} {g : Gr} {k : Nat} {firm : List Bool} {w : CW} (K : GrAt h ve vm g) (hg : g.ok = true) (E : CEnd g k firm w) (hl : IntsAt h lv (w.out k)) :
    CallsA Tryd.prog 15 (fun _ => [grV g ve vm, .int .i64 (k : Int), lv]) [] h (Ret fun r h' => h' = h ∧ r = .bool true) :=
  s15 (k := (k : Int)) K hg hl (E.col hg).len (E.okTo hg)
end Go.Proofs.YtbgfabppmobpgaaDoor
