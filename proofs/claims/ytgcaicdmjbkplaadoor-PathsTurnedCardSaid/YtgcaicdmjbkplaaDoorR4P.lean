/-
  What the laws of paths share: blocks made, readings of arguments, numbers of a set. Conditions: as each lemma says.
-/
import Derived.Test.YtgcaicdmjbkplaaDoorR4F
import Derived.Test.YtgcaicdmjbkplaaDoorMr
set_option linter.unusedVariables false
set_option linter.unusedSimpArgs false
namespace Go.Proofs.YtgcaicdmjbkplaaDoor
open Go Go.ChangeShapes Go.WideShapes Go.ChangeAt Go.RowKit

theorem iteT {P : Program} {R : Value → List (List Value) → H → Prop} {G : List Value} {L : Lv} {h : H} {c : X} {a b : Out} (hc : vb (c.den G) = true) (ha : holds P R a G L h) : holds P R (.ite c a b) G L h := ⟨fun _ => ha, fun h => absurd (hc.symm.trans h) (by simp)⟩
theorem iteF {P : Program} {R : Value → List (List Value) → H → Prop} {G : List Value} {L : Lv} {h : H} {c : X} {a b : Out} (hc : vb (c.den G) = false) (hb : holds P R b G L h) : holds P R (.ite c a b) G L h := ⟨fun h => absurd (hc.symm.trans h) (by simp), fun _ => hb⟩
theorem made_B {p0 p1 p2 : Int} {l : List Int} (h0 : 0 ≤ p0) (h1 : 0 ≤ p1) (h2 : 0 ≤ p2) (hl : InB l) : OkB (madeB p0 p1 p2 l) ∧ 1 ≤ (madeB p0 p1 p2 l).length ∧ (madeB p0 p1 p2 l).length ≤ 7 := by
  have hN := madeN_range h2
  have hV := madeV_range h0 h1
  have hBl := madeB_len (p0 := p0) (p1 := p1) (l := l) h2
  refine ⟨fun b hb n hn => ?_, by omega, by omega⟩
  have hb' := hb
  unfold madeB at hb'
  obtain ⟨-, -, he⟩ := blksM_ok (v := madeV p0 p1) (w := madeV p0 p1) (n := madeN p2) (m := madeN p2) (l := l) (by omega) (Int.le_refl _) (by omega) (Int.le_refl _) hl _ b hb'
  rw [hBl]
  unfold endM at he
  unfold nextL at hn
  grind (splits := 60)
def BoolC (_ : H) (cs : List Value) (b : Bool) : Prop := cs = [.bool b]
abbrev BoolsAt := SlAt 1 BoolC
theorem BoolsAt.read {h : H} {v : Value} {l : List Bool} (H : BoolsAt h v l) {i : Nat} {x : Bool} (hi : l[i]? = some x) : Reads h ((vaddr v).add (i * 1)) [.bool x] := by
  obtain ⟨cs, rfl, h2⟩ := H.get i x hi; exact h2
theorem boolC_mono : Mono BoolC := fun _ _ _ _ _ h => h
theorem Rch.lt {B : List Blk} (hB : OkB B) (h1 : 1 ≤ B.length) {x : Nat} (h : Rch B x) : x < B.length := by
  cases h with
  | zero => omega
  | step _ hn => exact nextN_lt hB hn
/-- As many as there are numbers below. -/
theorem filter_ext7 {n : Nat} {p : Nat → Bool} (hn : n ≤ 7) (hp : ∀ x, p x = true → x < n) : ((List.range 7).filter p).length = ((List.range n).filter p).length := by
  have : List.Perm ((List.range 7).filter p) ((List.range n).filter p) := (List.perm_ext_iff_of_nodup (List.Nodup.sublist List.filter_sublist List.nodup_range) (List.Nodup.sublist List.filter_sublist List.nodup_range)).2 fun a => by
    simp only [List.mem_filter, List.mem_range]
    exact ⟨fun ⟨_, q⟩ => ⟨hp a q, q⟩, fun ⟨r, q⟩ => ⟨by omega, q⟩⟩
  exact this.length_eq
section
variable {H : Type} {enc : TypeId × Value → H} {W : World}
end
theorem boolsAt_short {h : H} {v : Value} {l : List Bool} (k : BoolsAt h v l) (hc : vcap v ≤ maxLen) : l.length ≤ maxLen := by
  have := k.len
  obtain ⟨a, n, c, rfl, _, h3⟩ := k.fit
  simp only [vlen_sl, vcap_sl] at this hc
  omega
end Go.Proofs.YtgcaicdmjbkplaaDoor
