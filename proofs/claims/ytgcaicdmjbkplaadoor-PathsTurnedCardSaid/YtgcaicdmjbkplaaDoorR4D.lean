/-
  The document's answer for the order. Conditions: as each contract says.
-/
import Derived.Test.YtgcaicdmjbkplaaDoorR4C
set_option linter.unusedVariables false
set_option linter.unusedSimpArgs false
namespace Go.Proofs.YtgcaicdmjbkplaaDoor
open Go

theorem downM_mem {B : List Blk} {n b : Nat} {s : List Nat × List Nat} (h : b ∈ s.1) : downM B n b s = s := by
  cases n with
  | zero => rfl
  | succ n => unfold downM; rw [if_pos h]
def DownR (B : List Blk) (h0 h : H) (vo vs : Value) (s : List Nat × List Nat) : Prop :=
  ∃ (fo fb : List Nat) (bs : List Bool), RowF h 3 1 vo (s.2.map natV) fo ∧ RowF h 4 1 vs (bs.map .bool) fb ∧ bs.length = B.length ∧ (∀ x, x < B.length → bs[x]? = some (decide (x ∈ s.1))) ∧ (∀ b ∈ fo, b ∉ fb) ∧ Fresh h0 fo ∧ Fresh h0 fb ∧ h0.le h
theorem DownR.fit {B : List Blk} {h0 h : H} {vo vs : Value} {s : List Nat × List Nat} : DownR B h0 h vo vs s → Fits .sl vo ∧ Fits .sl vs ∧ vlen vs = B.length := fun ⟨fo, fb, bs, h1, h2, h3, _⟩ =>
  ⟨h1.row0.fit, h2.row0.fit, by rw [len_of_rowF h2, List.length_map, h3]⟩
theorem zero_bool : (zeroCells Tryd.prog 4).getD [] = [.bool false] := by kernel_rfl
theorem repZ_bool (n : Nat) : repZ [Value.bool false] n = (List.replicate n false).map .bool := by
  apply List.ext_getElem?
  intro i
  unfold repZ
  simp only [List.length_cons, List.length_nil, Nat.zero_add, Nat.mul_one, Nat.mod_one, List.getElem?_map, List.getElem?_replicate]
  by_cases hi : i < n
  · rw [List.getElem?_range hi, if_pos hi]; rfl
  · rw [List.getElem?_eq_none (by simpa using hi), if_neg hi]; rfl
theorem mk_bools {h : H} {b n : Nat} (hb : h b = none) : RowF (h.put b (.cells (repZ ((zeroCells Tryd.prog 4).getD []) n).toArray 4 (0, 0))) 4 1 (.slice (some ⟨b, 0, none⟩) n n) ((List.replicate n false).map .bool) [b] := by
  rw [zero_bool, repZ_bool]
  have := RowF.new (h := h) (e := 4) (sz := 1) (b := b) (n := n) (c := n) (cs := (List.replicate n false).map Value.bool) (r := []) (by simp) (by simp) (Nat.le_refl _)
  rwa [List.append_nil] at this
end Go.Proofs.YtgcaicdmjbkplaaDoor
