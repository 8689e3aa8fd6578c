/-
  From a door seat's row to what the walk asks of memory: the table of math/bits; and readings of arguments. Conditions: as each lemma says.
-/
import Derived.Test.YtbgfabppmobpgaaDoorR6I
import Derived.Test.YtbgfabppmobpgaaDoorTie
import Derived.Test.YtbgfabppmobpgaaDoorCards
import Derived.LaidMore
import Derived.Lay
import Derived.Stop.Joined
import Derived.Lib.LaidTab
import Derived.SevenTiedAt
set_option linter.unusedVariables false
set_option linter.unusedSimpArgs false
namespace Go.Proofs.YtbgfabppmobpgaaDoor
open Go Go.ChangeShapes Go.WideShapes Go.ChangeAt Go.RowKit

/-- The row's one listed variable. -/
abbrev laid1 : List (String × DataW Unit) := [("math/bits.deBruijn64tab", Rows.laid_math_bits_deBruijn64tab)]
theorem gTab : Tryd.prog.globalNamed "math/bits.deBruijn64tab" = some 0 := by kernel_rfl
theorem tTab : (Tryd.prog.globals[0]?).map (·.type) = some 92 := by kernel_rfl
theorem laid1_eq : laid1 = ("math/bits.deBruijn64tab", Lib.tabData .u8 tabL) :: [] := by kernel_rfl
theorem tab_of {W : World} (h : laidMetH Tryd.prog laid1 W) : Tab (hOf W) := by
  rw [MakeChecks.laidMetH_plain _ _ _ (by kernel_rfl), laid1_eq] at h
  have := Lib.tabIs_of_head (n := 64) gTab tTab Tryd.underlying92 Tryd.underlying5 (by kernel_rfl) (by kernel_rfl) h
  intro j v hj
  rw [hOf_cell]
  have hl : tabL.length = 64 := rfl
  have hjl : j < tabL.length := by
    have := (List.getElem?_eq_some_iff.1 hj).1
    simpa using this
  have e := this.cell gTab j hjl
  have ea : Addr.add ⟨0, 0, none⟩ j = ⟨0, j, none⟩ := by unfold Addr.add; split <;> simp_all
  rw [ea, e, ← hj]
  rw [List.getElem?_map, List.getElem?_eq_getElem hjl]
  simp [List.getD, hjl]
theorem trod_weight {Hh : Type} {enc : TypeId × Value → Hh} {P : Program} {W : World} {t e : TypeId} {a : Option Addr} {n c : Nat} {d : DataW Hh} {ps : List MemPlace} (ht : P.underlying t = some (.slice e)) (h : DataW.Trod enc P W 0 (fun _ => true) true t (.slice a n c) d ps)
    (hw : (d.weights P t).all (· ≤ reachBytes) = true) : c * P.bytesOf e ≤ reachBytes := by
  obtain ⟨fuel, h⟩ := h
  rcases Go.Deep.open_slice ht h with ⟨e1, e2⟩ | ⟨a', len, cap, m, k, D, Pl, e1, _, hl, hm, hmm, e2, _⟩
  · have e3 : Value.slice a n c = .slice none 0 0 := by simpa [Value.cells] using e1
    cases e3
    omega
  · have e3 : Value.slice (some a') len cap = .slice a n c := by simpa [Value.cells] using e1.symm
    injection e3 with e4 e5 e6
    subst e5; subst e6
    simp only [Prod.mk.injEq] at e2
    obtain ⟨rfl, -⟩ := e2
    unfold DataW.weights at hw
    rw [ht] at hw
    simp only [List.all_cons, Bool.and_eq_true, decide_eq_true_eq, List.length_map, List.length_range] at hw
    have h1 := hw.1
    simp only [if_true] at hmm
    rw [hmm, Nat.add_sub_cancel' hl] at h1
    exact h1
theorem u8_bounds {x : Int} (h : (Lit.int .u8 x).wf = true) : 0 ≤ x ∧ x ≤ 255 := by simpa [Lit.wf, IntKind.min, IntKind.max, IntKind.signed, IntKind.bits] using h
section
variable {Hh : Type} {enc : TypeId × Value → Hh} {W : World}
theorem rd_bytes {cs : List Value} (h : Rd enc Tryd.prog W 22 cs) : ∃ v l, cs = [v] ∧ BytesAt (hOf W) v l ∧ vcap v ≤ maxLen :=
  h.slice Tryd.underlying22 (by kernel_rfl) fun cs' hr => by
    obtain ⟨n, rfl, hw⟩ := hr.int Tryd.underlying5
    have : 0 ≤ n ∧ n ≤ 255 := by simpa [Lit.wf, IntKind.min, IntKind.max, IntKind.signed, IntKind.bits] using hw
    exact ⟨n, rfl, this⟩
theorem rd_u16 {cs : List Value} (h : Rd enc Tryd.prog W 23 cs) : ∃ v l, cs = [v] ∧ U16At (hOf W) v l ∧ vcap v ≤ maxLen :=
  h.slice Tryd.underlying23 (by kernel_rfl) fun cs' hr => by
    obtain ⟨n, rfl, hw⟩ := hr.int Tryd.underlying43
    have : 0 ≤ n ∧ n ≤ 65535 := by simpa [Lit.wf, IntKind.min, IntKind.max, IntKind.signed, IntKind.bits] using hw
    exact ⟨n, rfl, this.1⟩
theorem rd_nums {cs : List Value} (h : Rd enc Tryd.prog W 29 cs) : ∃ v l, cs = [v] ∧ IntsAt (hOf W) v l := by
  obtain ⟨v, l, e, hv, _⟩ := h.ints Tryd.underlying29 Tryd.underlying3 (by kernel_rfl)
  exact ⟨v, l, e, hv⟩
theorem rd_bools {cs : List Value} (h : Rd enc Tryd.prog W 46 cs) : ∃ v l, cs = [v] ∧ BoolsAt (hOf W) v l := by
  obtain ⟨v, l, e, hv, _⟩ := h.slice (Rep := BoolC) Tryd.underlying46 (by kernel_rfl) fun cs' hr => by
    obtain ⟨b, rfl⟩ := hr.bool Tryd.underlying4
    exact ⟨b, rfl⟩
  exact ⟨v, l, e, hv⟩
theorem rd_edges {cs : List Value} (h : Rd enc Tryd.prog W 25 cs) : ∃ v l, cs = [v] ∧ EdgesAt (hOf W) v l := by
  obtain ⟨v, l, e, hv, _⟩ := h.slice (Rep := EdgeC) Tryd.underlying25 (by kernel_rfl) fun cs' hr => by
    obtain ⟨a0, _, rfl, r0, a1, _, rfl, r1, rfl⟩ := hr.parts Tryd.underlying41 (by kernel_rfl)
    obtain ⟨n0, rfl, _⟩ := r0.int Tryd.underlying3
    obtain ⟨n1, rfl, _⟩ := r1.int Tryd.underlying3
    exact ⟨(n0, n1), rfl⟩
  exact ⟨v, l, e, hv⟩
theorem rd_graph {cs : List Value} (h : Rd enc Tryd.prog W 27 cs) : ∃ n ve E vm M, cs = [.int .i64 n, ve, vm] ∧ EdgesAt (hOf W) ve E ∧ EdgesAt (hOf W) vm M := by
  obtain ⟨a0, _, rfl, r0, a1, _, rfl, r1, a2, _, rfl, r2, rfl⟩ := h.parts Tryd.underlying27 (by kernel_rfl)
  obtain ⟨n0, rfl, _⟩ := r0.int Tryd.underlying3
  obtain ⟨v1, l1, rfl, h1⟩ := rd_edges r1
  obtain ⟨v2, l2, rfl, h2⟩ := rd_edges r2
  exact ⟨n0, v1, l1, v2, l2, rfl, h1, h2⟩
end
end Go.Proofs.YtbgfabppmobpgaaDoor
