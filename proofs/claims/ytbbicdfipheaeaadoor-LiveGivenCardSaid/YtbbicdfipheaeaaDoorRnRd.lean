/-
  What an input that is handed in reads as. Conditions: none (plain lemmas).
-/
import Derived.Test.YtbbicdfipheaeaaDoorRnK
set_option linter.unusedVariables false
set_option linter.unusedSimpArgs false
namespace Go.Proofs.YtbbicdfipheaeaaDoor
open Go Go.ChangeShapes Go.WideShapes Go.ChangeAt Go.RowKit

section
variable {H : Type} {enc : TypeId × Value → H} {W : World}
theorem rd_ints64 {cs : List Value} (h : Rd enc Tryd.prog W 77 cs) : ∃ v l, cs = [v] ∧ IntsAt (hOf W) v l ∧ vcap v ≤ maxLen :=
  h.slice Tryd.underlying77 (by kernel_rfl) fun cs' hr => by
    obtain ⟨n, rfl, hw⟩ := hr.int Tryd.underlying2
    exact ⟨n, rfl⟩
theorem rd_input {cs : List Value} (h : Rd enc Tryd.prog W 79 cs) : ∃ av mv nv fuel args mem ans, cs = [av, mv, nv, .int .i64 fuel] ∧ IntsAt (hOf W) av args ∧ IntsAt (hOf W) mv mem ∧ IntsAt (hOf W) nv ans := by
  obtain ⟨a0, _, rfl, r0, a1, _, rfl, r1, a2, _, rfl, r2, a3, _, rfl, r3, rfl⟩ := h.parts Tryd.underlying79 (by kernel_rfl)
  obtain ⟨u0, l0, rfl, h0, _⟩ := rd_ints64 r0
  obtain ⟨u1, l1, rfl, h1, _⟩ := rd_ints64 r1
  obtain ⟨u2, l2, rfl, h2, _⟩ := rd_ints64 r2
  obtain ⟨n3, rfl, _⟩ := r3.int Tryd.underlying3
  exact ⟨u0, u1, u2, n3, l0, l1, l2, rfl, h0, h1, h2⟩
end
end Go.Proofs.YtbbicdfipheaeaaDoor
