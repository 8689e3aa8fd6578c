/-
  What a reading of an argument says: an end, an instruction, a block. Conditions: none.
-/
import Derived.Test.YtibdneedfopcoaaR1B
import Derived.Test.YtibdneedfopcoaaLaw
set_option linter.unusedVariables false
set_option linter.unusedSimpArgs false
namespace Go.Proofs.Ytibdneedfopcoaa
open Go Go.ChangeShapes Go.WideShapes Go.ChangeAt Go.RowKit
section
variable {Hh : Type} {enc : TypeId × Value → Hh} {W : World}
theorem rd_end {cs : List Value} (h : Rd enc Try.prog W 39 cs) : ∃ e, cs = endC e := by
  obtain ⟨a0, _, rfl, r0, a1, _, rfl, r1, a2, _, rfl, r2, a3, _, rfl, r3, rfl⟩ := h.parts Try.underlying39 (by kernel_rfl)
  obtain ⟨n0, rfl, _⟩ := r0.int Try.underlying37
  obtain ⟨n1, rfl, _⟩ := r1.int Try.underlying3
  obtain ⟨n2, rfl, _⟩ := r2.int Try.underlying3
  obtain ⟨n3, rfl, _⟩ := r3.int Try.underlying3
  exact ⟨⟨n0, n1, n2, n3⟩, rfl⟩
theorem rd_ins {cs : List Value} (h : Rd enc Try.prog W 46 cs) : ∃ x v, cs = insC x v ∧ IntsAt (hOf W) v x.args := by
  obtain ⟨a0, _, rfl, r0, a1, _, rfl, r1, a2, _, rfl, r2, a3, _, rfl, r3, a4, _, rfl, r4, a5, _, rfl, r5, a6, _, rfl, r6, rfl⟩ := h.parts Try.underlying46 (by kernel_rfl)
  obtain ⟨n0, rfl, _⟩ := r0.int Try.underlying42
  obtain ⟨n1, rfl, _⟩ := r1.int Try.underlying43
  obtain ⟨n2, rfl, _⟩ := r2.int Try.underlying3
  obtain ⟨n3, rfl, _⟩ := r3.int Try.underlying3
  obtain ⟨n4, rfl, _⟩ := r4.int Try.underlying3
  obtain ⟨n5, rfl, _⟩ := r5.int Try.underlying2
  obtain ⟨v, l, rfl, hv, _⟩ := r6.ints Try.underlying44 Try.underlying3 (by kernel_rfl)
  exact ⟨⟨n0, n1, n2, n3, n4, n5, l⟩, v, rfl, hv⟩
theorem rd_blk {cs : List Value} (h : Rd enc Try.prog W 41 cs) : ∃ b, BlkC (hOf W) cs b := by
  obtain ⟨a0, _, rfl, r0, a1, _, rfl, r1, rfl⟩ := h.parts Try.underlying41 (by kernel_rfl)
  obtain ⟨v, l, rfl, hv, _⟩ := r0.slice (Rep := InsC) Try.underlying36 (by kernel_rfl) fun cs' hr => by obtain ⟨x, v, h1, h2⟩ := rd_ins hr; exact ⟨x, v, h1, h2⟩
  obtain ⟨e, rfl⟩ := rd_end r1
  exact ⟨⟨l, e⟩, v, by simp, hv⟩
theorem rd_blks {cs : List Value} (h : Rd enc Try.prog W 22 cs) : ∃ v l, cs = [v] ∧ BlksAt (hOf W) v l ∧ vcap v ≤ maxLen :=
  h.slice Try.underlying22 (by kernel_rfl) fun cs' hr => rd_blk hr
theorem rd_bytes {cs : List Value} (h : Rd enc Try.prog W 25 cs) : ∃ v l, cs = [v] ∧ BytesAt (hOf W) v l ∧ vcap v ≤ maxLen :=
  h.slice Try.underlying25 (by kernel_rfl) fun cs' hr => by
    obtain ⟨n, rfl, hw⟩ := hr.int Try.underlying5
    have : 0 ≤ n ∧ n ≤ 255 := by simpa [Lit.wf, IntKind.min, IntKind.max, IntKind.signed, IntKind.bits] using hw
    exact ⟨n, rfl, this⟩
theorem rd_spec {cs : List Value} (h : Rd enc Try.prog W 27 cs) : ∃ p0 p1 p2 v l, cs = [.int .u8 p0, .int .u8 p1, .int .u8 p2, v] ∧ 0 ≤ p0 ∧ 0 ≤ p1 ∧ 0 ≤ p2 ∧ BytesAt (hOf W) v l := by
  obtain ⟨a0, _, rfl, r0, a1, _, rfl, r1, a2, _, rfl, r2, a3, _, rfl, r3, rfl⟩ := h.parts Try.underlying27 (by kernel_rfl)
  obtain ⟨n0, rfl, w0⟩ := r0.int Try.underlying5
  obtain ⟨n1, rfl, w1⟩ := r1.int Try.underlying5
  obtain ⟨n2, rfl, w2⟩ := r2.int Try.underlying5
  obtain ⟨v, l, rfl, hv, _⟩ := rd_bytes r3
  have g0 : 0 ≤ n0 ∧ n0 ≤ 255 := by simpa [Lit.wf, IntKind.min, IntKind.max, IntKind.signed, IntKind.bits] using w0
  have g1 : 0 ≤ n1 ∧ n1 ≤ 255 := by simpa [Lit.wf, IntKind.min, IntKind.max, IntKind.signed, IntKind.bits] using w1
  have g2 : 0 ≤ n2 ∧ n2 ≤ 255 := by simpa [Lit.wf, IntKind.min, IntKind.max, IntKind.signed, IntKind.bits] using w2
  exact ⟨n0, n1, n2, v, l, rfl, g0.1, g1.1, g2.1, hv⟩
theorem u8r {n : Int} (w : (Lit.int .u8 n).wf = true) : 0 ≤ n ∧ n ≤ 255 := by simpa [Lit.wf, IntKind.min, IntKind.max, IntKind.signed, IntKind.bits] using w
theorem rd_func {cs : List Value} (h : Rd enc Try.prog W 24 cs) : ∃ p n v bs, cs = [.int .i64 p, .int .i64 n, v] ∧ BlksAt (hOf W) v bs := by
  obtain ⟨a0, _, rfl, r0, a1, _, rfl, r1, a2, _, rfl, r2, rfl⟩ := h.parts Try.underlying24 (by kernel_rfl)
  obtain ⟨n0, rfl, _⟩ := r0.int Try.underlying3
  obtain ⟨n1, rfl, _⟩ := r1.int Try.underlying3
  obtain ⟨v, l, rfl, hv, _⟩ := rd_blks r2
  exact ⟨n0, n1, v, l, rfl, hv⟩
theorem rd_code {cs : List Value} (h : Rd enc Try.prog W 67 cs) : ∃ p r s v bs, cs = [.int .i64 p, .int .i64 r, .int .i64 s, v] ∧ BlksAt (hOf W) v bs := by
  obtain ⟨a0, _, rfl, r0, a1, _, rfl, r1, a2, _, rfl, r2, a3, _, rfl, r3, rfl⟩ := h.parts Try.underlying67 (by kernel_rfl)
  obtain ⟨n0, rfl, _⟩ := r0.int Try.underlying3
  obtain ⟨n1, rfl, _⟩ := r1.int Try.underlying3
  obtain ⟨n2, rfl, _⟩ := r2.int Try.underlying3
  obtain ⟨v, l, rfl, hv, _⟩ := rd_blks r3
  exact ⟨n0, n1, n2, v, l, rfl, hv⟩
end
end Go.Proofs.Ytibdneedfopcoaa
