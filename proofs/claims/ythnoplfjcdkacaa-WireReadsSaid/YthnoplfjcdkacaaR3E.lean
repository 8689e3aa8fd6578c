/-
  The law's fixed fact of layer 8; numbers of 64 bits in what is made and read. Conditions: as each lemma says.
-/
import Derived.Test.YthnoplfjcdkacaaR3D
import Derived.Test.YthnoplfjcdkacaaMc
import Derived.Test.YthnoplfjcdkacaaMa
set_option linter.unusedVariables false
set_option linter.unusedSimpArgs false
namespace Go.Proofs.Ythnoplfjcdkacaa
open Go Go.ChangeShapes Go.WideShapes Go.ChangeAt Go.RowKit

/-! ### Readings -/
section
variable {Hh : Type} {enc : TypeId × Value → Hh} {W : World}
def InsCN (h : H) (cs : List Value) (x : Ins) : Prop := InsC h cs x ∧ N64 x.n
def BlkCN (h : H) (cs : List Value) (b : Blk) : Prop := BlkC h cs b ∧ ∀ x ∈ b.ins, N64 x.n
theorem SlAt.imp {α : Type} {sz : Nat} {Rep Rep' : H → List Value → α → Prop} {h : H} {v : Value} {l : List α} (hi : ∀ cs x, Rep h cs x → Rep' h cs x) (k : SlAt sz Rep h v l) : SlAt sz Rep' h v l :=
  ⟨k.fit, k.len, fun i x hx => by obtain ⟨cs, h1, h2⟩ := k.get i x hx; exact ⟨cs, hi _ _ h1, h2⟩⟩
theorem SlAt.all {α : Type} {sz : Nat} {Rep : H → List Value → α → Prop} {h : H} {v : Value} {l : List α} (k : SlAt sz Rep h v l) : ∀ x ∈ l, ∃ cs, Rep h cs x := fun x hx => by
  obtain ⟨i, hi⟩ := List.getElem?_of_mem hx
  obtain ⟨cs, h1, _⟩ := k.get i x hi
  exact ⟨cs, h1⟩
theorem i64r {n : Int} (w : (Lit.int .i64 n).wf = true) : N64 n := by
  have : -9223372036854775808 ≤ n ∧ n ≤ 9223372036854775807 := by simpa [Lit.wf, IntKind.min, IntKind.max, IntKind.signed, IntKind.bits] using w
  exact ⟨this.1, by omega⟩
theorem rd_insN {cs : List Value} (h : Rd enc Try.prog W 87 cs) : ∃ x, InsCN (hOf W) cs x := by
  obtain ⟨a0, _, rfl, r0, a1, _, rfl, r1, a2, _, rfl, r2, a3, _, rfl, r3, a4, _, rfl, r4, a5, _, rfl, r5, a6, _, rfl, r6, rfl⟩ := h.parts Try.underlying87 (by kernel_rfl)
  obtain ⟨n0, rfl, _⟩ := r0.int Try.underlying84
  obtain ⟨n1, rfl, _⟩ := r1.int Try.underlying85
  obtain ⟨n2, rfl, _⟩ := r2.int Try.underlying3
  obtain ⟨n3, rfl, _⟩ := r3.int Try.underlying3
  obtain ⟨n4, rfl, _⟩ := r4.int Try.underlying3
  obtain ⟨n5, rfl, w5⟩ := r5.int Try.underlying2
  obtain ⟨v, l, rfl, hv, _⟩ := r6.ints Try.underlying52 Try.underlying3 (by kernel_rfl)
  exact ⟨⟨n0, n1, n2, n3, n4, n5, l⟩, ⟨v, rfl, hv⟩, i64r w5⟩
theorem rd_blkN {cs : List Value} (h : Rd enc Try.prog W 83 cs) : ∃ b, BlkCN (hOf W) cs b := by
  obtain ⟨a0, _, rfl, r0, a1, _, rfl, r1, rfl⟩ := h.parts Try.underlying83 (by kernel_rfl)
  obtain ⟨v, l, rfl, hv, _⟩ := r0.slice (Rep := InsCN) Try.underlying81 (by kernel_rfl) fun cs' hr => rd_insN hr
  obtain ⟨e, rfl⟩ := rd_end r1
  exact ⟨⟨l, e⟩, ⟨v, by simp, hv.imp fun cs x h => h.1⟩, fun x hx => by obtain ⟨cs, h⟩ := hv.all x hx; exact h.2⟩
theorem rd_blksN {cs : List Value} (h : Rd enc Try.prog W 22 cs) : ∃ v l, cs = [v] ∧ BlksAt (hOf W) v l ∧ NB l := by
  obtain ⟨v, l, e, hv, _⟩ := h.slice (Rep := BlkCN) Try.underlying22 (by kernel_rfl) fun cs' hr => rd_blkN hr
  exact ⟨v, l, e, hv.imp fun cs x h => h.1, fun b hb => by obtain ⟨cs, h⟩ := hv.all b hb; exact h.2⟩
theorem rd_nums {cs : List Value} (h : Rd enc Try.prog W 52 cs) : ∃ v l, cs = [v] ∧ IntsAt (hOf W) v l := by
  obtain ⟨v, l, e, hv, _⟩ := h.ints Try.underlying52 Try.underlying3 (by kernel_rfl)
  exact ⟨v, l, e, hv⟩
theorem rd_funcN {cs : List Value} (h : Rd enc Try.prog W 24 cs) : ∃ p n v bs, cs = [.int .i64 p, .int .i64 n, v] ∧ BlksAt (hOf W) v bs ∧ NB bs := by
  obtain ⟨a0, _, rfl, r0, a1, _, rfl, r1, a2, _, rfl, r2, rfl⟩ := h.parts Try.underlying24 (by kernel_rfl)
  obtain ⟨n0, rfl, _⟩ := r0.int Try.underlying3
  obtain ⟨n1, rfl, _⟩ := r1.int Try.underlying3
  obtain ⟨v, l, rfl, hv, hn⟩ := rd_blksN r2
  exact ⟨n0, n1, v, l, rfl, hv, hn⟩
theorem rd_codeN {cs : List Value} (h : Rd enc Try.prog W 44 cs) : ∃ p r s v bs, cs = [.int .i64 p, .int .i64 r, .int .i64 s, v] ∧ BlksAt (hOf W) v bs ∧ NB bs := by
  obtain ⟨a0, _, rfl, r0, a1, _, rfl, r1, a2, _, rfl, r2, a3, _, rfl, r3, rfl⟩ := h.parts Try.underlying44 (by kernel_rfl)
  obtain ⟨n0, rfl, _⟩ := r0.int Try.underlying3
  obtain ⟨n1, rfl, _⟩ := r1.int Try.underlying3
  obtain ⟨n2, rfl, _⟩ := r2.int Try.underlying3
  obtain ⟨v, l, rfl, hv, hn⟩ := rd_blksN r3
  exact ⟨n0, n1, n2, v, l, rfl, hv, hn⟩
end

/-! ### The fixed fact -/
theorem lebI_one {n : Int} (h0 : 0 ≤ n) (h1 : n < 128) : lebI n = [n] := by
  unfold lebI
  rw [u64_of h0 (by omega), leb_lt (by omega)]
  congr 1; omega
theorem s10 {h : H} : CallsA Try.prog 10 (fun _ => []) [] h (Ret fun r h' => h.le h' ∧ r = .bool true) := by
  refine c10 (G := []) trivial ?_
  intro b hb
  have hl0 := H.le_put (o := .cells (Value.slice none 0 0 :: endC ⟨3, 0, 0, 0⟩).toArray 83 (0, 0)) hb
  have hB : BlksAt (H.put h b (.cells (Value.slice none 0 0 :: endC ⟨3, 0, 0, 0⟩).toArray 83 (0, 0))) (.slice (some ⟨b, 0, none⟩) 1 1) [⟨[], ⟨3, 0, 0, 0⟩⟩] := by
    refine ⟨⟨_, _, _, rfl, (fun e => by cases e), Nat.le_refl _⟩, rfl, fun i x hi => ?_⟩
    obtain ⟨rfl, rfl⟩ := get_one hi
    exact ⟨_, ⟨_, rfl, SlAt.nil⟩, Reads.put (o := 0) fun i v hi => by simpa using hi⟩
  have e1 : (checkM 0 1 [⟨[], ⟨3, 0, 0, 0⟩⟩]).1 = 0 := by decide
  have e2 : encF 0 1 [⟨[], ⟨3, 0, 0, 0⟩⟩] = [0, 1, 1, 0, 3, 0] := by
    have e := fun {n : Int} => @lebI_one n
    simp [encF, encBs, encB, encE, e]
  refine h_call0 (s14 (p := 0) (n := 1) hB (fun b hb x hx => by simp at hb; subst hb; cases hx)) ?_
  rintro _ h1 ⟨hl1, ⟨hc, -⟩ | ⟨-, v', rfl, o⟩⟩
  · exact absurd e1 hc
  rw [e2] at o
  refine ⟨[v', .int .i64 0], ⟨o.at.fit, ⟨_, rfl⟩, trivial⟩, rfl, h_ite (fun _ => ?_) (fun hc => by cases hc)⟩
  refine ⟨_, o.at.bin, rfl, hl0.trans hl1, ?_⟩
  have e3 : strOfNums [0, 1, 1, 0, 3, 0] = ⟨#[0, 1, 1, 0, 3, 0]⟩ := by rfl
  show Value.bool ((strOfNums [0, 1, 1, 0, 3, 0]).toList == (ByteArray.mk #[0, 1, 1, 0, 3, 0]).toList) = Value.bool true
  rw [e3, beq_self_eq_true]
/-- A thing in a row. -/
theorem row_at {h : H} {b : Nat} {e : TypeId} {A B C l : List Value} {o : Nat} (hl : l = A ++ B ++ C) (ho : A.length = o) : Reads (h.put b (.cells l.toArray e (0, 0))) (Addr.add ⟨b, 0, none⟩ o) B := by
  subst hl
  refine Reads.put fun i v hi => ?_
  have hlt := (List.getElem?_eq_some_iff.1 hi).1
  rw [List.append_assoc, List.getElem?_append_right (by omega), List.getElem?_append_left (by omega)]
  rw [show o + i - A.length = i by omega]; exact hi
theorem notlong_ok {x y : Value} (h : x = y) : (vs x).toList == (vs y).toList := by subst h; simp
end Go.Proofs.Ythnoplfjcdkacaa
