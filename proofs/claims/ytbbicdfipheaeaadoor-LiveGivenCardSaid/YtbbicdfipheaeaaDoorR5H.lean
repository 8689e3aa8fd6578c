/-
  How the laws of flows begin: a function, its blocks' numbers, from where facts come, sets that are solved for. Conditions: as each lemma says.
-/
import Derived.Test.YtbbicdfipheaeaaDoorR5G
import Derived.Test.YtbbicdfipheaeaaDoorR5Tf
set_option linter.unusedVariables false
set_option linter.unusedSimpArgs false
namespace Go.Proofs.YtbbicdfipheaeaaDoor
open Go

theorem var_new {h : H} {b : Nat} {e : TypeId} {x : Value} : RowF (h.put b (.cells [x].toArray e (0, 0))) e 1 (.slice (some ⟨b, 0, none⟩) 1 1) [x] [b] := by
  have := RowF.new (h := h) (e := e) (sz := 1) (b := b) (n := 1) (c := 1) (cs := [x]) (r := []) (by simp) (by simp) (Nat.le_refl _)
  rwa [List.append_nil] at this
theorem var_set {h : H} {b : Nat} {e : TypeId} {x y : Value} (k : RowF h e 1 (.slice (some ⟨b, 0, none⟩) 1 1) [x] [b]) :
    Writable h ⟨b, 0, none⟩ 1 ∧ RowF (h.sets ⟨b, 0, none⟩ [y]) e 1 (.slice (some ⟨b, 0, none⟩) 1 1) [y] [b] ∧ KeptH h (h.sets ⟨b, 0, none⟩ [y]) [b] := by
  have := rowF_set (x := y) (i := 0) k (by simp)
  simpa [vaddr_sl, add_lit] using this
theorem var_read {h : H} {b : Nat} {e : TypeId} {x : Value} (k : RowF h e 1 (.slice (some ⟨b, 0, none⟩) 1 1) [x] [b]) : Reads h ⟨b, 0, none⟩ [x] := by
  have := rowF_read (i := 0) k rfl
  simpa [vaddr_sl, add_lit] using this
/-- Two variables, made and then set. -/
theorem vars2 {h : H} {b1 b2 : Nat} {e : TypeId} {z x y : Value} (hb1 : h b1 = none) (hb2 : (h.put b1 (.cells [z].toArray e (0, 0))) b2 = none) {g : H} (hg : g = (h.put b1 (.cells [z].toArray e (0, 0))).put b2 (.cells [z].toArray e (0, 0))) :
    Writable g ⟨b1, 0, none⟩ 1 ∧ Writable (g.sets ⟨b1, 0, none⟩ [x]) ⟨b2, 0, none⟩ 1 ∧ h.le ((g.sets ⟨b1, 0, none⟩ [x]).sets ⟨b2, 0, none⟩ [y]) ∧ Reads ((g.sets ⟨b1, 0, none⟩ [x]).sets ⟨b2, 0, none⟩ [y]) ⟨b1, 0, none⟩ [x] ∧ Reads ((g.sets ⟨b1, 0, none⟩ [x]).sets ⟨b2, 0, none⟩ [y]) ⟨b2, 0, none⟩ [y] := by
  have r1 := var_new (h := h) (b := b1) (e := e) (x := z)
  have l1 : h.le (h.put b1 (.cells [z].toArray e (0, 0))) := H.le_put hb1
  generalize h.put b1 (.cells [z].toArray e (0, 0)) = h1 at hb2 hg r1 l1
  have r2 := var_new (h := h1) (b := b2) (e := e) (x := z)
  have l2 : h1.le (h1.put b2 (.cells [z].toArray e (0, 0))) := H.le_put hb2
  rw [← hg] at r2 l2
  have hne : b1 ≠ b2 := fun q => by
    have := r1.live b1 (by simp)
    rw [q, hb2] at this; cases this
  have r1 := r1.agree (le_agree' l2 r1.live)
  obtain ⟨w1, s1, k1⟩ := var_set (y := x) r1
  have r2 := r2.agree (k1.agree r2.live fun b hb hb' => by rw [List.mem_singleton] at hb hb'; omega)
  have le1 : h.le (g.sets ⟨b1, 0, none⟩ [x]) := k1.le (l1.trans l2) (fun b hb => by rw [List.mem_singleton] at hb; subst hb; exact hb1)
  obtain ⟨w2, s2, k2⟩ := var_set (y := y) r2
  have s1' := s1.agree (k2.agree s1.live fun b hb hb' => by rw [List.mem_singleton] at hb hb'; omega)
  exact ⟨w1, w2, k2.le le1 (fun b hb => by rw [List.mem_singleton] at hb; subst hb; exact H.le_none l1 hb2), var_read s1', var_read s2⟩
/-- How FlowSets and FlowStays begin. -/
def openT (k : Out) : Out :=
 (.call 11 [] [] [] [] [(false, [.bool])] 
 (.ite (.not (.var 7))
  (.done (.bool (.tt false)) [])
  (.call 12 [(.agg [(.int .u8 (.var 0)), (.int .u8 (.var 1)), (.int .u8 (.var 2)), (.val 3)])] [] [] [] [(true, [.int .i64, .int .i64, .sl])] 
  (.call 13 [(.val 10), (.val 4), (.val 5)] [] [] [] [(false, [.sl]), (false, [.sl])] 
  (.alloc 30 [(.cst (.slice none 0 0))] .loc 
  (.alloc 30 [(.cst (.slice none 0 0))] .loc 
  (.store (.var 13) [(.val 11)] 
  (.store (.var 14) [(.val 12)] 
  (.call 14 [(.val 10), (.bool (.var 6))] [] [] [] [(false, [.fn])] k)))))))))
theorem open_holds {h : H} {vs va vc : Value} {p0 p1 p2 : Int} {l A C : List Int} {back : Bool} {k : Out} (hs : BytesAt h vs l) (h0 : 0 ≤ p0) (h1 : 0 ≤ p1) (h2 : 0 ≤ p2) (hA : BytesAt h va A) (hA2 : A.length ≤ 9223372036854775807) (hC : BytesAt h vc C) (hC2 : C.length ≤ 9223372036854775807)
    (K : ∀ (B : List Blk) (g : H) (u vl vm : Value) (ad al am : Addr) (S M : List (List Nat)), OkB B → 1 ≤ B.length → B.length ≤ 90 → h.le g → BlksAt g u B → Reads g ad [u] → Reads g al [vl] → Reads g am [vm] → MarkAt g vl S → MarkAt g vm M → MarkR B.length A M → MarkR B.length C S →
      holds Tryd.prog (Ret fun r h' => h.le h' ∧ r = .bool true) k [.int .u8 p0, .int .u8 p1, .int .u8 p2, vs, va, vc, .bool back, .bool true, .int .i64 (madeP p0), .int .i64 (madeV p0 p1), u, vm, vl, .pointer (some am), .pointer (some al), aheadV back ad] [] g) :
    holds Tryd.prog (Ret fun r h' => h.le h' ∧ r = .bool true) (openT k) [.int .u8 p0, .int .u8 p1, .int .u8 p2, vs, va, vc, .bool back] [] h := by
  obtain ⟨hB, hB1, hB7⟩ := made_B h0 h1 h2 hs.inB
  refine h_call0 s11 ?_
  rintro _ g1 ⟨hl1, rfl⟩
  refine ⟨[.bool true], ⟨⟨_, rfl⟩, trivial⟩, rfl, iteF rfl ?_⟩
  refine h_call0 (s12 (p0 := p0) (p1 := p1) (p2 := p2) (hs.le hl1) h0 h1 h2) ?_
  rintro _ g2 ⟨hk2, u, fp, rfl, hu, hfp, hnd⟩
  generalize madeB p0 p1 p2 l = B at hB hB1 hB7 hu
  have hua := hu.at
  have hle2 : h.le g2 := hl1.trans hk2.le_nil
  refine ⟨[.int .i64 (madeP p0), .int .i64 (madeV p0 p1), u], ⟨⟨_, rfl⟩, ⟨_, rfl⟩, hua.fit, trivial⟩, rfl, ?_⟩
  simp only [List.cons_append, List.nil_append]
  refine h_call0 (s13 (N := B.length) hua.fit hua.len hB1 (by omega) (hA.le hle2) hA2 (hC.le hle2) hC2) ?_
  rintro _ g3 ⟨hl3, vm, vl, M, S, rfl, hM, hS, kM, kS⟩
  refine ⟨[vm, vl], ⟨kM.fit, kS.fit, trivial⟩, rfl, ?_⟩
  simp only [List.cons_append, List.nil_append]
  intro b1 hb1 b2 hb2
  obtain ⟨w1, w2, l4, r1, r2⟩ := vars2 (e := 30) (z := .slice none 0 0) (x := vm) (y := vl) hb1 hb2 rfl
  refine h_store ⟨b1, 0, none⟩ [vm] rfl rfl w1 (h_store ⟨b2, 0, none⟩ [vl] rfl rfl w2 ?_)
  show holds _ _ _ [.int .u8 p0, .int .u8 p1, .int .u8 p2, vs, va, vc, .bool back, .bool true, .int .i64 (madeP p0), .int .i64 (madeV p0 p1), u, vm, vl, .pointer (some ⟨b1, 0, none⟩), .pointer (some ⟨b2, 0, none⟩)] _ (((((g3.put b1 (.cells #[Value.slice none 0 0] 30)).put b2 (.cells #[Value.slice none 0 0] 30)).sets ⟨b1, 0, none⟩ [vm]).sets ⟨b2, 0, none⟩ [vl]))
  generalize ((((g3.put b1 (.cells #[Value.slice none 0 0] 30)).put b2 (.cells #[Value.slice none 0 0] 30)).sets ⟨b1, 0, none⟩ [vm]).sets ⟨b2, 0, none⟩ [vl]) = g4 at l4 r1 r2 ⊢
  have hle4 := hle2.trans (hl3.trans l4)
  have hu4 := SlAt.le blkC_mono (hl3.trans l4) hua
  refine h_call0 (s14 back hu4) ?_
  rintro _ g5 ⟨l5, ad, rfl, rd⟩
  refine ⟨[aheadV back ad], ⟨.inr ⟨_, _, _, rfl⟩, trivial⟩, rfl, ?_⟩
  exact K B g5 u vl vm ad ⟨b2, 0, none⟩ ⟨b1, 0, none⟩ S M hB hB1 (by omega) (hle4.trans l5) (SlAt.le blkC_mono l5 hu4) rd (r2.le l5) (r1.le l5) (MarkAt.le (l4.trans l5) kS) (MarkAt.le (l4.trans l5) kM) hM hS
end Go.Proofs.YtbbicdfipheaeaaDoor
