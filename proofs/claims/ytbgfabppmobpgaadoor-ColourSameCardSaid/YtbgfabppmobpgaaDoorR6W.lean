/-
  Moves given up; a vreg that may get none. Conditions: as each contract says.
-/
import Derived.Test.YtbgfabppmobpgaaDoorR6V
set_option linter.unusedVariables false
set_option linter.unusedSimpArgs false
namespace Go.Proofs.YtbgfabppmobpgaaDoor
open Go

section
variable {g h h' : H} {bw k N : Nat} {fv : Value} {firm : List Bool} {w : CW} {V : WV} {F : Nat → List Nat}
theorem store_var {h : H} {b : Nat} {x : Value} {e : TypeId} (y : Value) (hb : h b = some (.cells [x].toArray e (0, 0))) :
    Writable h (adr b) 1 ∧ (h.sets (adr b) [y]) b = some (.cells [y].toArray e (0, 0)) ∧ ∀ z, z ≠ b → (h.sets (adr b) [y]) z = h z := by
  obtain ⟨s1, s2⟩ := sets_block (b := b) (e := e) (f := (0, 0)) [y] h 0 [] [x] [] rfl rfl hb
  exact ⟨wr_block hb (by simp), s1, s2⟩
theorem read_var {h : H} {b : Nat} {x : Value} {e : TypeId} (hb : h b = some (.cells [x].toArray e (0, 0))) : Reads h (adr b) [x] := by
  have := rd_block (h := h) (b := b) (o := 0) (A := []) (M := [x]) (C := []) (e := e) hb rfl
  exact this
theorem WO.other (K : WO g h bw k fv firm w V F) {b : Nat} (hg : g b = none) (hF : ∀ i, b ∉ F i) (ho : ∀ z, z ≠ b → h' z = h z) : WO g h' bw k fv firm w V F := by
  have ag : ∀ i, Agree h h' (F i) := fun i z hz => ho z fun e => hF i (by rw [← e]; exact hz)
  have hbw : bw ≠ b := fun e => hF 1 (by rw [K.f1, e]; simp)
  exact ⟨⟨fun z o q => by rw [ho z fun e => by rw [e, hg] at q; cases q]; exact K.wf.le z o q, K.wf.fr, fun i z hz => by rw [ag i z hz]; exact K.wf.lv i z hz, K.wf.dis⟩, K.f1, by rw [ho bw hbw]; exact K.obj, K.frm, K.near.agree setF_good (ag 2), K.nnd, K.moves.agree (ag 3), K.st.agree (ag 4), setF_good.1 (ag 5) K.left, K.stack.agree (ag 6)⟩
theorem WO.inMoves (K : WO g h bw k fv firm w V F) {ms : List (Nat × Nat)} (hk : KeptH h h' (F 3)) (hr : RowF h' 41 2 V.moves (edC ms) (F 3)) : WO g h' bw k fv firm { w with moves := ms } V (upd F 3 (F 3)) := by
  obtain ⟨d1, d2, d3⟩ := K.inp (i := 3) (by decide) hk (fun b hb => .inl hb) hr.live
  exact ⟨d1, K.f1, d3.trans K.obj, K.frm, K.near.agree setF_good (d2 2 (by decide) (by decide)), K.nnd, hr, K.st.agree (d2 4 (by decide) (by decide)), setF_good.1 (d2 5 (by decide) (by decide)) K.left, K.stack.agree (d2 6 (by decide) (by decide))⟩
theorem del_freeze (K : WO g h bw k fv firm w V F) (C : CInv N w) (hz : Szs N w) {v bp bq : Nat} (hp : Reads g (adr bp) [pW bw]) (hq : Reads g (adr bq) [natV v]) :
    CallsA Tryd.prog 55 (fun _ => [V.moves, .func (.func 56) #[] #[.pointer (some (adr bp)), .pointer (some (adr bq))]]) [] h (Ret fun q h' => RowF h' 41 2 q (edC (w.moves.filter fun e => !w.at_ v e)) (F 3) ∧ KeptH h h' (F 3)) :=
  s55 (f := w.at_ v) K.moves hz.2 (.inr ⟨_, _, _, rfl⟩) fun h' ms hk hr hm => by
    have K' := K.inMoves hk hr
    have hl := hk.le K.wf.le (K.wf.fr 3)
    exact cv_freeze K' (C.drop hm) (hp.le hl) (hq.le hl) C.mv
theorem del_spill (K : WO g h bw k fv firm w V F) (C : CInv N w) (hz : Szs N w) {v bp bq : Nat} (hp : Reads g (adr bp) [pW bw]) (hq : Reads g (adr bq) [natV v]) :
    CallsA Tryd.prog 55 (fun _ => [V.moves, .func (.func 57) #[] #[.pointer (some (adr bp)), .pointer (some (adr bq))]]) [] h (Ret fun q h' => RowF h' 41 2 q (edC (w.moves.filter fun e => !w.at_ v e)) (F 3) ∧ KeptH h h' (F 3)) :=
  s55 (f := w.at_ v) K.moves hz.2 (.inr ⟨_, _, _, rfl⟩) fun h' ms hk hr hm => by
    have K' := K.inMoves hk hr
    have hl := hk.le K.wf.le (K.wf.fr 3)
    exact cv_spill K' (C.drop hm) (hp.le hl) (hq.le hl) C.mv
/-! ### Moves of a vreg, given up -/
theorem s35 (ht : Tab g) (K : WO g h bw k fv firm w V F) (C : CInv N w) (hz : Szs N w) :
    CallsA Tryd.prog 35 (fun _ => [pW bw]) [] h (Ret fun r h' => (∃ w', w.freeze k = some w' ∧ r = .bool true ∧ WOx g h' bw k fv firm w') ∨ w.freeze k = none ∧ r = .bool false ∧ WOx g h' bw k fv firm w) := by
  refine c35 (G := [pW bw]) ⟨⟨_, rfl⟩, trivial⟩ ?_
  intro bp hbp
  have hbpF : ∀ i, bp ∉ F i := fun i q => by have := K.wf.lv i bp q; rw [hbp] at this; cases this
  have l1 := H.le_put (o := .cells ([pW bw] : List Value).toArray 63 (0, 0)) hbp
  have r1 : Reads (h.put bp (.cells ([pW bw] : List Value).toArray 63 (0, 0))) (adr bp) [pW bw] := reads_one
  have o1 : (h.put bp (.cells ([pW bw] : List Value).toArray 63 (0, 0))) bp = some (.cells ([pW bw] : List Value).toArray 63 (0, 0)) := H.put_same
  show holds _ _ _ _ _ (h.put bp (.cells ([pW bw] : List Value).toArray 63 (0, 0)))
  generalize h.put bp (.cells ([pW bw] : List Value).toArray 63 (0, 0)) = h1 at l1 r1 o1
  show holds _ _ _ [pW bw, .pointer (some (adr bp))] [] h1
  have K1 := K.grow l1
  refine h_load [pW bw] ⟨⟨_, rfl⟩, trivial⟩ (fun _ => r1) ⟨fun _ => ⟨rfl, trivial⟩, h_load [V.left] ⟨SetF.fit1 K1.left, trivial⟩ (fun _ => K1.rd (j := 5) rfl) ?_⟩
  simp only [List.cons_append, List.nil_append]
  refine h_call0 (sAllS (Tab.le K1.wf.le ht) (setF_at K1.left)) ?_
  rintro vl h2 ⟨l2, hall⟩
  have hil := hall.ints.len
  rw [List.length_map] at hil
  have hA := hall.ints
  refine ⟨[vl], ⟨hA.fit, trivial⟩, rfl, ?_⟩
  simp only [List.cons_append, List.nil_append]
  have hlen := allS_le w.left
  refine h_range (n := (allS w.left).length) (fun i h' => h2.le h' ∧ ∀ j y, j < i → (allS w.left)[j]? = some y → decide (w.deg y < k) = false) hil (by omega) rfl (by omega) ⟨H.le_refl _, fun j y hj => absurd hj (Nat.not_lt_zero _)⟩ ?_ ?_
  · rintro i h3 J hi ⟨l3, hp⟩ hJ
    obtain ⟨x, hx, hxm, hxI⟩ := at_nat hi
    have hx2 := mem_allS.1 hxm
    have hxN := C.leftN x hx2.2
    refine h_load [natV x] ⟨⟨_, rfl⟩, trivial⟩ (fun _ => (hA.le l3).read hxI) ?_
    intro bq hbq
    have hl13 := l1.trans (l2.trans l3)
    have hbqF : ∀ i, bq ∉ F i := fun i q => by have := K.wf.lv i bq q; rw [H.le_none hl13 hbq] at this; cases this
    have o0 : (h3.put bq (.cells ([.int .i64 0] : List Value).toArray 3 (0, 0))) bq = some (.cells ([.int .i64 0] : List Value).toArray 3 (0, 0)) := H.put_same
    have l4 := H.le_put (o := .cells ([.int .i64 0] : List Value).toArray 3 (0, 0)) hbq
    show holds _ _ _ _ _ (h3.put bq (.cells ([.int .i64 0] : List Value).toArray 3 (0, 0)))
    generalize h3.put bq (.cells ([.int .i64 0] : List Value).toArray 3 (0, 0)) = h4 at o0 l4
    obtain ⟨u1, u2, u3⟩ := store_var (natV x) o0
    simp only [List.cons_append, List.nil_append]
    refine h_store (adr bq) [natV x] rfl rfl u1 ?_
    have l5 : h3.le (h4.sets (adr bq) [natV x]) := fun z o q => by
      rw [u3 z fun e => by rw [e, hbq] at q; cases q]; exact l4 z o q
    generalize h4.sets (adr bq) [natV x] = h5 at u2 l5
    have r2 := read_var u2
    have l35 := l2.trans (l3.trans l5)
    have K5 := K1.grow l35
    have r1' := r1.le l35
    refine h_load [pW bw] ⟨⟨_, rfl⟩, trivial⟩ (fun _ => r1') (h_load [natV x] ⟨⟨_, rfl⟩, trivial⟩ (fun _ => r2) (h_load [pW bw] ⟨⟨_, rfl⟩, trivial⟩ (fun _ => r1') ⟨fun _ => ⟨rfl, trivial⟩, h_load [natV k] ⟨⟨_, rfl⟩, trivial⟩ (fun _ => K5.rd (j := 0) rfl) ?_⟩))
    simp only [List.cons_append, List.nil_append]
    refine h_call0 (s46 K5 C hxN) ?_
    rintro _ h6 ⟨l6, rfl⟩
    have K6 := K5.grow l6
    have r1'' := r1'.le l6
    have r2'' := r2.le l6
    refine ⟨[natV (w.deg x)], ⟨⟨_, rfl⟩, trivial⟩, rfl, h_still (K6.rd (j := 0) rfl) (h_still r1'' (h_ite (fun hc => ?_) (fun hc => ?_)))⟩
    · replace hc : cmpOp .lss ((w.deg x : Nat) : Int) (k : Int) = true := hc
      rw [cmp_lss, decide_eq_true_eq] at hc
      obtain ⟨hb, Kb, gb1, gb2, gb3⟩ := K6.base
      have rb1 : Reads hb (adr bp) [pW bw] := read_var (gb3 bp _ ((l35.trans l6) _ _ o1) hbpF)
      have rb2 : Reads hb (adr bq) [natV x] := read_var (gb3 bq _ (l6 _ _ u2) hbqF)
      refine h_load [pW bw] ⟨⟨_, rfl⟩, trivial⟩ (fun _ => r1'') (h_load [pW bw] ⟨⟨_, rfl⟩, trivial⟩ (fun _ => r1'') ⟨fun _ => ⟨rfl, trivial⟩, h_load [V.moves] ⟨K6.mvAt.fit, trivial⟩ (fun _ => K6.rd (j := 3) rfl) ?_⟩)
      simp only [List.cons_append, List.nil_append]
      refine h_call0 (del_freeze Kb C hz rb1 rb2) ?_
      rintro q h7 ⟨m1, m2⟩
      have r1q := rb1.le (m2.le Kb.wf.le (Kb.wf.fr 3))
      obtain ⟨c1, c2⟩ := K6.setMoves (v' := q) m2 m1 fun b hb => .inl hb
      refine ⟨[q], ⟨m1.row0.fit, trivial⟩, rfl, h_still r1q (h_still r1q ⟨fun _ => ⟨rfl, trivial⟩, h_store (Addr.add ⟨bw, 0, none⟩ 3) [q] rfl rfl c1 ⟨rfl, .inl ⟨w.without x, ?_, rfl, c2⟩⟩⟩)⟩
      unfold CW.freeze
      rw [find_at hx (decide_eq_true (by omega)) hp]; rfl
    · replace hc : cmpOp .lss ((w.deg x : Nat) : Int) (k : Int) = false := hc
      rw [cmp_lss, decide_eq_false_iff_not] at hc
      exact hJ _ ⟨l3.trans (l5.trans l6), none_upto hp hx (decide_eq_false (by omega))⟩
  · rintro h3 J ⟨l3, hp⟩
    refine ⟨rfl, .inr ⟨?_, rfl, V, F, K1.grow (l2.trans l3)⟩⟩
    unfold CW.freeze
    rw [find_no hp]; rfl
end
end Go.Proofs.YtbgfabppmobpgaaDoor
