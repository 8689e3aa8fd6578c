/-
  What is left of a graph, as an object: its parts change; who stands for whom, how many are near, moves, a vreg that is done with. Conditions: as each contract says.
-/
import Derived.Test.YtbgfabppmobpgaaDoorR6N
set_option linter.unusedVariables false
set_option linter.unusedSimpArgs false
namespace Go.Proofs.YtbgfabppmobpgaaDoor
open Go

section
variable {g h h' : H} {bw k N : Nat} {fv : Value} {firm : List Bool} {w : CW} {V : WV} {F : Nat → List Nat}
abbrev pW (bw : Nat) : Value := .pointer (some ⟨bw, 0, none⟩)
/-- A part changes where it lies. -/
theorem WO.inp (K : WO g h bw k fv firm w V F) {i : Nat} {f' : List Nat} (hi : i ≠ 1) (hk : KeptH h h' (F i)) (hf : ∀ b ∈ f', b ∈ F i ∨ h b = none) (hl : Live h' f') : WF g h' (upd F i f') ∧ (∀ j, j ≠ i → j ≠ 1 → Agree h h' (F j)) ∧ h' bw = h bw := by
  have hb : h' bw = h bw := hk bw (fun q => K.bw_ne hi q rfl) (by rw [K.obj]; rfl)
  obtain ⟨h1, h2⟩ := K.chg hi (hk.mono fun b q => List.mem_cons_of_mem _ q) hf hl (by rw [hb, K.obj]; rfl)
  exact ⟨h1, h2, hb⟩
/-- A part is another, and the object's cell is stored to. -/
theorem WO.via (K : WO g h bw k fv firm w V F) {i j : Nat} {h1 : H} {f' : List Nat} (hi : i ≠ 1) (hj : j < 7) (x : Value) (hk : KeptH h h1 (F i)) (hf : ∀ b ∈ f', b ∈ F i ∨ h b = none) (hl : Live h1 f') :
    Writable h1 (Addr.add ⟨bw, 0, none⟩ j) 1 ∧ WF g (h1.sets (Addr.add ⟨bw, 0, none⟩ j) [x]) (upd F i f') ∧ (∀ j', j' ≠ i → j' ≠ 1 → Agree h (h1.sets (Addr.add ⟨bw, 0, none⟩ j) [x]) (F j')) ∧ (h1.sets (Addr.add ⟨bw, 0, none⟩ j) [x]) bw = some (.cells ((V.cells k fv).set j x).toArray 69 (0, 0)) ∧ Agree h1 (h1.sets (Addr.add ⟨bw, 0, none⟩ j) [x]) f' := by
  have hb : h1 bw = h bw := hk bw (fun q => K.bw_ne hi q rfl) (by rw [K.obj]; rfl)
  obtain ⟨c1, c2, c3⟩ := WO.cell (hb.trans K.obj) hj x
  have hne : ∀ b ∈ f', b ≠ bw := fun b q e => by
    rcases hf b q with r | r
    · exact K.bw_ne hi r e
    · rw [e, K.obj] at r; cases r
  have ag : Agree h1 (h1.sets (Addr.add ⟨bw, 0, none⟩ j) [x]) f' := fun b q => c3 b (hne b q)
  obtain ⟨h2, h3⟩ := K.chg (h' := h1.sets (Addr.add ⟨bw, 0, none⟩ j) [x]) (f' := f') hi (fun b q1 q2 => by
    rw [List.mem_cons, not_or] at q1
    rw [c3 b q1.1, hk b q1.2 q2]) hf (fun b q => by rw [ag b q]; exact hl b q) (by rw [c2]; rfl)
  exact ⟨c1, h2, h3, c2, ag⟩
theorem WO.setMoves (K : WO g h bw k fv firm w V F) {h1 : H} {v' : Value} {ms : List (Nat × Nat)} {f' : List Nat} (hk : KeptH h h1 (F 3)) (hr : RowF h1 41 2 v' (edC ms) f') (hf : ∀ b ∈ f', b ∈ F 3 ∨ h b = none) :
    Writable h1 (Addr.add ⟨bw, 0, none⟩ 3) 1 ∧ WOx g (h1.sets (Addr.add ⟨bw, 0, none⟩ 3) [v']) bw k fv firm { w with moves := ms } := by
  obtain ⟨c1, c2, c3, c4, c5⟩ := K.via (j := 3) (i := 3) (by decide) (by decide) v' hk hf hr.live
  exact ⟨c1, { V with moves := v' }, upd F 3 f', ⟨c2, K.f1, c4, K.frm, K.near.agree setF_good (c3 2 (by decide) (by decide)), K.nnd, hr.agree c5, K.st.agree (c3 4 (by decide) (by decide)), setF_good.1 (c3 5 (by decide) (by decide)) K.left, K.stack.agree (c3 6 (by decide) (by decide))⟩⟩
theorem WO.setStack (K : WO g h bw k fv firm w V F) {h1 : H} {v' : Value} {s' : List Nat} {f' : List Nat} (hk : KeptH h h1 (F 6)) (hr : RowF h1 3 1 v' (s'.map natV) f') (hf : ∀ b ∈ f', b ∈ F 6 ∨ h b = none) :
    Writable h1 (Addr.add ⟨bw, 0, none⟩ 6) 1 ∧ WOx g (h1.sets (Addr.add ⟨bw, 0, none⟩ 6) [v']) bw k fv firm { w with stack := s' } := by
  obtain ⟨c1, c2, c3, c4, c5⟩ := K.via (j := 6) (i := 6) (by decide) (by decide) v' hk hf hr.live
  exact ⟨c1, { V with stack := v' }, upd F 6 f', ⟨c2, K.f1, c4, K.frm, K.near.agree setF_good (c3 2 (by decide) (by decide)), K.nnd, K.moves.agree (c3 3 (by decide) (by decide)), K.st.agree (c3 4 (by decide) (by decide)), setF_good.1 (c3 5 (by decide) (by decide)) K.left, hr.agree c5⟩⟩
theorem WO.pushSt (K : WO g h bw k fv firm w V F) {h1 : H} {v' : Value} {s' : List Nat} {f' : List Nat} (hk : KeptH h h1 (F 4)) (hr : RowF h1 3 1 v' (s'.map natV) f') (hf : ∀ b ∈ f', b ∈ F 4 ∨ h b = none) :
    Writable h1 (Addr.add ⟨bw, 0, none⟩ 4) 1 ∧ WOx g (h1.sets (Addr.add ⟨bw, 0, none⟩ 4) [v']) bw k fv firm { w with st := s' } := by
  obtain ⟨c1, c2, c3, c4, c5⟩ := K.via (j := 4) (i := 4) (by decide) (by decide) v' hk hf hr.live
  exact ⟨c1, { V with st := v' }, upd F 4 f', ⟨c2, K.f1, c4, K.frm, K.near.agree setF_good (c3 2 (by decide) (by decide)), K.nnd, K.moves.agree (c3 3 (by decide) (by decide)), hr.agree c5, setF_good.1 (c3 5 (by decide) (by decide)) K.left, K.stack.agree (c3 6 (by decide) (by decide))⟩⟩
theorem WO.setSt (K : WO g h bw k fv firm w V F) {b a : Nat} (hb : b < w.st.length) :
    Writable h ((vaddr V.st).add b) 1 ∧ WO g (h.sets ((vaddr V.st).add b) [natV a]) bw k fv firm { w with st := w.st.set b a } V (upd F 4 (F 4)) := by
  obtain ⟨c1, c2, c3⟩ := rowF_set (x := natV a) (i := b) K.st (by rw [List.length_map]; exact hb)
  obtain ⟨d1, d2, d3⟩ := K.inp (i := 4) (by decide) c3 (fun b q => .inl q) c2.live
  refine ⟨c1, ⟨d1, K.f1, d3.trans K.obj, K.frm, K.near.agree setF_good (d2 2 (by decide) (by decide)), K.nnd, K.moves.agree (d2 3 (by decide) (by decide)), ?_, setF_good.1 (d2 5 (by decide) (by decide)) K.left, K.stack.agree (d2 6 (by decide) (by decide))⟩⟩
  rw [← List.map_set] at c2
  exact c2
theorem WO.setNear (K : WO g h bw k fv firm w V F) {h1 : H} {L : List SP} {f' : List Nat} (hk : KeptH h h1 (F 2)) (hr : SlF 67 1 SetF h1 V.near L f') (hn : f'.Nodup) (hf : ∀ b ∈ f', b ∈ F 2 ∨ h b = none) :
    WO g h1 bw k fv firm { w with near := L } V (upd F 2 f') := by
  obtain ⟨d1, d2, d3⟩ := K.inp (i := 2) (by decide) hk hf (hr.live setF_good)
  exact ⟨d1, K.f1, d3.trans K.obj, K.frm, hr, hn, K.moves.agree (d2 3 (by decide) (by decide)), K.st.agree (d2 4 (by decide) (by decide)), setF_good.1 (d2 5 (by decide) (by decide)) K.left, K.stack.agree (d2 6 (by decide) (by decide))⟩
/-- The set of those that are left changes, lent out. -/
theorem WO.setLeft (K : WO g h bw k fv firm w V F) {h1 : H} {v' : Value} {p : SP} {f' : List Nat} (hk : KeptH (H.cut h [bw]) h1 (F 5)) (hr : SetF h1 [v'] p f') (hf : ∀ b ∈ f', b ∈ F 5 ∨ (H.cut h [bw]) b = none) (hn : h1 bw = none) :
    WOx g (h1.put bw (.cells ([natV k, fv, V.near, V.moves, V.st] ++ [v'] ++ [V.stack]).toArray 69 (0, 0))) bw k fv firm { w with left := p } := by
  have hne : ∀ b ∈ f', b ≠ bw := fun b q e => by
    have := setF_good.2 hr b q
    rw [e, hn] at this; cases this
  have hc : ∀ {b}, b ≠ bw → (H.cut h [bw]) b = h b := fun {b} q => by unfold H.cut; rw [if_neg (by simpa using q)]
  obtain ⟨h2, e2⟩ : ∃ h2, h2 = h1.put bw (.cells ([natV k, fv, V.near, V.moves, V.st] ++ [v'] ++ [V.stack]).toArray 69 (0, 0)) := ⟨_, rfl⟩
  have hob : h2 bw = some (.cells ([natV k, fv, V.near, V.moves, V.st] ++ [v'] ++ [V.stack]).toArray 69 (0, 0)) := by rw [e2]; exact H.put_same
  have hot : ∀ {b}, b ≠ bw → h2 b = h1 b := fun {b} q => by rw [e2]; exact H.put_other q
  have ag : Agree h1 h2 f' := fun b q => hot (hne b q)
  rw [← e2]
  obtain ⟨d1, d2⟩ := K.chg (h' := h2) (i := 5) (f' := f') (by decide) (fun b q1 q2 => by
    rw [List.mem_cons, not_or] at q1
    rw [hot q1.1, hk b q1.2 (by rw [hc q1.1]; exact q2), hc q1.1]) (fun b q => by
    rcases hf b q with r | r
    · exact .inl r
    · rw [hc (hne b q)] at r; exact .inr r) (fun b q => by rw [ag b q]; exact setF_good.2 hr b q) (by rw [hob]; rfl)
  exact ⟨{ V with left := v' }, upd F 5 f', ⟨d1, K.f1, hob, K.frm, K.near.agree setF_good (d2 2 (by decide) (by decide)), K.nnd, K.moves.agree (d2 3 (by decide) (by decide)), K.st.agree (d2 4 (by decide) (by decide)), setF_good.1 ag hr, K.stack.agree (d2 6 (by decide) (by decide))⟩⟩

/-! ### Readings -/
theorem WO.stAt (K : WO g h bw k fv firm w V F) : IntsAt h V.st (w.st.map Int.ofNat) := ints_of_nats K.st
theorem WO.st_read (K : WO g h bw k fv firm w V F) {v : Nat} (hv : v < w.st.length) : Reads h ((vaddr V.st).add (v * 1)) [natV (w.st.getD v v)] := by
  have := K.stAt.read (i := v) (x := ((w.st.getD v v : Nat) : Int)) (by rw [List.getElem?_map, List.getD_eq_getElem?_getD, List.getElem?_eq_getElem hv]; rfl)
  exact this
theorem WO.st_len (K : WO g h bw k fv firm w V F) : vlen V.st = w.st.length := by have := K.stAt.len; rw [List.length_map] at this; exact this
theorem WO.near_at (K : WO g h bw k fv firm w V F) : NearAt h V.near w.near := K.near.at (by decide) setF_at
theorem WO.nr_get (K : WO g h bw k fv firm w V F) {v : Nat} (hv : v < w.near.length) : w.near[v]? = some (w.nr v) := by
  unfold CW.nr nrL
  rw [List.getD_eq_getElem?_getD, List.getElem?_eq_getElem hv]; rfl
theorem WO.fitS (K : WO g h bw k fv firm w V F) : Fits .sl V.st := K.st.row0.fit
theorem needIx' {G : List Value} {v : Value} {q q' n i : Nat} (e1 : gv G q = natV i) (e2 : gv G q' = v) (e3 : vlen v = n) (hi : i < n) : needs G [(.cmp .geq (.var q) (.lit 0)), (.cmp .lss (.var q) (.len q'))] := needIx e1 e2 e3 hi

/-! ### Who stands for a vreg -/
theorem s49 (K : WO g h bw k fv firm w V F) (C : CInv N w) {v : Nat} (hv : v < N) :
    CallsA Tryd.prog 49 (fun _ => [pW bw, natV v]) [] h (Ret fun r h' => h' = h ∧ r = natV (w.of v)) := by
  obtain ⟨r, hr, -⟩ := C.rank
  refine c49 (G := [pW bw, natV v]) ⟨⟨_, rfl⟩, ⟨_, rfl⟩, trivial⟩ ?_
  refine h_loop (fun xs h' => ∃ u : Nat, xs = [natV u] ∧ h' = h ∧ u < N ∧ w.of u = w.of v) (fun xs h' => r (vi (gv xs 0)).toNat) ⟨v, rfl, rfl, hv, rfl⟩ ?_
  rintro xs h1 J - ⟨u, rfl, e, hu, ho⟩ hJ
  have e' := e.symm
  subst e'
  simp only [List.cons_append, List.nil_append]
  have hl := K.st_len
  have hul : u < w.st.length := by rw [hr.len]; exact hu
  refine h_load [V.st] ⟨K.fitS, trivial⟩ (fun _ => K.rd (j := 4) rfl) ⟨fun _ => needIx (i := u) (v := V.st) rfl rfl hl hul, h_load [natV (w.st.getD u u)] ⟨⟨_, rfl⟩, trivial⟩ (fun _ => K.st_read hul) (h_ite (fun hc => ?_) (fun hc => ?_))⟩
  · replace hc : cmpOp .neq ((w.st.getD u u : Nat) : Int) (u : Int) = true := hc
    rw [cmp_neq, decide_eq_true_eq] at hc
    have hne : w.st.getD u u ≠ u := fun q => hc (by rw [q])
    refine h_load [V.st] ⟨K.fitS, trivial⟩ (fun _ => K.rd (j := 4) rfl) ⟨fun _ => needIx (i := u) (v := V.st) rfl rfl hl hul, h_load [natV (w.st.getD u u)] ⟨⟨_, rfl⟩, trivial⟩ (fun _ => K.st_read hul) ?_⟩
    exact hJ [natV (w.st.getD u u)] _ ⟨_, rfl, rfl, hr.lt u hu, (hr.of_step hu).trans ho⟩ (hr.dec u hu hne)
  · replace hc : cmpOp .neq ((w.st.getD u u : Nat) : Int) (u : Int) = false := hc
    rw [cmp_neq, decide_eq_false_iff_not, Classical.not_not] at hc
    have hs : w.st.getD u u = u := by omega
    refine ⟨rfl, rfl, ?_⟩
    rw [← ho, CW.of_self hs]; rfl

/-! ### How many are near -/
theorem s46 (K : WO g h bw k fv firm w V F) (C : CInv N w) {v : Nat} (hv : v < N) :
    CallsA Tryd.prog 46 (fun _ => [pW bw, natV v]) [] h (Ret fun r h' => h.le h' ∧ r = natV (w.deg v)) := by
  refine c46 (G := [pW bw, natV v]) ⟨⟨_, rfl⟩, ⟨_, rfl⟩, trivial⟩ ?_
  have hvn : v < w.near.length := by rw [C.ln]; exact hv
  have hnl := K.near_at.len
  obtain ⟨c, f, hs, rd, hfs⟩ := K.near.get1 (K.nr_get hvn)
  obtain ⟨c', ws, ec, hs1, hs2⟩ := hs
  obtain rfl : c = c' := by simpa using ec
  have hwd := rowF_words hs1.1
  refine h_load [V.near] ⟨K.near_at.fit, trivial⟩ (fun _ => K.rd (j := 2) rfl) ⟨fun _ => needIx (i := v) (v := V.near) rfl rfl hnl hvn, h_load [c] ⟨hwd.fit, trivial⟩ (fun _ => rd) ?_⟩
  simp only [List.cons_append, List.nil_append]
  refine h_call0 (s51 hwd hs1.2.1 hs1.2.2) ?_
  rintro _ h1 ⟨hk1, v1, f1, rfl, hv1, hf1⟩
  refine ⟨[v1], ⟨hv1.fit, trivial⟩, rfl, ?_⟩
  simp only [List.cons_append, List.nil_append]
  have K1 := K.grow hk1.le_nil
  obtain ⟨o, wo, eo, ho1, ho2⟩ := K1.left
  obtain rfl : V.left = o := by simpa using eo
  have hwo := rowF_words ho1.1
  refine h_load [V.left] ⟨hwo.fit, trivial⟩ (fun _ => K1.rd (j := 5) rfl) ?_
  simp only [List.cons_append, List.nil_append]
  have hdis : ∀ b ∈ F 5, b ∉ f1 := fun b hb hb' => by
    have := K.wf.lv 5 b hb
    rw [hf1 b hb'] at this; cases this
  refine h_call1 (s53k hv1 hwo ho1.2.1 ho1.2.2 fun h2 hk2 => rowF_words (ho1.agree (hk2.agree ho1.live hdis)).1) ?_
  rintro _ c2 h2 ⟨rfl, rfl, hs2', hk2⟩
  refine ⟨⟨hs2'.fit, trivial⟩, [], trivial, rfl, ?_⟩
  simp only [List.cons_append, List.nil_append]
  have hl2 : h.le h2 := (KeptH.trans_nil hk1 hk2 hf1).le_nil
  have hw2 := rowF_words hs2'.1
  refine h_call0 (s61 hw2 hs2'.2.1 hs2'.2.2) ?_
  rintro _ h3 ⟨e3, rfl⟩
  have e3' := e3.symm
  subst e3'
  refine ⟨[.int .i64 ((allW (meetW ws wo)).length : Int)], ⟨⟨_, rfl⟩, trivial⟩, rfl, rfl, hl2, ?_⟩
  rw [allW_cnt hs2'.2.2, hasW_meet, hs2, ho2]
  rfl
end
end Go.Proofs.YtbgfabppmobpgaaDoor
