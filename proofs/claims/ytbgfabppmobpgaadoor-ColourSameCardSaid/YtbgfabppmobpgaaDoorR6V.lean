/-
  Edges taken out of a row: one of them, those for which something is true. Conditions: as each contract says.
-/
import Derived.Test.YtbgfabppmobpgaaDoorR6U
set_option linter.unusedVariables false
set_option linter.unusedSimpArgs false
namespace Go.Proofs.YtbgfabppmobpgaaDoor
open Go

theorem wr_block {h : H} {b o n : Nat} {l : List Value} {e : TypeId} (hb : h b = some (.cells l.toArray e (0, 0))) (hl : o + n ≤ l.length) : Writable h ⟨b, o, none⟩ n := fun i hi => by
  rw [add_lit]
  have : o + i < l.length := by omega
  refine ⟨?_, ?_⟩
  · simp [H.cell?, hb]; omega
  · simp [H.frozen?, hb]
theorem rd_block {h : H} {b o : Nat} {A M C : List Value} {e : TypeId} (hb : h b = some (.cells (A ++ M ++ C).toArray e (0, 0))) (ho : A.length = o) : Reads h ⟨b, o, none⟩ M := fun i v hi => by
  rw [add_lit]
  have hlt := (List.getElem?_eq_some_iff.1 hi).1
  have : (A ++ M ++ C)[o + i]? = some v := by
    rw [List.append_assoc, List.getElem?_append_right (by omega), ← ho, Nat.add_sub_cancel_left, List.getElem?_append_left hlt]; exact hi
  simpa [H.cell?, hb] using this
theorem sl_pre {b n c i sz : Nat} : sliceV (.slice (some ⟨b, 0, none⟩) n c) 0 i sz = .slice (some ⟨b, 0, none⟩) i c := by
  unfold sliceV
  simp only [Nat.zero_mul, Option.map_some, add_lit, Nat.add_zero, ite_self, Nat.sub_zero]
theorem sl_suf {b n c j n' sz : Nat} (hc : c ≠ j) : sliceV (.slice (some ⟨b, 0, none⟩) n c) j n' sz = .slice (some ⟨b, j * sz, none⟩) (n' - j) (c - j) := by
  unfold sliceV
  simp only [if_neg hc, Option.map_some, add_lit, Nat.zero_add]
theorem edC_app (a b : List (Nat × Nat)) : edC (a ++ b) = edC a ++ edC b := by unfold edC; simp
theorem edC_cons (e : Nat × Nat) (b : List (Nat × Nat)) : edC (e :: b) = [natV e.1, natV e.2] ++ edC b := by unfold edC; simp
theorem edC_one (E : List (Nat × Nat)) : ∀ v ∈ edC E, v.oneCell' = true := fun v hv => by
  unfold edC at hv
  obtain ⟨e, he, h⟩ := List.mem_flatMap.1 hv
  simp at h
  rcases h with rfl | rfl <;> rfl
theorem repZ_len2 (n : Nat) : (repZ [Value.int .i64 0, .int .i64 0] n).length = n * 2 := by simp [repZ]
theorem len_i64 {n : Nat} (hn : n ≤ 2000000) : cmpOp .geq (n : Int) 0 = true := ge0 n
theorem leN {n m : Nat} (h : n ≤ m) : cmpOp .leq (n : Int) (m : Int) = true := by rw [cmp_leq, decide_eq_true_eq]; omega
theorem s50 {h : H} {v : Value} {d r : List (Nat × Nat)} {m : Nat × Nat} {fp : List Nat} (k : RowF h 41 2 v (edC (d ++ m :: r)) fp) (hl : (d ++ m :: r).length ≤ 1000000) :
    CallsA Tryd.prog 50 (fun _ => [v, natV d.length, .int .i64 (intOp .add .i64 (d.length : Int) 1)]) [] h (Ret fun q h' => RowF h' 41 2 q (edC (d ++ r)) fp ∧ KeptH h h' fp) := by
  have hll := hl
  rw [List.length_append, List.length_cons] at hll
  rw [int_add_one (k := d.length) (n := 2000000) (by omega) (by omega)]
  rcases k with ⟨rfl, h2, rfl⟩ | ⟨b, n, c, rr, rfl, h1, h2, h3, h4, rfl⟩
  · rw [edC_app, edC_cons] at h2; simp at h2
  rw [edC_len, List.length_append, List.length_cons] at h2
  obtain rfl : n = d.length + (r.length + 1) := by omega
  have ea : edC (d ++ m :: r) = edC d ++ [natV m.1, natV m.2] ++ edC r := by rw [edC_app, edC_cons, List.append_assoc]
  rw [ea] at h1
  have hdl := edC_len d
  have hrl := edC_len r
  obtain ⟨i, hi⟩ : ∃ i, i = d.length := ⟨_, rfl⟩
  obtain ⟨n, hn⟩ : ∃ n, n = d.length + (r.length + 1) := ⟨_, rfl⟩
  rw [← hn, ← hi]
  rw [← hn] at h3 h4
  refine c50 (G := [.slice (some ⟨b, 0, none⟩) n c, natV i, natV (i + 1)]) ⟨⟨_, _, _, rfl, (fun e => by cases e), h4⟩, ⟨_, rfl⟩, ⟨_, rfl⟩, trivial⟩ ?_
  refine ⟨fun _ => ⟨ge0 n, leN h4, ge0 (i + 1), leN (m := n) (by omega), ge0 i, leN (by omega), trivial⟩, ?_⟩
  intro v3 hv3
  refine h_ite (fun hc => ?_) (fun hc => ?_)
  · replace hc : cmpOp .eql (i : Int) ((i + 1 : Nat) : Int) = true := hc
    rw [cmp_eql, decide_eq_true_eq] at hc
    omega
  clear hc
  refine ⟨fun _ => ⟨ge0 i, leN (m := c) (by omega), trivial⟩, ?_⟩
  intro v4 hv4
  have e4 : v4 = .slice (some ⟨b, 0, none⟩) i c := hv4.trans (sl_pre (n := n))
  refine ⟨fun _ => ⟨ge0 (i + 1), leN (m := n) (by omega), trivial⟩, ?_⟩
  intro v5 hv5
  have e5 : v5 = sliceV (.slice (some ⟨b, 0, none⟩) n c) (i + 1) n 2 := hv5
  subst e4
  clear hv4 hv5
  -- what is moved
  have hsrc : SlSrc h (edC r) r.length v5 := by
    rw [e5]
    by_cases hc : c = i + 1
    · have hr0 : r = [] := List.eq_nil_of_length_eq_zero (by omega)
      subst hr0
      simp only [sliceV, if_pos hc, SlSrc]
      exact ⟨by simp; omega, fun j u hj => by simp [edC] at hj⟩
    · rw [sl_suf hc]
      refine ⟨by omega, ?_⟩
      refine rd_block (A := edC d ++ [natV m.1, natV m.2]) (C := rr) h1 ?_
      rw [List.length_append, hdl]; simp; omega
  clear e5
  simp only [List.cons_append, List.nil_append]
  refine ⟨edC r, r.length, ⟨hrl, edC_one r, hsrc⟩, ?_⟩
  clear hsrc
  show AppSpec _ _ _ _ _ (.slice (some ⟨b, 0, none⟩) i c) _ _ _
  refine ⟨fun hc => ?_, fun hc => by omega⟩
  have et : (Option.getD (some (⟨b, 0, none⟩ : Addr)) default).add (i * 2) = ⟨b, i * 2, none⟩ := by
    show (⟨b, 0, none⟩ : Addr).add (i * 2) = _
    rw [add_lit, Nat.zero_add]
  rw [et]
  -- the block, cut otherwise
  obtain ⟨M, hM⟩ : ∃ M, M = ([natV m.1, natV m.2] ++ edC r).take (edC r).length := ⟨_, rfl⟩
  obtain ⟨D, hD⟩ : ∃ D, D = ([natV m.1, natV m.2] ++ edC r).drop (edC r).length := ⟨_, rfl⟩
  have hMl : M.length = (edC r).length := by rw [hM, List.length_take, List.length_append]; omega
  have hDl : D.length = 2 := by rw [hD, List.length_drop, List.length_append]; simp
  have hcut : edC d ++ [natV m.1, natV m.2] ++ edC r ++ rr = edC d ++ M ++ (D ++ rr) := by
    rw [hM, hD, List.append_assoc, List.append_assoc, List.append_assoc, ← List.append_assoc (List.take _ _), List.take_append_drop, List.append_assoc]
  rw [hcut] at h1
  obtain ⟨s1, s2⟩ := sets_block (b := b) (e := 41) (f := (0, 0)) (edC r) h (i * 2) (edC d) M (D ++ rr) (by rw [hdl]; omega) hMl h1
  refine ⟨wr_block h1 (by simp only [List.length_append]; omega), ?_⟩
  generalize h.sets (⟨b, i * 2, none⟩ : Addr) (edC r) = g1 at s1 s2
  have hin : i + r.length = n - 1 := by omega
  rw [hin]
  refine ⟨fun _ => ⟨ge0 n, leN (n := n) (m := c) (by omega), ge0 (n - 1), leN (n := n - 1) (m := n) (by omega), trivial⟩, ?_⟩
  intro v7 hv7
  have e7 : v7 = .slice (some ⟨b, (n - 1) * 2, none⟩) (n - (n - 1)) (c - (n - 1)) := hv7.trans (sl_suf (n := n - 1) (by show c ≠ n - 1; omega))
  subst e7
  clear hv7
  show ClrSpec g1 [.int .i64 0, .int .i64 0] (.slice (some ⟨b, (n - 1) * 2, none⟩) (n - (n - 1)) (c - (n - 1))) _
  have e1 : n - (n - 1) = 1 := by omega
  rw [e1]
  have s1' : g1 b = some (.cells ((edC d ++ edC r) ++ D ++ rr).toArray 41 (0, 0)) := by rw [s1]; simp only [List.append_assoc]
  have hz : (repZ [Value.int .i64 0, .int .i64 0] 1).length = 2 := repZ_len2 1
  obtain ⟨t1, t2⟩ := sets_block (b := b) (e := 41) (f := (0, 0)) (repZ [Value.int .i64 0, .int .i64 0] 1) g1 ((n - 1) * 2) (edC d ++ edC r) D rr (by rw [List.length_append, hdl, hrl]; omega) (by rw [hDl, hz]) s1'
  refine ⟨fun z hz => by simp at hz; subst hz; rfl, wr_block s1' (by rw [hz]; simp only [List.length_append]; omega), ?_⟩
  refine ⟨rfl, .inr ⟨b, n - 1, c, repZ [Value.int .i64 0, .int .i64 0] 1 ++ rr, rfl, ?_, ?_, ?_, by omega, rfl⟩, fun x hx hs => ?_⟩
  · rw [t1, edC_app]; simp only [List.append_assoc]
  · rw [edC_len, List.length_append]; omega
  · rw [List.length_append, hz, h3]; omega
  · rw [t2 x (by simpa using hx), s2 x (by simpa using hx)]
theorem first_take {E : List (Nat × Nat)} {f : Nat × Nat → Bool} {i : Nat} (hp : ∀ j y, j < i → E[j]? = some y → f y = false) : (E.take i).filter (fun e => !f e) = E.take i := by
  rw [List.filter_eq_self]
  intro x hx
  obtain ⟨j, hj, e⟩ := List.getElem_of_mem hx
  rw [List.length_take] at hj
  rw [List.getElem_take] at e
  rw [hp j x (by omega) (by rw [List.getElem?_eq_getElem (by omega), e])]; rfl
section
variable {h : H} {v fnv : Value} {E : List (Nat × Nat)} {f : Nat × Nat → Bool} {fp : List Nat}
theorem s55 (k : RowF h 41 2 v (edC E) fp) (hl : E.length ≤ 1000000) (ff : Fits .fn fnv)
    (hf : ∀ h' ms, KeptH h h' fp → RowF h' 41 2 v (edC ms) fp → (∀ m ∈ ms, m ∈ E) → ∀ e ∈ edI E, CallvSpec Tryd.prog h' fnv [.agg #[.int .i64 e.1, .int .i64 e.2]] fun r h'' => h'' = h' ∧ r = .bool (f (e.1.toNat, e.2.toNat))) :
    CallsA Tryd.prog 55 (fun _ => [v, fnv]) [] h (Ret fun q h' => RowF h' 41 2 q (edC (E.filter fun e => !f e)) fp ∧ KeptH h h' fp) := by
  have hvE := rowF_edges k
  have hvl := rowF_elen k
  refine c55 (G := [v, fnv]) ⟨hvE.fit, ff, trivial⟩ ?_
  refine h_call0 (s59 (f := fun e => f (e.1.toNat, e.2.toNat)) hvE (by rw [edI_len]; exact hl) ff (hf h E (KeptH.refl _ _) k fun m hm => hm)) ?_
  rintro _ h1 ⟨e1, n, rfl, hn⟩
  have e1' := e1.symm
  subst e1'
  refine ⟨[.int .i64 n], ⟨⟨_, rfl⟩, trivial⟩, rfl, h_ite (fun hc => ?_) (fun hc => ?_)⟩
  · replace hc : cmpOp .eql n (-1) = true := hc
    rw [cmp_eql, decide_eq_true_eq] at hc
    rcases hn with ⟨i, x, rfl, -⟩ | ⟨-, hp⟩
    · omega
    · refine ⟨rfl, ?_, KeptH.refl _ _⟩
      have : (E.filter fun e => !f e) = E := by
        have := first_take (E := E) (f := f) (i := E.length) fun j y hj hy => by
          have := hp j ((y.1 : Int), (y.2 : Int)) (by rw [edI_len]; exact hj) (by unfold edI; rw [List.getElem?_map, hy]; rfl)
          exact this
        rwa [List.take_length] at this
      rw [this]; exact k
  · replace hc : cmpOp .eql n (-1) = false := hc
    rw [cmp_eql, decide_eq_false_iff_not] at hc
    rcases Or.symm hn with ⟨rfl, -⟩ | ⟨i0, x0, rfl, hx0, hf0, hp⟩
    · exact absurd rfl hc
    clear hc
    have hp' : ∀ j y, j < i0 → E[j]? = some y → f y = false := fun j y hj hy => hp j ((y.1 : Int), (y.2 : Int)) hj (by unfold edI; rw [List.getElem?_map, hy]; rfl)
    unfold edI at hx0
    rw [List.getElem?_map, Option.map_eq_some_iff] at hx0
    obtain ⟨x, hx, rfl⟩ := hx0
    have hfx : f x = true := hf0
    have hi0 := (List.getElem?_eq_some_iff.1 hx).1
    simp only [List.cons_append, List.nil_append]
    refine h_loop (fun xs h' => ∃ (j : Nat) (junk : List (Nat × Nat)), xs = [natV ((E.take j).filter fun e => !f e).length, natV j] ∧ j ≤ E.length ∧ ((E.take j).filter fun e => !f e).length + junk.length = j ∧ junk ≠ [] ∧ (∀ m ∈ junk, m ∈ E) ∧ RowF h' 41 2 v (edC (((E.take j).filter fun e => !f e) ++ junk ++ E.drop j)) fp ∧ KeptH h h' fp)
      (fun xs h' => E.length - (vi (gv xs 1)).toNat) ?_ ?_
    · have ht : E.take (i0 + 1) = E.take i0 ++ [x] := by rw [List.take_add_one, hx]; rfl
      have hfl : (E.take (i0 + 1)).filter (fun e => !f e) = E.take i0 := by
        rw [ht, List.filter_append, first_take hp']
        simp [hfx]
      refine ⟨i0 + 1, [x], ?_, by omega, by rw [hfl, List.length_take]; simp; omega, by simp, fun m hm => by rw [List.mem_singleton] at hm; rw [hm]; exact List.mem_of_getElem? hx, ?_, KeptH.refl _ _⟩
      · rw [hfl, List.length_take, Nat.min_eq_left (by omega)]
        show [Value.int .i64 ((i0 : Nat) : Int), .int .i64 (intOp .add .i64 ((i0 : Nat) : Int) 1)] = _
        rw [int_add_one (n := 2000000) (by omega) (by omega)]
      · rw [hfl, ← ht, List.take_append_drop]; exact k
    · rintro xs h2 J - ⟨j, junk, rfl, hj, hlen, hjn, hjm, kr, kk⟩ hJ
      simp only [List.cons_append, List.nil_append]
      obtain ⟨X, hX⟩ : ∃ X, X = (E.take j).filter fun e => !f e := ⟨_, rfl⟩
      rw [← hX] at hlen kr
      rw [← hX]
      have hms : ∀ m ∈ X ++ junk ++ E.drop j, m ∈ E := fun m hm => by
        rcases List.mem_append.1 hm with q | q
        · rcases List.mem_append.1 q with q | q
          · rw [hX] at q; exact List.mem_of_mem_take (List.mem_filter.1 q).1
          · exact hjm m q
        · exact List.mem_of_mem_drop q
      have hvl2 := rowF_elen kr
      refine h_ite (fun hc => ?_) (fun hc => ?_)
      · replace hc : cmpOp .lss (j : Int) ((vlen v : Nat) : Int) = true := hc
        rw [hvl, cmp_lss, decide_eq_true_eq] at hc
        have hjE : j < E.length := by omega
        have hy : E[j]? = some E[j] := List.getElem?_eq_getElem hjE
        have hdr : E.drop j = E[j] :: E.drop (j + 1) := List.drop_eq_getElem_cons hjE
        have hym : E[j] ∈ E := List.getElem_mem _
        generalize E[j] = y at hy hdr hym
        have hat : (X ++ junk ++ E.drop j)[j]? = some y := by
          rw [List.getElem?_append_right (by rw [List.length_append]; omega), List.length_append, hlen, Nat.sub_self, hdr]; rfl
        have hrd := (rowF_edges kr).read (i := j) (e := ((y.1 : Int), (y.2 : Int))) (by unfold edI; rw [List.getElem?_map, hat]; rfl)
        have htk : E.take (j + 1) = E.take j ++ [y] := by rw [List.take_add_one, hy]; rfl
        refine ⟨fun _ => needIx (i := j) (v := v) rfl rfl hvl hjE, h_load [natV y.1, natV y.2] ⟨⟨_, rfl⟩, ⟨_, rfl⟩, trivial⟩ (fun _ => hrd) (h_callv (hf h2 _ kk kr hms ((y.1 : Int), (y.2 : Int)) (edI_mem.2 hym)) ?_)⟩
        rintro _ h3 ⟨e3, rfl⟩
        have e3' := e3.symm
        subst e3'
        refine ⟨[.bool (f y)], ⟨⟨_, rfl⟩, trivial⟩, rfl, h_ite (fun hd => ?_) (fun hd => ?_)⟩
        · replace hd : (!f y) = true := hd
          have hX1 : (E.take (j + 1)).filter (fun e => !f e) = X ++ [y] := by
            rw [htk, List.filter_append, ← hX]
            simp only [List.filter_cons, hd, if_true, List.filter_nil]
          obtain ⟨z, junk', rfl⟩ := List.exists_cons_of_ne_nil hjn
          have ec : edC (X ++ z :: junk' ++ E.drop j) = edC X ++ [natV z.1, natV z.2] ++ (edC junk' ++ edC (E.drop j)) := by
            rw [edC_app, edC_app, edC_cons]; simp only [List.append_assoc]
          rw [ec] at kr
          obtain ⟨s1, s2⟩ := set_rowF (N := [natV y.1, natV y.2]) kr rfl (by simp)
          have hXl := edC_len X
          have hwr : Writable h2 ((vaddr v).add (X.length * 2)) 2 := kr.row0.writable (by
            have hlen0 : (edC X ++ [natV z.1, natV z.2] ++ (edC junk' ++ edC (E.drop j))).length = vlen v * 2 := kr.row0.len
            obtain ⟨a', n', c', e', -, hle⟩ := kr.row0.fit
            rw [e'] at hlen0 ⊢
            simp only [vlen_sl, vcap_sl, List.length_append, hXl] at hlen0 ⊢
            simp at hlen0; omega)
          rw [hXl] at s1 s2
          have hjl : X.length < E.length := by simp at hlen; omega
          refine ⟨fun _ => needIx (i := X.length) (v := v) rfl rfl hvl hjl, h_store ((vaddr v).add (X.length * 2)) [natV y.1, natV y.2] rfl rfl hwr ?_⟩
          show J [.int .i64 (intOp .add .i64 ((X.length : Nat) : Int) 1), .int .i64 (intOp .add .i64 ((j : Nat) : Int) 1)] _
          rw [int_add_one (n := 2000000) (by omega) (by omega), int_add_one (n := 2000000) (by omega) (by omega)]
          refine hJ _ _ ⟨j + 1, junk' ++ [y], by rw [hX1, List.length_append]; rfl, by omega, by rw [hX1, List.length_append, List.length_append]; simp at hlen ⊢; omega, by simp, fun m hm => ?_, ?_, fun b hb hs => ?_⟩ ?_
          · rcases List.mem_append.1 hm with q | q
            · exact hjm m (List.mem_cons_of_mem _ q)
            · rw [List.mem_singleton] at q; rw [q]; exact hym
          · rw [hX1]
            have e9 : edC (X ++ [y] ++ (junk' ++ [y]) ++ E.drop (j + 1)) = edC X ++ [natV y.1, natV y.2] ++ (edC junk' ++ edC (E.drop j)) := by
              rw [hdr, edC_app, edC_app, edC_app, edC_app, edC_cons, edC_cons y (E.drop (j + 1))]
              simp only [edC, List.flatMap_nil, List.append_nil, List.append_assoc]
            rw [e9]; exact s1
          · rw [s2 b hb]; exact kk b hb hs
          · simp only [gv_zero, gv_succ, vi_int]; omega
        · replace hd : (!f y) = false := hd
          have hX1 : (E.take (j + 1)).filter (fun e => !f e) = X := by
            rw [htk, List.filter_append, ← hX]
            simp only [List.filter_cons, hd, List.filter_nil, List.append_nil, Bool.false_eq_true, if_false]
          show J [natV X.length, .int .i64 (intOp .add .i64 ((j : Nat) : Int) 1)] _
          rw [int_add_one (n := 2000000) (by omega) (by omega)]
          refine hJ _ _ ⟨j + 1, junk ++ [y], by rw [hX1], by omega, by rw [hX1, List.length_append]; simp; omega, by simp, fun m hm => ?_, ?_, kk⟩ ?_
          · rcases List.mem_append.1 hm with q | q
            · exact hjm m q
            · rw [List.mem_singleton] at q; rw [q]; exact hym
          · rw [hX1]
            have e9 : X ++ (junk ++ [y]) ++ E.drop (j + 1) = X ++ junk ++ E.drop j := by rw [hdr]; simp
            rw [e9]; exact kr
          · simp only [gv_zero, gv_succ, vi_int]; omega
      · replace hc : cmpOp .lss (j : Int) ((vlen v : Nat) : Int) = false := hc
        rw [hvl, cmp_lss, decide_eq_false_iff_not] at hc
        obtain rfl : j = E.length := by omega
        have hXE : X = E.filter fun e => !f e := by rw [hX, List.take_length]
        rw [List.drop_length, List.append_nil] at kr
        rw [← hXE]
        clear hX hms hvl2
        have hjl : 0 < junk.length := List.length_pos_iff.2 hjn
        rcases kr with ⟨-, q, -⟩ | ⟨b, n, c, rr, rfl, q1, q2, q3, q4, rfl⟩
        · exfalso
          have := congrArg List.length q
          rw [edC_len, List.length_append] at this
          simp at this; omega
        rw [edC_len, List.length_append] at q2
        simp only [vlen_sl] at hvl
        have hnE : n = E.length := hvl
        rw [edC_app] at q1
        have hXl := edC_len X
        have hJl := edC_len junk
        refine ⟨fun _ => ⟨ge0 X.length, leN (m := n) (by omega), trivial⟩, ?_⟩
        intro v5 hv5
        have e5 : v5 = .slice (some ⟨b, X.length * 2, none⟩) (n - X.length) (c - X.length) := hv5.trans (sl_suf (n := n) (by show c ≠ X.length; omega))
        subst e5
        clear hv5
        show ClrSpec h2 [.int .i64 0, .int .i64 0] (.slice (some ⟨b, X.length * 2, none⟩) (n - X.length) (c - X.length)) _
        have hz := repZ_len2 (n - X.length)
        obtain ⟨t1, t2⟩ := sets_block (b := b) (e := 41) (f := (0, 0)) (repZ [Value.int .i64 0, .int .i64 0] (n - X.length)) h2 (X.length * 2) (edC X) (edC junk) rr hXl (by rw [hJl, hz]; omega) q1
        refine ⟨fun z hz => by simp at hz; subst hz; rfl, wr_block q1 (by rw [hz]; simp only [List.length_append]; omega), ?_⟩
        refine ⟨fun _ => ⟨ge0 X.length, leN (m := c) (by omega), trivial⟩, ?_⟩
        intro v6 hv6
        have e6 : v6 = .slice (some ⟨b, 0, none⟩) X.length c := hv6.trans (sl_pre (n := n))
        subst e6
        refine ⟨rfl, .inr ⟨b, X.length, c, repZ [Value.int .i64 0, .int .i64 0] (n - X.length) ++ rr, rfl, ?_, hXl, ?_, by omega, rfl⟩, fun x hx hs => ?_⟩
        · rw [t1]; simp only [List.append_assoc]
        · rw [List.length_append, hz, q3, ← Nat.add_mul]; congr 1; omega
        · rw [t2 x (by simpa using hx)]; exact kk x hx hs
end
end Go.Proofs.YtbgfabppmobpgaaDoor
