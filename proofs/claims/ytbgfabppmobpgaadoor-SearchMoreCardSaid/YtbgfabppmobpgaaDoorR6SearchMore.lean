/-
  The law SearchMore answers true. Conditions: none.
-/
import Derived.Test.YtbgfabppmobpgaaDoorR6L
import Derived.Test.YtbgfabppmobpgaaDoorR6Tl
import Derived.Test.YtbgfabppmobpgaaDoorR6Lay
set_option linter.unusedVariables false
set_option linter.unusedSimpArgs false
namespace Go.Proofs.YtbgfabppmobpgaaDoor
open Go Go.ChangeShapes Go.WideShapes Go.ChangeAt Go.RowKit

theorem s5 {h : H} {n k a : Int} {ev wv : Value} {e w : List Int} (ht : Tab h) (hn : 0 ≤ n) (he : BytesAt h ev e) (hk : 0 ≤ k) (hw : U16At h wv w) (ha : 0 ≤ a ∧ a ≤ 255) :
    CallsA Tryd.prog 5 (fun _ => [.int .u8 n, ev, .int .u8 k, wv, .int .u8 a]) [] h (Ret fun r h' => h.le h' ∧ r = .bool true) := by
  refine c5 (G := [.int .u8 n, ev, .int .u8 k, wv, .int .u8 a]) ⟨⟨_, rfl⟩, he.fit, ⟨_, rfl⟩, hw.fit, ⟨_, rfl⟩, trivial⟩ ?_
  refine h_call0 (s11 ht) ?_
  rintro _ h1 ⟨l1, rfl⟩
  refine ⟨[.bool true], ⟨⟨_, rfl⟩, trivial⟩, rfl, iteF rfl ?_⟩
  obtain ⟨N, hN⟩ : ∃ N : Nat, (N : Int) = n % 11 := ⟨(n % 11).toNat, by omega⟩
  have hN8 : N < 11 := by omega
  have h13 : ((n % 11) % 13).toNat = N := by omega
  have hMade := s12 (h := h1) (n := n % 11) (ev := ev) (mv := .slice none 0 0) (e := e) (m := []) (by omega) (SlAt.le byteC_mono l1 he) SlAt.nil
  rw [h13] at hMade
  have e1 : intOp .rem .u8 n 11 = n % 11 := rem_u8r hn
  have e3 : intOp .add .i64 1 (IntKind.i64.wrap (intOp .rem .u8 k 6)) = 1 + k % 6 := by rw [rem_u8 hk (by omega) (by omega), add_small (by omega) (by omega)]
  have e4 : intOp .add .i64 (intOp .add .i64 1 (IntKind.i64.wrap (intOp .rem .u8 k 6))) 1 = 2 + k % 6 := by rw [e3, add_small (by omega) (by omega)]; omega
  refine h_call0 (Q := fun r h' => ∃ u v f f', r = .agg #[.int .i64 (N : Int), u, v] ∧ Two h1 h' u v (madeE N (eB e)) (madeE N (mB e [])) f f') ?_ ?_
  · show CallsA _ _ (fun _ => [.int .u8 (intOp .rem .u8 n 11), ev, .slice none 0 0]) [] _ _
    rw [e1]; exact hMade
  rintro _ h2 ⟨u, v, f, f', rfl, T⟩
  have l2 := l1.trans T.le
  refine ⟨[.int .i64 (N : Int), u, v], ⟨⟨_, rfl⟩, T.e.row0.fit, T.m.row0.fit, trivial⟩, rfl, ?_⟩
  have hlen : ∀ p, (madeE N p).length ≤ 10000 := fun p => by
    have := (selP_sub p (pairsTo N N)).length_le
    have h2 := pairsTo_len N N
    have : N * N ≤ 11 * 11 := Nat.mul_le_mul (by omega) (by omega)
    unfold madeE; omega
  have K := T.gr (by have := hlen (eB e); omega) (by have := hlen (mB e []); omega) (N : Int)
  have hg : (⟨(N : Int), edI (madeE N (eB e)), edI (madeE N (mB e []))⟩ : Gr).ok = true := made_graph (by omega) fun j hj => by unfold mB; rw [hj]; rfl
  have hL := hlen (eB e)
  have hM0 : ∀ x ∈ edI (madeE N (mB e [])), False := fun x hx => by
    unfold edI at hx
    obtain ⟨y, hy, _⟩ := List.mem_map.1 hx
    obtain ⟨j, _, hj⟩ := selP_at hy
    unfold mB at hj
    simp at hj
  generalize hE0 : madeE N (eB e) = E0 at K hg hL
  generalize hMM : edI (madeE N (mB e [])) = M at K hg hM0
  clear hMM T
  have hg5 : rightE (N : Int) M = true := by have := (Gr.ok_parts hg).2.2.2.1; exact this
  refine h_call0 (s13 (SlAt.le u16C_mono l2 hw) (by omega)) ?_
  rintro cv h3 ⟨l3, cost, hcl, hcb, hcv⟩
  have hci := hcv.ints
  refine ⟨[cv], ⟨hci.fit, trivial⟩, rfl, ?_⟩
  have hcr : ∀ u, u < cost.length → 1 ≤ costF cost u ∧ costF cost u ≤ 1000 := fun u hu => hcb _ (costF_mem hu)
  have hc0 : ∀ u, u < N → 0 ≤ costF cost u := fun u hu => by have := hcr u (by omega); omega
  have best : ∀ {h4 : H} {q : Value} {D : EdgeL} {r : Int}, h3.le h4 → GrAt h4 q v ⟨(N : Int), D, M⟩ → (⟨(N : Int), D, M⟩ : Gr).ok = true → 1 ≤ r → r ≤ 8 →
      CallsA Tryd.prog 14 (fun _ => [.agg #[.int .i64 (N : Int), q, v], .int .i64 r, cv]) [] h4 (Ret fun r' h' => h4.le h' ∧ ∃ bv s, r' = .tuple #[bv, .int .i64 s, .int .i64 0] ∧ Fits .sl bv ∧ LeastIs D r (costF cost) N s) := fun {h4 q D r} l4 K4 hg4 hr1 hr8 => by
    refine (s14 (g := ⟨(N : Int), D, M⟩) (k := r) (ht.le (l2.trans (l3.trans l4))) K4 (hci.le l4) (by omega)).mono ?_
    rintro r' cs h' ⟨hcs, l5, hq⟩
    have hE : bestE ⟨(N : Int), D, M⟩ r cost = 0 := bestE_of hg4 (by rw [hcl]) hr1 hr8 (by show (N : Int) ≤ 14; omega) hcr
    rcases hq with ⟨q, -⟩ | ⟨-, bv, l, s, rfl, hbv, R⟩
    · exact absurd hE q
    · exact ⟨hcs, l5, bv, s, rfl, hbv.fit, R.least⟩
  refine h_call0 (Q := fun r' h' => h3.le h' ∧ ∃ bv s, r' = .tuple #[bv, .int .i64 s, .int .i64 0] ∧ Fits .sl bv ∧ LeastIs (edI E0) (1 + k % 6) (costF cost) N s) ?_ ?_
  · show CallsA _ _ (fun _ => [.agg #[.int .i64 (N : Int), u, v], .int .i64 (intOp .add .i64 1 (IntKind.i64.wrap (intOp .rem .u8 k 6))), cv]) [] _ _
    rw [e3]; exact best (H.le_refl _) (K.le l3) hg (by omega) (by omega)
  rintro _ h4 ⟨l4, b1, s1, rfl, fb1, L1⟩
  refine ⟨[b1, .int .i64 s1, .int .i64 0], ⟨fb1, ⟨_, rfl⟩, ⟨_, rfl⟩, trivial⟩, rfl, ?_⟩
  refine h_call0 (Q := fun r' h' => h4.le h' ∧ ∃ bv s, r' = .tuple #[bv, .int .i64 s, .int .i64 0] ∧ Fits .sl bv ∧ LeastIs (edI E0) (2 + k % 6) (costF cost) N s) ?_ ?_
  · show CallsA _ _ (fun _ => [.agg #[.int .i64 (N : Int), u, v], .int .i64 (intOp .add .i64 (intOp .add .i64 1 (IntKind.i64.wrap (intOp .rem .u8 k 6))) 1), cv]) [] _ _
    rw [e4]; exact best l4 (K.le (l3.trans l4)) hg (by omega) (by omega)
  rintro _ h5 ⟨l5, b2, s2, rfl, fb2, L2⟩
  refine ⟨[b2, .int .i64 s2, .int .i64 0], ⟨fb2, ⟨_, rfl⟩, ⟨_, rfl⟩, trivial⟩, rfl, ?_⟩
  simp only [List.cons_append, List.nil_append]
  have l35 := l3.trans (l4.trans l5)
  have hul := K.e.len
  have hul' : vlen u = E0.length := by rw [hul]; unfold edI; simp
  have q1 : s2 ≤ s1 := L1.mono L2 (by omega) fun x h => h
  have q2 : 0 ≤ s1 := L1.nonneg hc0
  have fin : ∀ s3 : Int, s3 ≤ s1 → cmpOp .leq s2 s1 = true ∧ cmpOp .leq s3 s1 = true ∧ cmpOp .geq s1 0 = true ∧ (cmpOp .lss (intOp .add .i64 1 (IntKind.i64.wrap (intOp .rem .u8 k 6))) (N : Int) = false → cmpOp .eql s1 0 = true) := fun s3 q3 => by
    rw [e3]
    refine ⟨by rw [cmp_leq, decide_eq_true_eq]; exact q1, by rw [cmp_leq, decide_eq_true_eq]; exact q3, by rw [cmp_geq, decide_eq_true_eq]; exact q2, fun q => ?_⟩
    rw [cmp_lss, decide_eq_false_iff_not] at q
    rw [cmp_eql, decide_eq_true_eq]
    exact L1.all hc0 (by omega)
  refine h_ite (fun hc => ?_) (fun hc => ?_)
  · replace hc : cmpOp .gtr ((vlen u : Nat) : Int) 0 = true := hc
    rw [hul', cmp_gtr, decide_eq_true_eq] at hc
    have hpos : 0 < E0.length := by omega
    obtain ⟨i, hi⟩ : ∃ i : Nat, (i : Int) = a % (E0.length : Int) := ⟨(a % (E0.length : Int)).toNat, by have := Int.emod_nonneg a (by omega : (E0.length : Int) ≠ 0); omega⟩
    have hil : i < E0.length := by have := Int.emod_lt_of_pos a (by omega : (0 : Int) < E0.length); omega
    have ei : intOp .rem .i64 (IntKind.i64.wrap a) ((vlen u : Nat) : Int) = (i : Int) := by
      rw [hul', wrap_i64 (by omega) (by omega)]
      simp only [intOp]; rw [Int.tmod_eq_emod_of_nonneg ha.1, hi]
    have ei1 : intOp .add .i64 (intOp .rem .i64 (IntKind.i64.wrap a) ((vlen u : Nat) : Int)) 1 = ((i + 1 : Nat) : Int) := by
      rw [ei]; exact int_add_one (n := 100000) (by omega) (by omega)
    have hcap : E0.length ≤ vcap u := by
      obtain ⟨x, m, c, rfl, _, q⟩ := K.e.fit
      simp only [vlen_sl, vcap_sl] at hul' ⊢; omega
    have Ku := K.e
    have sl1 := SlAt.slice Ku (lo := 0) (hi := i) (by omega) (by unfold edI; rw [List.length_map]; omega)
    have sl2 := SlAt.slice Ku (lo := i + 1) (hi := (edI E0).length) (by unfold edI; rw [List.length_map]; omega) (Nat.le_refl _)
    rw [List.drop_zero, Nat.sub_zero] at sl1
    have et2 : List.take ((edI E0).length - (i + 1)) (List.drop (i + 1) (edI E0)) = List.drop (i + 1) (edI E0) := by
      apply List.take_of_length_le; rw [List.length_drop]; omega
    rw [et2] at sl2
    refine ⟨fun _ => ⟨?_, trivial⟩, fun _ => ⟨?_, ?_, trivial⟩, ?_⟩
    · show cmpOp .neq ((vlen u : Nat) : Int) 0 = true
      rw [hul', cmp_neq, decide_eq_true_eq]; omega
    · show cmpOp .geq (intOp .rem .i64 (IntKind.i64.wrap a) ((vlen u : Nat) : Int)) 0 = true
      rw [ei]; exact ge0 i
    · show cmpOp .leq (intOp .rem .i64 (IntKind.i64.wrap a) ((vlen u : Nat) : Int)) ((vcap u : Nat) : Int) = true
      rw [ei, cmp_leq, decide_eq_true_eq]; omega
    intro w1 hw1
    replace hw1 : w1 = sliceV u 0 (intOp .rem .i64 (IntKind.i64.wrap a) ((vlen u : Nat) : Int)).toNat 2 := hw1
    rw [ei, Int.toNat_natCast] at hw1
    rw [← hw1] at sl1
    refine ⟨fun _ => ⟨?_, ?_, trivial⟩, ?_⟩
    · show cmpOp .geq (intOp .add .i64 (intOp .rem .i64 (IntKind.i64.wrap a) ((vlen u : Nat) : Int)) 1) 0 = true
      rw [ei1]; exact ge0 _
    · show cmpOp .leq (intOp .add .i64 (intOp .rem .i64 (IntKind.i64.wrap a) ((vlen u : Nat) : Int)) 1) ((vlen u : Nat) : Int) = true
      rw [ei1, hul', cmp_leq, decide_eq_true_eq]; omega
    intro w2 hw2
    replace hw2 : w2 = sliceV u (intOp .add .i64 (intOp .rem .i64 (IntKind.i64.wrap a) ((vlen u : Nat) : Int)) 1).toNat (vlen u) 2 := hw2
    rw [ei1, Int.toNat_natCast, hul', show E0.length = (edI E0).length by unfold edI; simp] at hw2
    rw [← hw2] at sl2
    clear hw1 hw2
    intro b hb
    have r0 := row_empty (h := h5) (b := b) (e := 41) (sz := 2)
    have l6 : h5.le (h5.put b (.cells ([] : List Value).toArray 41 (0, 0))) := H.le_put hb
    show holds _ _ _ ([.int .u8 n, ev, .int .u8 k, wv, .int .u8 a, .bool true, .int .i64 (N : Int), u, v, cv, b1, .int .i64 s1, .int .i64 0, b2, .int .i64 s2, .int .i64 0] ++ [w1] ++ [w2] ++ [.slice (some ⟨b, 0, none⟩) 0 0]) _ (h5.put b (.cells ([] : List Value).toArray 41 (0, 0)))
    generalize h5.put b (.cells ([] : List Value).toArray 41 (0, 0)) = h6 at r0 l6
    generalize Value.slice (some ⟨b, 0, none⟩) 0 0 = x0 at r0
    have f6 : Fresh h5 [b] := fun z hz => by rw [List.mem_singleton] at hz; subst hz; exact hb
    have hEl : (edI E0).length = E0.length := by unfold edI; simp
    refine app_edges (v := x0) (u := w1) (E := []) (D := (edI E0).take i) r0 rfl (EdgesAt.le (l35.trans l6) sl1) (by simp; omega) fun x1 h7 f7 r1 k7 g7 => ?_
    have l7 : h5.le h7 := k7.le l6 f6
    have f7' := fresh_of l6 f6 g7
    refine app_edges (v := x1) (u := w2) (E := (edI E0).take i) (D := (edI E0).drop (i + 1)) (by simpa using r1) rfl (EdgesAt.le (l35.trans l7) sl2) (by simp; omega) fun x2 h8 f8 r2 k8 g8 => ?_
    have l8 : h5.le h8 := k8.le l7 f7'
    have hx2 := rowF_edV r2
    have hsub : ((edI E0).take i ++ (edI E0).drop (i + 1)) = edI (E0.take i ++ E0.drop (i + 1)) := by unfold edI; simp
    have hS : (E0.take i ++ E0.drop (i + 1)).Sublist E0 := by
      have : E0.take i ++ E0.drop (i + 1) = E0.eraseIdx i := by rw [List.eraseIdx_eq_take_drop_succ]
      rw [this]; exact List.eraseIdx_sublist _ _
    rw [hsub] at hx2
    have hx2l : (edI (E0.take i ++ E0.drop (i + 1))).length ≤ 1000000 := by
      have := hS.length_le; unfold edI; rw [List.length_map]; omega
    have hg8 : (⟨(N : Int), edI (E0.take i ++ E0.drop (i + 1)), M⟩ : Gr).ok = true := by
      unfold Gr.ok
      have := right_sub (p := eB e) (N := N) (D := E0.take i ++ E0.drop (i + 1)) (hS.trans (by rw [hE0]; exact List.Sublist.refl _))
      simp only [this, hg5, Bool.and_eq_true, decide_eq_true_eq, Bool.not_eq_true', Bool.and_true]
      exact ⟨⟨by omega, by omega⟩, List.any_eq_false.2 fun x hx => (hM0 x hx).elim⟩
    refine h_call0 (Q := fun r' h' => h8.le h' ∧ ∃ bv s, r' = .tuple #[bv, .int .i64 s, .int .i64 0] ∧ Fits .sl bv ∧ LeastIs (edI (E0.take i ++ E0.drop (i + 1))) (1 + k % 6) (costF cost) N s) ?_ ?_
    · show CallsA _ _ (fun _ => [.agg #[.int .i64 (N : Int), x2, v], .int .i64 (intOp .add .i64 1 (IntKind.i64.wrap (intOp .rem .u8 k 6))), cv]) [] _ _
      rw [e3]
      exact best (l4.trans (l5.trans l8)) ⟨hx2, (K.le (l35.trans l8)).m, hx2l, K.ml⟩ hg8 (by omega) (by omega)
    rintro _ h9 ⟨l9, b3, s3, rfl, fb3, L3⟩
    refine ⟨[b3, .int .i64 s3, .int .i64 0], ⟨fb3, ⟨_, rfl⟩, ⟨_, rfl⟩, trivial⟩, rfl, rfl, l2.trans (l35.trans (l8.trans l9)), ?_⟩
    have q3 : s3 ≤ s1 := L1.mono L3 (Int.le_refl _) fun x hx => by
      unfold edI at hx ⊢
      obtain ⟨y, hy, rfl⟩ := List.mem_map.1 hx
      exact List.mem_map.2 ⟨y, hS.subset hy, rfl⟩
    obtain ⟨z1, z2, z3, z4⟩ := fin s3 q3
    have zz : cmpOp .eql (0 : Int) 0 = true := rfl
    simp only [SV.den, X.den, List.cons_append, List.nil_append, List.append_nil, gv_zero, gv_succ, vi_int, vb_bool, vb_ite, z1, z2, z3, zz, if_true]
    by_cases z5 : cmpOp .lss (intOp .add .i64 1 (IntKind.i64.wrap (intOp .rem .u8 k 6))) (N : Int) = true
    · simp [z5]
    · rw [Bool.not_eq_true] at z5
      simp [z5, z4 z5]
  · refine h_call0 (Q := fun r' h' => h5.le h' ∧ ∃ bv s, r' = .tuple #[bv, .int .i64 s, .int .i64 0] ∧ Fits .sl bv ∧ LeastIs (edI E0) (1 + k % 6) (costF cost) N s) ?_ ?_
    · show CallsA _ _ (fun _ => [.agg #[.int .i64 (N : Int), u, v], .int .i64 (intOp .add .i64 1 (IntKind.i64.wrap (intOp .rem .u8 k 6))), cv]) [] _ _
      rw [e3]; exact best (l4.trans l5) (K.le l35) hg (by omega) (by omega)
    rintro _ h9 ⟨l9, b3, s3, rfl, fb3, L3⟩
    refine ⟨[b3, .int .i64 s3, .int .i64 0], ⟨fb3, ⟨_, rfl⟩, ⟨_, rfl⟩, trivial⟩, rfl, rfl, l2.trans (l35.trans l9), ?_⟩
    have q3 : s3 ≤ s1 := L1.mono L3 (Int.le_refl _) fun x hx => hx
    obtain ⟨z1, z2, z3, z4⟩ := fin s3 q3
    have zz : cmpOp .eql (0 : Int) 0 = true := rfl
    simp only [SV.den, X.den, List.cons_append, List.nil_append, List.append_nil, gv_zero, gv_succ, vi_int, vb_bool, vb_ite, z1, z2, z3, zz, if_true]
    by_cases z5 : cmpOp .lss (intOp .add .i64 1 (IntKind.i64.wrap (intOp .rem .u8 k 6))) (N : Int) = true
    · simp [z5]
    · rw [Bool.not_eq_true] at z5
      simp [z5, z4 z5]
namespace searchMore
theorem own : ownKnob Tryd.prog.godebug = none := by kernel_rfl
set_option maxRecDepth 100000 in
theorem laidOut : laidOutB Tryd.prog = true := by kernel_rfl
set_option maxRecDepth 100000 in
theorem contract (H : Type) (enc : TypeId × Value → H) (W : World) (base : Nat) (args : Array Value) (ds gs : List (DataW H)) (before : List MemPlace)
    (hval : ∀ (j : Nat) t v, Tryd.f5.params[j]? = some t → args[j]? = some v → Value.okWide Tryd.prog W .any base t v)
    (hW : DataW.Whole enc Tryd.prog Tryd.f5.params.toList Rows.searchMoreSpec.vars false W args.toList ds gs before) (hL : laidMetH Tryd.prog laid1 W) :
    Calls Tryd.prog 5 args W fun e W' => ∃ v, e = .returned v ∧ Rows.searchMoreSpec.post enc Tryd.prog Tryd.f5 false true false false W args v W' := by
  have hW' := hW
  obtain ⟨p, q, hA, hV, rfl, hfz, hnd⟩ := hW
  rw [Tryd.params5] at hA hval
  obtain ⟨v0, vs0, d0, ds0, p0, q0, hargs, rfl, rfl, h0, r0⟩ := trodAll_cons hA
  obtain ⟨v1, vs1, d1, ds1, p1, q1, rfl, rfl, rfl, h1, r1⟩ := trodAll_cons r0
  obtain ⟨v2, vs2, d2, ds2, p2, q2, rfl, rfl, rfl, h2, r2⟩ := trodAll_cons r1
  obtain ⟨v3, vs3, d3, ds3, p3, q3, rfl, rfl, rfl, h3, r3⟩ := trodAll_cons r2
  obtain ⟨v4, vs4, d4, ds4, p4, q4, rfl, rfl, rfl, h4, r4⟩ := trodAll_cons r3
  obtain ⟨rfl, rfl, rfl⟩ := trodAll_nil r4
  obtain rfl : args = #[v0, v1, v2, v3, v4] := by cases args; simp_all
  obtain ⟨n, rfl, -, -, wf0⟩ := open_int Tryd.underlying5 (hval 0 5 v0 rfl rfl) h0
  obtain ⟨a1, n1, c1, rfl⟩ := okWide_slice Tryd.underlying22 (hval 1 22 v1 rfl rfl)
  obtain ⟨ev, el, he1, hev, -⟩ := rd_bytes (Rd.of h1)
  obtain rfl : Value.slice a1 n1 c1 = ev := by simpa [Value.cells] using he1
  obtain ⟨k, rfl, -, -, wf2⟩ := open_int Tryd.underlying5 (hval 2 5 v2 rfl rfl) h2
  obtain ⟨a3, n3, c3, rfl⟩ := okWide_slice Tryd.underlying23 (hval 3 23 v3 rfl rfl)
  obtain ⟨wv, wl, he3, hwv, -⟩ := rd_u16 (Rd.of h3)
  obtain rfl : Value.slice a3 n3 c3 = wv := by simpa [Value.cells] using he3
  obtain ⟨a, rfl, -, -, wf4⟩ := open_int Tryd.underlying5 (hval 4 5 v4 rfl rfl) h4
  refine (law_calls (f := 5) (args := [.int .u8 n, .slice a1 n1 c1, .int .u8 k, .slice a3 n3 c3, .int .u8 a]) (s5 (tab_of hL) (u8_bounds wf0).1 hev (u8_bounds wf2).1 hwv (u8_bounds wf4))).mono ?_
  rintro e' W' ⟨rfl, bel⟩
  exact ⟨_, rfl, law_post laidOut hW' rfl (of_decide_eq_true (by kernel_rfl)) rfl Tryd.underlying4 rfl bel⟩
set_option maxRecDepth 100000 in
theorem lifted (os : Os) (started : os.Started) (H : Type) (enc : TypeId × Value → H) :
    ReturnsInHanded {} Tryd.checked os 5 .any (fun w args => (Rows.searchMoreSpec.pre enc Tryd.prog Tryd.f5 [] false w args ∧ laidMetH Tryd.prog laid1 w) ∧ sizedMet enc Tryd.prog Tryd.f5 (OpenSpec.ofChange Rows.searchMoreSpec) false w args)
      (Rows.searchMoreSpec.post enc Tryd.prog Tryd.f5 false true false false) := by
  refine returnsInHanded_of_change_and (C := Tryd.checked) (X := fun w _ => laidMetH Tryd.prog laid1 w) (fun _ _ _ hh h => h.of_heap hh) own started (by kernel_rfl) Tryd.func5
    (ChangeSpec.witness_shaped (enc := enc) (C := Tryd.checked) (os := os) (X := fun w _ => laidMetH Tryd.prog laid1 w) false (World.laidAll Tryd.prog os laid1) #[.int .u8 0, .slice none 0 0, .int .u8 0, .slice none 0 0, .int .u8 0] 8 (World.laidAll_os _ _ _)
      (World.shaped_of_ZipB (by kernel_rfl) (by kernel_rfl)) (by kernel_rfl) (by kernel_rfl) (by kernel_rfl)
      (by rw [MakeChecks.laidMetH_plain _ _ _ (by kernel_rfl)]; exact laidMet_laidAll _ (by kernel_rfl) (by kernel_rfl))) ?_
  intro W base args ds gs before hval hW _ _ hL _
  exact contract H enc W base args ds gs before hval hW hL
set_option maxRecDepth 100000 in
theorem proved : Rows.SearchMoreSaid :=
  OpenClaim.holds_of_wide 5 Tryd.f5 rfl rfl rfl rfl rfl rfl rfl ⟨rfl, rfl, rfl, rfl, rfl⟩ rfl rfl rfl rfl rfl (by kernel_rfl) Tryd.func5 (by kernel_rfl)
    (of_decide_eq_true (by kernel_rfl)) (by unfold Func.isWrapper; first | (rw [if_pos (by decide +kernel)]; kernel_rfl) | (rw [if_neg (by decide +kernel)]; exact ⟨rfl, rfl⟩))
    (fun os started H enc _ => lifted os started H enc)
set_option maxRecDepth 100000 in
theorem card : Rows.SearchMoreCardSaid :=
  Claim7.holds_tied_plain_at .later [] [.data] true (true, "74a93455e167e44cac747f8244595d2a0244a2ab46c0a069dc415a11e19b33d5") false proved (fun _ h => by cases h) (by kernel_rfl) (fun _ h => by cases h) searchMore_row_tie rfl ⟨rfl, rfl⟩ (by kernel_rfl) rfl
    (fun f fn hf hfn => by
      obtain rfl : f = 5 := Option.some.inj ((show Tryd.prog.funcNamed "outworker/outworkerlaw17.SearchMore" = some 5 by kernel_rfl).symm.trans hf) |>.symm
      obtain rfl : fn = Tryd.f5 := (Option.some.inj (Tryd.func5.symm.trans hfn)).symm
      exact ⟨by kernel_rfl, fun j t ht => by
        rw [Tryd.params5] at ht
        have hm : t ∈ [5, 22, 5, 23, 5] := by simpa using Array.mem_of_getElem? ht
        have hall : ([5, 22, 5, 23, 5].all fun u => !Tryd.prog.wantsStandIn u) = true := by kernel_rfl
        exact (show Tryd.prog.wantsStandIn t = false by simpa using List.all_eq_true.1 hall t hm)⟩)
    (by kernel_rfl)
end searchMore
/-- The row, under a short name, for the claim. -/
theorem searchMoreHolds : Rows.SearchMoreCardSaid := searchMore.card
#print axioms searchMoreHolds
end Go.Proofs.YtbgfabppmobpgaaDoor
