/-
  The law SearchBest answers true. Conditions: none.
-/
import Derived.Test.YtbgfabppmobpgaaDoorR6Aw
import Derived.Test.YtbgfabppmobpgaaDoorR6Tl
import Derived.Test.YtbgfabppmobpgaaDoorR6Lay
set_option linter.unusedVariables false
set_option linter.unusedSimpArgs false
namespace Go.Proofs.YtbgfabppmobpgaaDoor
open Go Go.ChangeShapes Go.WideShapes Go.ChangeAt Go.RowKit

theorem s3 {h : H} {n k : Int} {ev wv : Value} {e w : List Int} (ht : Tab h) (hn : 0 ≤ n) (he : BytesAt h ev e) (hk : 0 ≤ k) (hw : U16At h wv w) :
    CallsA Tryd.prog 3 (fun _ => [.int .u8 n, ev, .int .u8 k, wv]) [] h (Ret fun r h' => h.le h' ∧ r = .bool true) := by
  refine c3 (G := [.int .u8 n, ev, .int .u8 k, wv]) ⟨⟨_, rfl⟩, he.fit, ⟨_, rfl⟩, hw.fit, trivial⟩ ?_
  refine h_call0 (s11 ht) ?_
  rintro _ h1 ⟨l1, rfl⟩
  refine ⟨[.bool true], ⟨⟨_, rfl⟩, trivial⟩, rfl, iteF rfl ?_⟩
  obtain ⟨N, hN⟩ : ∃ N : Nat, (N : Int) = n % 8 := ⟨(n % 8).toNat, by omega⟩
  have hN8 : N < 8 := by omega
  have h13 : ((n % 8) % 13).toNat = N := by omega
  have hMade := s12 (h := h1) (n := n % 8) (ev := ev) (mv := .slice none 0 0) (e := e) (m := []) (by omega) (SlAt.le byteC_mono l1 he) SlAt.nil
  rw [h13] at hMade
  have e1 : intOp .rem .u8 n 8 = n % 8 := rem_u8r hn
  have e2 : IntKind.i64.wrap (intOp .rem .u8 n 8) = (N : Int) := by rw [rem_u8 hn (by omega) (by omega), hN]
  have e3 : intOp .add .i64 1 (IntKind.i64.wrap (intOp .rem .u8 k 4)) = 1 + k % 4 := by rw [rem_u8 hk (by omega) (by omega), add_small (by omega) (by omega)]
  refine h_call0 (Q := fun r h' => ∃ u v f f', r = .agg #[.int .i64 (N : Int), u, v] ∧ Two h1 h' u v (madeE N (eB e)) (madeE N (mB e [])) f f') ?_ ?_
  · show CallsA _ _ (fun _ => [.int .u8 (intOp .rem .u8 n 8), ev, .slice none 0 0]) [] _ _
    rw [e1]; exact hMade
  rintro _ h2 ⟨u, v, f, f', rfl, T⟩
  have l2 := l1.trans T.le
  refine ⟨[.int .i64 (N : Int), u, v], ⟨⟨_, rfl⟩, T.e.row0.fit, T.m.row0.fit, trivial⟩, rfl, ?_⟩
  have hlen : ∀ p, (madeE N p).length ≤ 1000000 := fun p => by
    have := (selP_sub p (pairsTo N N)).length_le
    have h2 := pairsTo_len N N
    have : N * N ≤ 8 * 8 := Nat.mul_le_mul (by omega) (by omega)
    unfold madeE; omega
  have K := T.gr (hlen _) (hlen _) (N : Int)
  have hg : (⟨(N : Int), edI (madeE N (eB e)), edI (madeE N (mB e []))⟩ : Gr).ok = true := made_graph (by omega) fun j hj => by unfold mB; rw [hj]; rfl
  generalize hG : (⟨(N : Int), edI (madeE N (eB e)), edI (madeE N (mB e []))⟩ : Gr) = g at K hg
  have hgn : g.n = (N : Int) := by rw [← hG]
  clear hG T
  refine h_call0 (Q := fun r h' => h2.le h' ∧ ∃ c : List Int, c.length = N ∧ (∀ x ∈ c, 1 ≤ x ∧ x ≤ 1000) ∧ OwnInts h2 h' r c) ?_ ?_
  · show CallsA _ _ (fun _ => [.int .i64 (IntKind.i64.wrap (intOp .rem .u8 n 8)), wv]) [] _ _
    rw [e2]; exact s13 (SlAt.le u16C_mono l2 hw) (by omega)
  rintro cv h3 ⟨l3, cost, hcl, hcb, hcv⟩
  have hci := hcv.ints
  refine ⟨[cv], ⟨hci.fit, trivial⟩, rfl, ?_⟩
  have hcr : ∀ u, u < cost.length → 1 ≤ costF cost u ∧ costF cost u ≤ 1000 := fun u hu => hcb _ (costF_mem hu)
  have hE : bestE g (1 + k % 4) cost = 0 := bestE_of hg (by rw [hgn, hcl]) (by omega) (by omega) (by omega) hcr
  refine h_call0 (Q := fun r h' => h3.le h' ∧ BestQ g (1 + k % 4) cost r h') ?_ ?_
  · show CallsA _ _ (fun _ => [.agg #[.int .i64 (N : Int), u, v], .int .i64 (intOp .add .i64 1 (IntKind.i64.wrap (intOp .rem .u8 k 4))), cv]) [] _ _
    rw [e3, ← hgn]; exact s14 (ht.le (l2.trans l3)) (K.le l3) hci (by omega)
  rintro r h4 ⟨l4, hq⟩
  rcases hq with ⟨q, -⟩ | ⟨-, bv, l, s, rfl, hbv, R⟩
  · exact absurd hE q
  refine ⟨[bv, .int .i64 s, .int .i64 0], ⟨hbv.fit, ⟨_, rfl⟩, ⟨_, rfl⟩, trivial⟩, rfl, iteT rfl ?_⟩
  have hNt : g.n.toNat = N := by omega
  refine h_call0 (Q := fun r h' => h' = h4 ∧ r = .bool true) ?_ ?_
  · show CallsA _ _ (fun _ => [.agg #[.int .i64 (N : Int), u, v], .int .i64 (intOp .add .i64 1 (IntKind.i64.wrap (intOp .rem .u8 k 4))), bv]) [] _ _
    rw [e3, ← hgn]; exact s15 (K.le (l3.trans l4)) hg hbv R.len R.ok
  rintro _ h4' ⟨e4, rfl⟩
  have e4' := e4.symm
  subst e4'
  refine ⟨[.bool true], ⟨⟨_, rfl⟩, trivial⟩, rfl, iteT rfl ?_⟩
  have hll : l.length = N := by rw [R.len, hNt]
  refine h_call0 (s16 hbv (hci.le l4) (by omega) (by omega) fun u hu => by have := hcr u (by omega); omega) ?_
  rintro _ h5 ⟨e5, rfl⟩
  have e5' := e5.symm
  subst e5'
  have hs : s = costL (costF cost) (gt l) 0 l.length := by rw [hll, ← hNt]; exact R.sum
  rw [← hs]
  refine ⟨[.int .i64 s], ⟨⟨_, rfl⟩, trivial⟩, rfl, iteT ?_ ?_⟩
  · show cmpOp .eql s s = true
    rw [cmp_eql]; simp
  refine h_call0 (Q := fun r h' => h4.le h' ∧ ∃ s', r = .int .i64 s' ∧ LeastIs g.e (1 + k % 4) (costF cost) N s') ?_ ?_
  · show CallsA _ _ (fun _ => [.agg #[.int .i64 (N : Int), u, v], .int .i64 (intOp .add .i64 1 (IntKind.i64.wrap (intOp .rem .u8 k 4))), cv]) [] _ _
    rw [e3, ← hgn]; exact s17 (K.le (l3.trans l4)) hNt.symm (by omega) (by omega) (hci.le l4) hcl (fun u hu => by have := hcr u (by omega); omega) (by omega) (by omega)
  rintro _ h6 ⟨l6, s', rfl, hs'⟩
  refine ⟨[.int .i64 s'], ⟨⟨_, rfl⟩, trivial⟩, rfl, rfl, l2.trans (l3.trans (l4.trans l6)), ?_⟩
  have : s = s' := by
    have := R.least
    rw [hNt] at this
    exact this.uniq hs'
  show Value.bool (cmpOp .eql s s') = _
  rw [this, cmp_eql]; simp
namespace searchBest
theorem own : ownKnob Tryd.prog.godebug = none := by kernel_rfl
set_option maxRecDepth 100000 in
theorem laidOut : laidOutB Tryd.prog = true := by kernel_rfl
set_option maxRecDepth 100000 in
theorem contract (H : Type) (enc : TypeId × Value → H) (W : World) (base : Nat) (args : Array Value) (ds gs : List (DataW H)) (before : List MemPlace)
    (hval : ∀ (j : Nat) t v, Tryd.f3.params[j]? = some t → args[j]? = some v → Value.okWide Tryd.prog W .any base t v)
    (hW : DataW.Whole enc Tryd.prog Tryd.f3.params.toList Rows.searchBestSpec.vars false W args.toList ds gs before) (hL : laidMetH Tryd.prog laid1 W) :
    Calls Tryd.prog 3 args W fun e W' => ∃ v, e = .returned v ∧ Rows.searchBestSpec.post enc Tryd.prog Tryd.f3 false true false false W args v W' := by
  have hW' := hW
  obtain ⟨p, q, hA, hV, rfl, hfz, hnd⟩ := hW
  rw [Tryd.params3] at hA hval
  obtain ⟨v0, vs0, d0, ds0, p0, q0, hargs, rfl, rfl, h0, r0⟩ := trodAll_cons hA
  obtain ⟨v1, vs1, d1, ds1, p1, q1, rfl, rfl, rfl, h1, r1⟩ := trodAll_cons r0
  obtain ⟨v2, vs2, d2, ds2, p2, q2, rfl, rfl, rfl, h2, r2⟩ := trodAll_cons r1
  obtain ⟨v3, vs3, d3, ds3, p3, q3, rfl, rfl, rfl, h3, r3⟩ := trodAll_cons r2
  obtain ⟨rfl, rfl, rfl⟩ := trodAll_nil r3
  obtain rfl : args = #[v0, v1, v2, v3] := by cases args; simp_all
  obtain ⟨n, rfl, -, -, wf0⟩ := open_int Tryd.underlying5 (hval 0 5 v0 rfl rfl) h0
  obtain ⟨a1, n1, c1, rfl⟩ := okWide_slice Tryd.underlying22 (hval 1 22 v1 rfl rfl)
  obtain ⟨ev, el, he1, hev, -⟩ := rd_bytes (Rd.of h1)
  obtain rfl : Value.slice a1 n1 c1 = ev := by simpa [Value.cells] using he1
  obtain ⟨k, rfl, -, -, wf2⟩ := open_int Tryd.underlying5 (hval 2 5 v2 rfl rfl) h2
  obtain ⟨a3, n3, c3, rfl⟩ := okWide_slice Tryd.underlying23 (hval 3 23 v3 rfl rfl)
  obtain ⟨wv, wl, he3, hwv, -⟩ := rd_u16 (Rd.of h3)
  obtain rfl : Value.slice a3 n3 c3 = wv := by simpa [Value.cells] using he3
  refine (law_calls (f := 3) (args := [.int .u8 n, .slice a1 n1 c1, .int .u8 k, .slice a3 n3 c3]) (s3 (tab_of hL) (u8_bounds wf0).1 hev (u8_bounds wf2).1 hwv)).mono ?_
  rintro e' W' ⟨rfl, bel⟩
  exact ⟨_, rfl, law_post laidOut hW' rfl (of_decide_eq_true (by kernel_rfl)) rfl Tryd.underlying4 rfl bel⟩
set_option maxRecDepth 100000 in
theorem lifted (os : Os) (started : os.Started) (H : Type) (enc : TypeId × Value → H) :
    ReturnsInHanded {} Tryd.checked os 3 .any (fun w args => (Rows.searchBestSpec.pre enc Tryd.prog Tryd.f3 [] false w args ∧ laidMetH Tryd.prog laid1 w) ∧ sizedMet enc Tryd.prog Tryd.f3 (OpenSpec.ofChange Rows.searchBestSpec) false w args)
      (Rows.searchBestSpec.post enc Tryd.prog Tryd.f3 false true false false) := by
  refine returnsInHanded_of_change_and (C := Tryd.checked) (X := fun w _ => laidMetH Tryd.prog laid1 w) (fun _ _ _ hh h => h.of_heap hh) own started (by kernel_rfl) Tryd.func3
    (ChangeSpec.witness_shaped (enc := enc) (C := Tryd.checked) (os := os) (X := fun w _ => laidMetH Tryd.prog laid1 w) false (World.laidAll Tryd.prog os laid1) #[.int .u8 0, .slice none 0 0, .int .u8 0, .slice none 0 0] 8 (World.laidAll_os _ _ _)
      (World.shaped_of_ZipB (by kernel_rfl) (by kernel_rfl)) (by kernel_rfl) (by kernel_rfl) (by kernel_rfl)
      (by rw [MakeChecks.laidMetH_plain _ _ _ (by kernel_rfl)]; exact laidMet_laidAll _ (by kernel_rfl) (by kernel_rfl))) ?_
  intro W base args ds gs before hval hW _ _ hL _
  exact contract H enc W base args ds gs before hval hW hL
set_option maxRecDepth 100000 in
theorem proved : Rows.SearchBestSaid :=
  OpenClaim.holds_of_wide 3 Tryd.f3 rfl rfl rfl rfl rfl rfl rfl ⟨rfl, rfl, rfl, rfl, rfl⟩ rfl rfl rfl rfl rfl (by kernel_rfl) Tryd.func3 (by kernel_rfl)
    (of_decide_eq_true (by kernel_rfl)) (by unfold Func.isWrapper; first | (rw [if_pos (by decide +kernel)]; kernel_rfl) | (rw [if_neg (by decide +kernel)]; exact ⟨rfl, rfl⟩))
    (fun os started H enc _ => lifted os started H enc)
set_option maxRecDepth 100000 in
theorem card : Rows.SearchBestCardSaid :=
  Claim7.holds_tied_plain_at .later [] [.data] true (true, "74a93455e167e44cac747f8244595d2a0244a2ab46c0a069dc415a11e19b33d5") false proved (fun _ h => by cases h) (by kernel_rfl) (fun _ h => by cases h) searchBest_row_tie rfl ⟨rfl, rfl⟩ (by kernel_rfl) rfl
    (fun f fn hf hfn => by
      obtain rfl : f = 3 := Option.some.inj ((show Tryd.prog.funcNamed "outworker/outworkerlaw17.SearchBest" = some 3 by kernel_rfl).symm.trans hf) |>.symm
      obtain rfl : fn = Tryd.f3 := (Option.some.inj (Tryd.func3.symm.trans hfn)).symm
      exact ⟨by kernel_rfl, fun j t ht => by
        rw [Tryd.params3] at ht
        have hm : t ∈ [5, 22, 5, 23] := by simpa using Array.mem_of_getElem? ht
        have hall : ([5, 22, 5, 23].all fun u => !Tryd.prog.wantsStandIn u) = true := by kernel_rfl
        exact (show Tryd.prog.wantsStandIn t = false by simpa using List.all_eq_true.1 hall t hm)⟩)
    (by kernel_rfl)
end searchBest
/-- The row, under a short name, for the claim. -/
theorem searchBestHolds : Rows.SearchBestCardSaid := searchBest.card
#print axioms searchBestHolds
end Go.Proofs.YtbgfabppmobpgaaDoor
