/-
  The law LiveAll answers true. Conditions: none.
-/
import Derived.Test.YtbbicdfipheaeaaDoorR5X
import Derived.Test.YtbbicdfipheaeaaDoorR5R
import Derived.Test.YtbbicdfipheaeaaDoorR5Lay
set_option linter.unusedVariables false
set_option linter.unusedSimpArgs false
namespace Go.Proofs.YtbbicdfipheaeaaDoor
open Go Go.ChangeShapes Go.WideShapes Go.ChangeAt Go.RowKit

theorem ite_same {G : List Value} {i j : Nat} {b : Bool} (hi : gv G i = .bool b) (hj : gv G j = .bool b) : vb ((X.ite (.var i) (.not (.var j)) (.var j)).den G) = false := by
  simp only [X.den, hi, hj]
  cases b <;> rfl
set_option maxRecDepth 8000 in
theorem s8 {h : H} {vs vm : Value} {p0 p1 p2 : Int} {l A : List Int} (ht : Tab h) (hs : BytesAt h vs l) (h0 : 0 ≤ p0) (h1 : 0 ≤ p1) (h2 : 0 ≤ p2) (hA : BytesAt h vm A) :
    CallsA Tryd.prog 8 (fun _ => [.agg #[.int .u8 p0, .int .u8 p1, .int .u8 p2, vs], vm]) [] h (Ret fun r h' => h.le h' ∧ r = .bool true) := by
  refine c8 (G := [.int .u8 p0, .int .u8 p1, .int .u8 p2, vs, vm]) ⟨⟨_, rfl⟩, ⟨_, rfl⟩, ⟨_, rfl⟩, hs.fit, hA.fit, trivial⟩ ?_
  obtain ⟨hB, hB1, hB7⟩ := made_B h0 h1 h2 hs.inB
  obtain ⟨hR, hsm⟩ := made_reg h0 h1 h2 hs.inB
  have hV := madeV_range h0 h1
  refine h_call0 (s29 ht) ?_
  rintro _ g1 ⟨hl1, rfl⟩
  refine ⟨[.bool true], ⟨⟨_, rfl⟩, trivial⟩, rfl, iteF rfl ?_⟩
  refine h_call0 (s12 (p0 := p0) (p1 := p1) (p2 := p2) (hs.le hl1) h0 h1 h2) ?_
  rintro _ g2 ⟨hk2, u, fp, rfl, hu, hfp, hnd⟩
  generalize madeB p0 p1 p2 l = B at hB hB1 hB7 hu hR hsm
  have hle2 : h.le g2 := hl1.trans hk2.le_nil
  obtain ⟨V, hVe⟩ : ∃ V : Nat, madeV p0 p1 = V := ⟨(madeV p0 p1).toNat, by omega⟩
  rw [hVe] at hV ⊢
  refine ⟨[.int .i64 (madeP p0), .int .i64 (V : Int), u], ⟨⟨_, rfl⟩, ⟨_, rfl⟩, hu.at.fit, trivial⟩, rfl, ?_⟩
  simp only [List.cons_append, List.nil_append]
  have hfp' : Fresh h fp := fun b hb => H.le_none hl1 (hfp b hb)
  refine h_call0 (s30 (P := madeP p0) hu hnd hB1 hsm hR (V := V) (by omega) (hA.le (H.le_cut hle2 hfp'))) ?_
  rintro _ g3 ⟨rfl, B', fp', hu', hnd', k3, q3, W⟩
  have hle3 : h.le g3 := k3.le hle2 hfp'
  have hO := W.okB hB
  have hBl := W.len
  have hSm := W.reg.smB
  have hua := hu'.at
  refine ⟨[_], ⟨hua.fit, trivial⟩, rfl, ?_⟩
  simp only [List.cons_append, List.nil_append]
  refine h_call0 (s31 (ht.le hle3) hua hO W.reg (by omega)) ?_
  rintro _ g4 ⟨l4, vI, vO, L, rfl, hsol, Ko, Ki⟩
  refine ⟨[vI, vO], ⟨Ki.fit, Ko.fit, trivial⟩, rfl, ?_⟩
  simp only [List.cons_append, List.nil_append]
  rename_i u
  have hul := hua.len
  have hua4 := SlAt.le blkC_mono l4 hua
  have hLl : L.length = B'.length := hsol.len
  have hil : vlen vI = B'.length := by rw [Ki.len, inP_len, hLl]
  have hol : vlen vO = B'.length := by rw [Ko.len, hLl]
  have nd : ∀ {D : List Value} {q q' b N : Nat} {vx : Value}, gv D q = natV b → gv D q' = vx → vlen vx = N → b < N → needs D [(.cmp .geq (.var q) (.lit 0)), (.cmp .lss (.var q) (.len q'))] := fun {D q q' b N vx} e1 e2 e3 e4 => by
    simp only [needs, X.den, e1, e2, e3, vb_bool, vi_int, and_true]
    exact ⟨ge0 b, ltN e4⟩
  refine iteF ?_ ?_
  · show vb (if cmpOp .neq ((vlen vI : Nat) : Int) ((vlen u : Nat) : Int) = true then _ else _) = false
    rw [hil, hul, cmp_neq, if_neg (by simp)]
    show cmpOp .neq ((vlen vO : Nat) : Int) ((vlen u : Nat) : Int) = false
    rw [hol, hul, cmp_neq]; simp
  refine h_loop (fun xs h' => ∃ b : Nat, xs = [natV b] ∧ b ≤ B'.length ∧ g4.le h') (fun xs h' => B'.length - (vi (gv xs 0)).toNat) ⟨0, rfl, Nat.zero_le _, H.le_refl _⟩ ?_
  rintro xs g5 J - ⟨b, rfl, hb, l5⟩ hJ
  simp only [List.cons_append, List.nil_append]
  refine h_ite (fun hc => ?_) (fun _ => ⟨rfl, hle3.trans (l4.trans l5), rfl⟩)
  replace hc : cmpOp .lss (b : Int) ((vlen u : Nat) : Int) = true := hc
  rw [hul, cmp_lss, decide_eq_true_eq] at hc
  have hbN : b < B'.length := by omega
  have hbx := List.getElem?_eq_getElem hbN
  have hbm := List.getElem_mem hbN
  generalize B'[b] = bk at hbx hbm
  obtain ⟨x, hx⟩ : ∃ x, L[b]? = some x := ⟨_, List.getElem?_eq_getElem (by rw [hLl]; exact hbN)⟩
  obtain ⟨cs, ⟨w, rfl, hw⟩, hrd⟩ := (SlAt.le blkC_mono l5 hua4).get b bk hbx
  obtain ⟨c, f, hF, hcf, hcr⟩ := (Ko.grow l5).read hx
  refine ⟨fun _ => nd (vx := u) rfl rfl hul hbN, h_load (w :: endC bk.en) ⟨hw.fit, ⟨_, rfl⟩, ⟨_, rfl⟩, ⟨_, rfl⟩, ⟨_, rfl⟩, trivial⟩ (fun _ => hrd) ⟨fun _ => nd (vx := vO) rfl rfl hol hbN, h_load [c] ⟨hcf, trivial⟩ (fun _ => hcr) ?_⟩⟩
  refine h_call0 (s33 hw hF (W.reg bk hbm)) ?_
  rintro vh g6 Kh
  have l6 := Kh.le
  have hhl : vlen vh = bk.ins.length := by rw [Kh.len, behL_len]
  have hwl := hw.len
  refine ⟨[vh], ⟨Kh.fit, trivial⟩, rfl, fun _ => nd (vx := u) rfl rfl hul hbN, h_load [w] ⟨hw.fit, trivial⟩ (fun _ => ?_) ?_⟩
  · intro i z hi
    obtain ⟨rfl, rfl⟩ := get_one hi
    have := (hrd.le l6) 0 z rfl
    rw [show PE.den _ _ = ((vaddr u).add (b * 5)).add 0 from rfl, add_add]
    rw [add_add] at this
    exact this
  simp only [endC, List.cons_append, List.nil_append]
  refine iteF ?_ ?_
  · show cmpOp .neq ((vlen vh : Nat) : Int) ((vlen w : Nat) : Int) = false
    rw [hhl, hwl, cmp_neq]; simp
  have l56 := l5.trans l6
  refine h_loop (fun xs h' => ∃ v : Nat, xs = [natV v] ∧ v ≤ V ∧ g6.le h') (fun xs h' => V - (vi (gv xs 0)).toNat) ⟨0, rfl, Nat.zero_le _, H.le_refl _⟩ ?_
  rintro xs g7 J7 - ⟨v, rfl, hv, l7⟩ hJ7
  simp only [List.cons_append, List.nil_append]
  refine h_ite (fun hc7 => ?_) (fun hc7 => ?_)
  · replace hc7 : cmpOp .lss (v : Int) (V : Int) = true := hc7
    rw [cmp_lss, decide_eq_true_eq] at hc7
    have l47 := l56.trans l7
    have hua7 := SlAt.le blkC_mono l47 hua4
    -- ahead of the block
    obtain ⟨c1, t1, r1, q1⟩ := Ki.has (inP_at hx) (x := v) (by omega)
    refine ⟨fun _ => nd (vx := vI) rfl rfl hil hbN, h_load [c1] ⟨t1, trivial⟩ (fun _ => r1.le l47) ?_⟩
    simp only [List.cons_append, List.nil_append]
    refine h_call0 (q1 l47) ?_
    rintro _ g8 ⟨e8, rfl⟩
    have e8' := e8.symm
    subst e8'
    refine ⟨[.bool (blkP B' b x v)], ⟨⟨_, rfl⟩, trivial⟩, rfl, ?_⟩
    simp only [List.cons_append, List.nil_append]
    refine h_call0 (s34 (b := b) (k := 0) (v := v) hua7 hO hSm (by omega) hbx (Nat.zero_le _)) ?_
    rintro _ g9 ⟨l9, a, rfl, ha⟩
    rw [List.drop_zero, ← tkB_at hbx, ndAt_zero hbN] at ha
    have ea : a = blkP B' b x v := by
      rw [Bool.eq_iff_iff, ha, blkP_taken hbN]
      constructor
      · intro q
        cases q with
        | use _ q => exact .inl q
        | on _ q q1 q2 => exact .inr ⟨q, (out_nd hO hsol hx).2 ⟨_, q1, q2⟩⟩
      · rintro (q | ⟨q1, q2⟩)
        · exact .use hbN q
        · obtain ⟨a', z1, z2⟩ := (out_nd hO hsol hx).1 q2
          exact .on hbN q1 z1 z2
    rw [← ea]
    have l49 := l47.trans l9
    -- behind it
    obtain ⟨c2, t2, r2, q2⟩ := Ko.has hx (x := v) (by omega)
    refine ⟨[.bool a], ⟨⟨_, rfl⟩, trivial⟩, rfl, fun _ => nd (vx := vO) rfl rfl hol hbN, h_load [c2] ⟨t2, trivial⟩ (fun _ => r2.le l49) (iteT ?_ ?_)⟩
    · have : vb ((X.ite (.var 23) (.not (.var 24)) (.var 24)).den [.int .u8 p0, .int .u8 p1, .int .u8 p2, vs, vm, .bool true, .int .i64 (madeP p0), .int .i64 (V : Int), u, u, vI, vO, natV b, w, .int .u8 bk.en.kind, .int .i64 bk.en.a, .int .i64 bk.en.to, .int .i64 bk.en.el, c, vh, w, natV v, c1, .bool a, .bool a, c2]) = false := ite_same rfl rfl
      show (!vb ((X.ite (.var 23) (.not (.var 24)) (.var 24)).den [.int .u8 p0, .int .u8 p1, .int .u8 p2, vs, vm, .bool true, .int .i64 (madeP p0), .int .i64 (V : Int), u, u, vI, vO, natV b, w, .int .u8 bk.en.kind, .int .i64 bk.en.a, .int .i64 bk.en.to, .int .i64 bk.en.el, c, vh, w, natV v, c1, .bool a, .bool a, c2])) = true
      rw [this]; rfl
    simp only [List.cons_append, List.nil_append]
    refine h_call0 (q2 l49) ?_
    rintro _ g10 ⟨e10, rfl⟩
    have e10' := e10.symm
    subst e10'
    refine ⟨[.bool (x v)], ⟨⟨_, rfl⟩, trivial⟩, rfl, ?_⟩
    simp only [List.cons_append, List.nil_append]
    refine h_call0 (s35 (b := b) (v := v) (SlAt.le blkC_mono l9 hua7) hO hSm (by omega) hbN) ?_
    rintro _ g11 ⟨l11, a2, rfl, ha2⟩
    have ea2 : a2 = x v := by rw [Bool.eq_iff_iff, ha2, out_nd hO hsol hx]
    rw [← ea2]
    have l411 := l49.trans l11
    have l611 := (l7.trans l9).trans l11
    refine ⟨[.bool a2], ⟨⟨_, rfl⟩, trivial⟩, rfl, iteF (ite_same rfl rfl) ?_⟩
    simp only [List.cons_append, List.nil_append]
    -- behind each instruction
    refine h_loop (fun xs h' => ∃ k : Nat, xs = [natV k] ∧ k ≤ bk.ins.length ∧ g11.le h') (fun xs h' => bk.ins.length - (vi (gv xs 0)).toNat) ⟨0, rfl, Nat.zero_le _, H.le_refl _⟩ ?_
    rintro xs g12 J12 - ⟨k, rfl, hk, l12⟩ hJ12
    simp only [List.cons_append, List.nil_append]
    refine h_ite (fun hc12 => ?_) (fun hc12 => ?_)
    · replace hc12 : cmpOp .lss (k : Int) ((vlen vh : Nat) : Int) = true := hc12
      rw [hhl, cmp_lss, decide_eq_true_eq] at hc12
      have hkl : k < bk.ins.length := by omega
      obtain ⟨c3, t3, r3, q3⟩ := Kh.has (behL_at (p := topP bk x) hkl) (x := v) (by omega)
      have l612 := l611.trans l12
      have l412 := l411.trans l12
      have hil2 := (W.reg bk hbm).len
      refine ⟨fun _ => nd (vx := vh) rfl rfl hhl hkl, h_load [c3] ⟨t3, trivial⟩ (fun _ => r3.le l612) ?_⟩
      simp only [List.cons_append, List.nil_append]
      refine h_call0 (q3 l612) ?_
      rintro _ g13 ⟨e13, rfl⟩
      have e13' := e13.symm
      subst e13'
      obtain ⟨z, hz⟩ : ∃ z, z = (bk.ins.drop (k + 1)).foldr backP (topP bk x) v := ⟨_, rfl⟩
      rw [← hz]
      refine ⟨[.bool z], ⟨⟨_, rfl⟩, trivial⟩, rfl, ?_⟩
      simp only [List.cons_append, List.nil_append]
      refine h_call0 (Q := fun r h' => g12.le h' ∧ ∃ q : Bool, r = .bool q ∧ (q = true ↔ NdAt B' v b (takenM bk.en v (bk.ins.drop (k + 1))))) ?_ ?_
      · have := s34 (b := b) (k := k + 1) (v := v) (SlAt.le blkC_mono l412 hua4) hO hSm (by omega) hbx (by omega)
        rw [show natV (k + 1) = .int .i64 (intOp .add .i64 (k : Int) 1) by rw [int_add_one (n := 1000000) (by omega) (by omega)]] at this
        exact this
      rintro _ g14 ⟨l14, a3, rfl, ha3⟩
      have ea3 : a3 = z := by
        rw [Bool.eq_iff_iff, ha3, hz, foldr_taken, NdAt, out_nd hO hsol hx]
      rw [← ea3]
      refine ⟨[.bool a3], ⟨⟨_, rfl⟩, trivial⟩, rfl, iteF (ite_same rfl rfl) ?_⟩
      show J12 [.int .i64 (intOp .add .i64 (k : Int) 1)] _
      rw [int_add_one (n := 1000000) (by omega) (by omega)]
      refine hJ12 _ _ ⟨k + 1, rfl, by omega, l12.trans l14⟩ ?_
      simp only [gv_zero, vi_int]; omega
    · show J7 [.int .i64 (intOp .add .i64 (v : Int) 1)] _
      rw [int_add_one (n := 1000) (by omega) (by omega)]
      refine hJ7 _ _ ⟨v + 1, rfl, by omega, l611.trans l12⟩ ?_
      simp only [gv_zero, vi_int]; omega
  · show J [.int .i64 (intOp .add .i64 (b : Int) 1)] _
    rw [int_add_one (n := 1000) (by omega) (by omega)]
    refine hJ _ _ ⟨b + 1, rfl, by omega, l56.trans l7⟩ ?_
    simp only [gv_zero, vi_int]; omega
namespace liveAll
theorem own : ownKnob Tryd.prog.godebug = none := by kernel_rfl
set_option maxRecDepth 100000 in
theorem laidOut : laidOutB Tryd.prog = true := by kernel_rfl
set_option maxRecDepth 100000 in
theorem contract (H : Type) (enc : TypeId × Value → H) (W : World) (base : Nat) (args : Array Value) (ds gs : List (DataW H)) (before : List MemPlace)
    (hval : ∀ (j : Nat) t v, Tryd.f8.params[j]? = some t → args[j]? = some v → Value.okWide Tryd.prog W .any base t v)
    (hW : DataW.Whole enc Tryd.prog Tryd.f8.params.toList Rows.liveAllSpec.vars false W args.toList ds gs before) (hL : laidMetH Tryd.prog laid1 W) :
    Calls Tryd.prog 8 args W fun e W' => ∃ v, e = .returned v ∧ Rows.liveAllSpec.post enc Tryd.prog Tryd.f8 false true false false W args v W' := by
  have hW' := hW
  obtain ⟨p, q, hA, hV, rfl, hfz, hnd⟩ := hW
  rw [Tryd.params8] at hA hval
  obtain ⟨v0, vs0, d0, ds0, p0, q0, hargs, rfl, rfl, h0, r0⟩ := trodAll_cons hA
  obtain ⟨v1, vs1, d1, ds1, p1, q1, rfl, rfl, rfl, h1, r1⟩ := trodAll_cons r0
  obtain ⟨rfl, rfl, rfl⟩ := trodAll_nil r1
  obtain rfl : args = #[v0, v1] := by cases args; simp_all
  obtain ⟨cs0, rfl, -⟩ := okWide_struct Tryd.underlying24 (hval 0 24 v0 rfl rfl)
  obtain ⟨p0, p1, p2, vs, l, he0, g0, g1, g2, hs⟩ := rd_spec (Rd.of h0)
  obtain rfl : cs0 = ([Value.int .u8 p0, .int .u8 p1, .int .u8 p2, vs]).toArray := by rw [← he0]; simp [Value.cells]
  obtain ⟨a1, n1, c1, rfl⟩ := okWide_slice Tryd.underlying22 (hval 1 22 v1 rfl rfl)
  obtain ⟨mv, ml, he1, hmv, -⟩ := rd_bytes (Rd.of h1)
  obtain rfl : Value.slice a1 n1 c1 = mv := by simpa [Value.cells] using he1
  refine (law_calls (f := 8) (args := [.agg ([Value.int .u8 p0, .int .u8 p1, .int .u8 p2, vs]).toArray, .slice a1 n1 c1]) (s8 (tab_of hL) hs g0 g1 g2 hmv)).mono ?_
  rintro e' W' ⟨rfl, bel⟩
  exact ⟨_, rfl, law_post laidOut hW' rfl (of_decide_eq_true (by kernel_rfl)) rfl Tryd.underlying4 rfl bel⟩
set_option maxRecDepth 100000 in
theorem lifted (os : Os) (started : os.Started) (H : Type) (enc : TypeId × Value → H) :
    ReturnsInHanded {} Tryd.checked os 8 .any (fun w args => (Rows.liveAllSpec.pre enc Tryd.prog Tryd.f8 [] false w args ∧ laidMetH Tryd.prog laid1 w) ∧ sizedMet enc Tryd.prog Tryd.f8 (OpenSpec.ofChange Rows.liveAllSpec) false w args)
      (Rows.liveAllSpec.post enc Tryd.prog Tryd.f8 false true false false) := by
  refine returnsInHanded_of_change_and (C := Tryd.checked) (X := fun w _ => laidMetH Tryd.prog laid1 w) (fun _ _ _ hh h => h.of_heap hh) own started (by kernel_rfl) Tryd.func8
    (ChangeSpec.witness_shaped (enc := enc) (C := Tryd.checked) (os := os) (X := fun w _ => laidMetH Tryd.prog laid1 w) false (World.laidAll Tryd.prog os laid1) #[.agg #[.int .u8 0, .int .u8 0, .int .u8 0, .slice none 0 0], .slice none 0 0] 8 (World.laidAll_os _ _ _)
      (World.shaped_of_ZipB (by kernel_rfl) (by kernel_rfl)) (by kernel_rfl) (by kernel_rfl) (by kernel_rfl)
      (by rw [MakeChecks.laidMetH_plain _ _ _ (by kernel_rfl)]; exact laidMet_laidAll _ (by kernel_rfl) (by kernel_rfl))) ?_
  intro W base args ds gs before hval hW _ _ hL _
  exact contract H enc W base args ds gs before hval hW hL
set_option maxRecDepth 100000 in
theorem proved : Rows.LiveAllSaid :=
  OpenClaim.holds_of_wide 8 Tryd.f8 rfl rfl rfl rfl rfl rfl rfl ⟨rfl, rfl, rfl, rfl, rfl⟩ rfl rfl rfl rfl rfl (by kernel_rfl) Tryd.func8 (by kernel_rfl)
    (of_decide_eq_true (by kernel_rfl)) (by unfold Func.isWrapper; first | (rw [if_pos (by decide +kernel)]; kernel_rfl) | (rw [if_neg (by decide +kernel)]; exact ⟨rfl, rfl⟩))
    (fun os started H enc _ => lifted os started H enc)
set_option maxRecDepth 100000 in
theorem card : Rows.LiveAllCardSaid :=
  Claim7.holds_tied_plain_at .later [] [.data] true (true, "8ff38404af680b550b91fe5fd74526250c7ed431e07fb59fa8b09eeffdac340c") false proved (fun _ h => by cases h) (by kernel_rfl) (fun _ h => by cases h) liveAll_row_tie rfl ⟨rfl, rfl⟩ (by kernel_rfl) rfl
    (fun f fn hf hfn => by
      obtain rfl : f = 8 := Option.some.inj ((show Tryd.prog.funcNamed "outworker/outworkerlaw12.LiveAll" = some 8 by kernel_rfl).symm.trans hf) |>.symm
      obtain rfl : fn = Tryd.f8 := (Option.some.inj (Tryd.func8.symm.trans hfn)).symm
      exact ⟨by kernel_rfl, fun j t ht => by
        rw [Tryd.params8] at ht
        have hm : t ∈ [24, 22] := by simpa using Array.mem_of_getElem? ht
        have hall : ([24, 22].all fun u => !Tryd.prog.wantsStandIn u) = true := by kernel_rfl
        exact (show Tryd.prog.wantsStandIn t = false by simpa using List.all_eq_true.1 hall t hm)⟩)
    (by kernel_rfl)
end liveAll
/-- The row, under a short name, for the claim. -/
theorem liveAllHolds : Rows.LiveAllCardSaid := liveAll.card
#print axioms liveAllHolds
end Go.Proofs.YtbbicdfipheaeaaDoor
