/-
  The law FlowStays answers true. Conditions: none.
-/
import Derived.Test.YtbbicdfipheaeaaDoorR5J
import Derived.Test.YtbbicdfipheaeaaDoorR5Lay
set_option linter.unusedVariables false
set_option linter.unusedSimpArgs false
namespace Go.Proofs.YtbbicdfipheaeaaDoor
open Go Go.ChangeShapes Go.WideShapes Go.ChangeAt Go.RowKit

set_option maxRecDepth 8000 in
theorem s4 {h : H} {vs va vc : Value} {p0 p1 p2 : Int} {l A C : List Int} {back : Bool} (ht : Tab h) (hs : BytesAt h vs l) (h0 : 0 ≤ p0) (h1 : 0 ≤ p1) (h2 : 0 ≤ p2) (hA : BytesAt h va A) (hA2 : vcap va ≤ maxLen) (hC : BytesAt h vc C) (hC2 : vcap vc ≤ maxLen) :
    CallsA Tryd.prog 4 (fun _ => [.agg #[.int .u8 p0, .int .u8 p1, .int .u8 p2, vs], va, vc, .bool back]) [] h (Ret fun r h' => h.le h' ∧ r = .bool true) := by
  refine c4 (G := [.int .u8 p0, .int .u8 p1, .int .u8 p2, vs, va, vc, .bool back]) ⟨⟨_, rfl⟩, ⟨_, rfl⟩, ⟨_, rfl⟩, hs.fit, hA.fit, hC.fit, ⟨_, rfl⟩, trivial⟩ ?_
  refine open_holds hs h0 h1 h2 hA (bytes_cap hA hA2) hC (bytes_cap hC hC2) ?_
  intro B g u vl vm ad al am S M hB hB1 hB2 hle hu rd rl rm kS kM hM hS
  have htg := ht.le hle
  have hul := hu.len
  have hSs := hS.smallT
  have hMs := hM.smallT
  have hfst : ∀ {h' b}, g.le h' → b < B.length → CallsA Tryd.prog 24 (fun _ => [natV b, .pointer (some al)]) [] h' (Ret fun v h2 => h'.le h2 ∧ ∃ c f, v = .agg #[c] ∧ SetF h2 [c] (ofP (rowAt S b)) f ∧ Fresh h' f ∧ f.Nodup) := fun {h' b} hl hb =>
    s24 hb hSs (rl.le hl) (MarkAt.le hl kS)
  have hps : ∀ {h' b p c f}, g.le h' → b < B.length → SetF h' [c] p f → CallsA Tryd.prog 25 (fun _ => [natV b, .agg #[c], .pointer (some al), .pointer (some am)]) [] h' (Ret fun v h2 => h'.le h2 ∧ ∃ c' f', v = .agg #[c'] ∧ SetF h2 [c'] (passP S M b p) f' ∧ Fresh h' f' ∧ f'.Nodup) := fun {h' b p c f} hl hb hp =>
    s25 (htg.le hl) hb hSs hMs (rl.le hl) (rm.le hl) (MarkAt.le hl kS) (MarkAt.le hl kM) hp
  have hsolve : CallsA Tryd.prog 15 (fun _ => [.agg #[.int .i64 ((vlen u : Nat) : Int), aheadV back ad, .func (.func 24) #[] #[.pointer (some al)], .func (.func 17) #[] #[], .func (.func 25) #[] #[.pointer (some al), .pointer (some am)]]]) [] g
      (Ret fun r h' => g.le h' ∧ ∃ l fp, Solved (flS B back (fun b => ofP (rowAt S b)) S M) l ∧ SlF 39 1 SetF h' r l fp ∧ Fresh g fp ∧ fp.Nodup) := by
    rw [hul]
    exact s15 (F := flS B back (fun b => ofP (rowAt S b)) S M) (flS_good hB (fun {b} _ => hSs.bnd b) hMs)
      (flS_C htg rd hu hB (by omega) hSs hMs rl rm kS kM (.inr ⟨_, _, _, rfl⟩) (fun {h' b} hl hb => .of (enter (by decide)) (hfst hl hb)) (by decide) hps) (by show B.length ≤ 1000; omega) (z0 := fun _ => false) (fun _ => zero_set)
  refine h_call0 hsolve ?_
  rintro vg g2 ⟨l2, L, fg, hsol, hgot, hfg, hng⟩
  have hgl : vlen vg = L.length := SlF.len (by omega) hgot
  have hLl : L.length = B.length := hsol.len
  have hgfit : Fits .sl vg := by obtain ⟨L, fr, _, _, h4, _⟩ := hgot; exact h4.row0.fit
  refine ⟨[vg], ⟨hgfit, trivial⟩, rfl, ?_⟩
  simp only [List.cons_append, List.nil_append]
  refine h_loop (fun xs h' => ∃ (b : Nat), xs = [natV b] ∧ b ≤ B.length ∧ SetsSt g h' vg L)
    (fun xs h' => B.length - (vi (gv xs 0)).toNat) ⟨0, rfl, Nat.zero_le _, ⟨fg, hgot, hng, l2, hfg⟩⟩ ?_
  rintro xs g3 J - ⟨b, rfl, hb, K3⟩ hJ
  simp only [List.cons_append, List.nil_append]
  refine h_ite (fun hc => ?_) (fun hc => ?_)
  · replace hc : cmpOp .lss (b : Int) ((vlen u : Nat) : Int) = true := hc
    rw [hul, cmp_lss, decide_eq_true_eq] at hc
    have hbN : b < B.length := by omega
    obtain ⟨x, hx⟩ : ∃ x, L[b]? = some x := ⟨_, List.getElem?_eq_getElem (by rw [hLl]; exact hbN)⟩
    refine h_callv (ahead_calls back (rd.le K3.le) (SlAt.le blkC_mono K3.le hu) hB (by omega) hbN) ?_
    rintro v g4 ⟨l4, hv⟩
    refine ⟨[v], ⟨hv.ints.fit, trivial⟩, rfl, ?_⟩
    simp only [List.cons_append, List.nil_append]
    have hvl := hv.ints.len
    rw [List.length_map] at hvl
    have hfl := frmB_len back (B := B) (by omega) b
    obtain ⟨g1, hg1, hv1, K4⟩ := K3.beside l4 hv
    refine h_loop (fun xs h' => ∃ (j : Nat), xs = [natV j] ∧ j ≤ (frmB back B b).length ∧ SetsSt g1 h' vg L)
      (fun xs h' => (frmB back B b).length - (vi (gv xs 0)).toNat) ⟨0, rfl, Nat.zero_le _, K4⟩ ?_
    rintro xs g5 J5 - ⟨j, rfl, hj, K5⟩ hJ5
    simp only [List.cons_append, List.nil_append]
    have l5 : g.le g5 := hg1.trans K5.le
    refine h_ite (fun hc5 => ?_) (fun hc5 => ?_)
    · have hc5' : cmpOp .lss (j : Int) ((vlen v : Nat) : Int) = true := hc5
      replace hc5 := hc5'
      rw [hvl, cmp_lss, decide_eq_true_eq] at hc5
      have hjl : j < (frmB back B b).length := by omega
      have hxa : (frmB back B b)[j]? = some (frmB back B b)[j] := List.getElem?_eq_getElem hjl
      have hxm : (frmB back B b)[j] ∈ frmB back B b := List.getElem_mem _
      generalize (frmB back B b)[j] = a at hxa hxm
      have haN := frmB_lt hB hxm
      obtain ⟨y, hy⟩ : ∃ y, L[a]? = some y := ⟨_, List.getElem?_eq_getElem (by rw [hLl]; exact haN)⟩
      have hxi : ((frmB back B b).map Int.ofNat)[j]? = some (a : Int) := by rw [List.getElem?_map, hxa]; rfl
      obtain ⟨c, f, hcF, hcf, hcr⟩ := K5.read hy
      have ndg : ∀ {D : List Value} {q b : Nat}, gv D q = natV b → gv D 16 = vg → b < B.length → needs D [(.cmp .geq (.var q) (.lit 0)), (.cmp .lss (.var q) (.len 16))] := fun {D q b} e1 e2 e3 => by
        simp only [needs, X.den, e1, e2, hgl, hLl, vb_bool, vi_int, and_true]
        exact ⟨ge0 b, ltN e3⟩
      refine ⟨fun _ => ⟨ge0 j, hc5', trivial⟩, h_load [natV a] ⟨⟨_, rfl⟩, trivial⟩ (fun _ => (hv1.le K5.le).read hxi) ⟨fun _ => ndg rfl rfl hbN, fun _ => ndg rfl rfl haN, h_load [c] ⟨hcf, trivial⟩ (fun _ => hcr) ?_⟩⟩
      simp only [List.cons_append, List.nil_append]
      refine h_call0 (hps l5 haN hcF) ?_
      rintro _ g6 ⟨l6, c6, f6, rfl, hF6, hf6, -⟩
      refine ⟨[c6], ⟨hF6.fit1, trivial⟩, rfl, ?_⟩
      simp only [List.cons_append, List.nil_append]
      refine h_call0 (K5.join (htg.le (l5.trans l6)) l6 hx hF6 (fun fp hlv _ z hz hz' => by have := hlv z hz'; rw [hf6 z hz] at this; cases this) (hsol.closed hbN hxm hx hy)) ?_
      rintro _ g7 ⟨rfl, K7⟩
      refine ⟨[.bool false], ⟨⟨_, rfl⟩, trivial⟩, rfl, iteF rfl ?_⟩
      show J5 [.int .i64 (intOp .add .i64 (j : Int) 1)] _
      rw [int_add_one (n := 1000) (by omega) (by omega)]
      refine hJ5 _ _ ⟨j + 1, rfl, by omega, K7⟩ ?_
      simp only [gv_zero, vi_int]; omega
    · have K6 := K5.weak hg1
      refine h_call0 (hfst K6.le hbN) ?_
      rintro _ g6 ⟨l6, c6, f6, rfl, hF6, hf6, -⟩
      refine ⟨[c6], ⟨hF6.fit1, trivial⟩, rfl, ?_⟩
      simp only [List.cons_append, List.nil_append]
      refine ⟨fun _ => ⟨ge0 b, ?_, trivial⟩, ?_⟩
      · show cmpOp .lss (b : Int) ((vlen vg : Nat) : Int) = true
        rw [hgl, hLl]; exact ltN hbN
      refine h_call0 (K6.join (htg.le (l5.trans l6)) l6 hx hF6 (fun fp hlv _ z hz hz' => by have := hlv z hz'; rw [hf6 z hz] at this; cases this) (hsol.fst hx)) ?_
      rintro _ g7 ⟨rfl, K7⟩
      refine ⟨[.bool false], ⟨⟨_, rfl⟩, trivial⟩, rfl, iteF rfl ?_⟩
      show J [.int .i64 (intOp .add .i64 (b : Int) 1)] _
      rw [int_add_one (n := 1000) (by omega) (by omega)]
      refine hJ _ _ ⟨b + 1, rfl, by omega, K7⟩ ?_
      simp only [gv_zero, vi_int]; omega
  · refine ⟨rfl, hle.trans K3.le, ?_⟩
    show Value.bool (cmpOp .eql ((vlen vg : Nat) : Int) ((vlen u : Nat) : Int)) = _
    rw [hgl, hLl, hul, cmp_eql]; simp
namespace flowStays
theorem own : ownKnob Tryd.prog.godebug = none := by kernel_rfl
set_option maxRecDepth 100000 in
theorem laidOut : laidOutB Tryd.prog = true := by kernel_rfl
set_option maxRecDepth 100000 in
theorem contract (H : Type) (enc : TypeId × Value → H) (W : World) (base : Nat) (args : Array Value) (ds gs : List (DataW H)) (before : List MemPlace)
    (hval : ∀ (j : Nat) t v, Tryd.f4.params[j]? = some t → args[j]? = some v → Value.okWide Tryd.prog W .any base t v)
    (hW : DataW.Whole enc Tryd.prog Tryd.f4.params.toList Rows.flowStaysSpec.vars false W args.toList ds gs before) (hL : laidMetH Tryd.prog laid1 W) :
    Calls Tryd.prog 4 args W fun e W' => ∃ v, e = .returned v ∧ Rows.flowStaysSpec.post enc Tryd.prog Tryd.f4 false true false false W args v W' := by
  have hW' := hW
  obtain ⟨p, q, hA, hV, rfl, hfz, hnd⟩ := hW
  rw [Tryd.params4] at hA hval
  obtain ⟨v0, vs0, d0, ds0, p0, q0, hargs, rfl, rfl, h0, r0⟩ := trodAll_cons hA
  obtain ⟨v1, vs1, d1, ds1, p1, q1, rfl, rfl, rfl, h1, r1⟩ := trodAll_cons r0
  obtain ⟨v2, vs2, d2, ds2, p2, q2, rfl, rfl, rfl, h2, r2⟩ := trodAll_cons r1
  obtain ⟨v3, vs3, d3, ds3, p3, q3, rfl, rfl, rfl, h3, r3⟩ := trodAll_cons r2
  obtain ⟨rfl, rfl, rfl⟩ := trodAll_nil r3
  obtain rfl : args = #[v0, v1, v2, v3] := by cases args; simp_all
  obtain ⟨cs0, rfl, -⟩ := okWide_struct Tryd.underlying24 (hval 0 24 v0 rfl rfl)
  obtain ⟨p0, p1, p2, vs, l, he0, g0, g1, g2, hs⟩ := rd_spec (Rd.of h0)
  obtain rfl : cs0 = ([Value.int .u8 p0, .int .u8 p1, .int .u8 p2, vs]).toArray := by rw [← he0]; simp [Value.cells]
  obtain ⟨a1, n1, c1, rfl⟩ := okWide_slice Tryd.underlying22 (hval 1 22 v1 rfl rfl)
  obtain ⟨av, al, he1, hav, hac⟩ := rd_bytes (Rd.of h1)
  obtain rfl : Value.slice a1 n1 c1 = av := by simpa [Value.cells] using he1
  obtain ⟨a2, n2, c2, rfl⟩ := okWide_slice Tryd.underlying22 (hval 2 22 v2 rfl rfl)
  obtain ⟨kv, kl, he2, hkv, hkc⟩ := rd_bytes (Rd.of h2)
  obtain rfl : Value.slice a2 n2 c2 = kv := by simpa [Value.cells] using he2
  obtain ⟨bk, rfl, -⟩ := open_bool Tryd.underlying4 (hval 3 4 v3 rfl rfl) h3
  refine (law_calls (f := 4) (args := [.agg ([Value.int .u8 p0, .int .u8 p1, .int .u8 p2, vs]).toArray, .slice a1 n1 c1, .slice a2 n2 c2, .bool bk]) (s4 (tab_of hL) hs g0 g1 g2 hav hac hkv hkc)).mono ?_
  rintro e' W' ⟨rfl, bel⟩
  exact ⟨_, rfl, law_post laidOut hW' rfl (of_decide_eq_true (by kernel_rfl)) rfl Tryd.underlying4 rfl bel⟩
set_option maxRecDepth 100000 in
theorem lifted (os : Os) (started : os.Started) (H : Type) (enc : TypeId × Value → H) :
    ReturnsInHanded {} Tryd.checked os 4 .any (fun w args => (Rows.flowStaysSpec.pre enc Tryd.prog Tryd.f4 [] false w args ∧ laidMetH Tryd.prog laid1 w) ∧ sizedMet enc Tryd.prog Tryd.f4 (OpenSpec.ofChange Rows.flowStaysSpec) false w args)
      (Rows.flowStaysSpec.post enc Tryd.prog Tryd.f4 false true false false) := by
  refine returnsInHanded_of_change_and (C := Tryd.checked) (X := fun w _ => laidMetH Tryd.prog laid1 w) (fun _ _ _ hh h => h.of_heap hh) own started (by kernel_rfl) Tryd.func4
    (ChangeSpec.witness_shaped (enc := enc) (C := Tryd.checked) (os := os) (X := fun w _ => laidMetH Tryd.prog laid1 w) false (World.laidAll Tryd.prog os laid1) #[.agg #[.int .u8 0, .int .u8 0, .int .u8 0, .slice none 0 0], .slice none 0 0, .slice none 0 0, .bool false] 8 (World.laidAll_os _ _ _)
      (World.shaped_of_ZipB (by kernel_rfl) (by kernel_rfl)) (by kernel_rfl) (by kernel_rfl) (by kernel_rfl)
      (by rw [MakeChecks.laidMetH_plain _ _ _ (by kernel_rfl)]; exact laidMet_laidAll _ (by kernel_rfl) (by kernel_rfl))) ?_
  intro W base args ds gs before hval hW _ _ hL _
  exact contract H enc W base args ds gs before hval hW hL
set_option maxRecDepth 100000 in
theorem proved : Rows.FlowStaysSaid :=
  OpenClaim.holds_of_wide 4 Tryd.f4 rfl rfl rfl rfl rfl rfl rfl ⟨rfl, rfl, rfl, rfl, rfl⟩ rfl rfl rfl rfl rfl (by kernel_rfl) Tryd.func4 (by kernel_rfl)
    (of_decide_eq_true (by kernel_rfl)) (by unfold Func.isWrapper; first | (rw [if_pos (by decide +kernel)]; kernel_rfl) | (rw [if_neg (by decide +kernel)]; exact ⟨rfl, rfl⟩))
    (fun os started H enc _ => lifted os started H enc)
set_option maxRecDepth 100000 in
theorem card : Rows.FlowStaysCardSaid :=
  Claim7.holds_tied_plain_at .later [] [.data] true (true, "8ff38404af680b550b91fe5fd74526250c7ed431e07fb59fa8b09eeffdac340c") false proved (fun _ h => by cases h) (by kernel_rfl) (fun _ h => by cases h) flowStays_row_tie rfl ⟨rfl, rfl⟩ (by kernel_rfl) rfl
    (fun f fn hf hfn => by
      obtain rfl : f = 4 := Option.some.inj ((show Tryd.prog.funcNamed "outworker/outworkerlaw11.FlowStays" = some 4 by kernel_rfl).symm.trans hf) |>.symm
      obtain rfl : fn = Tryd.f4 := (Option.some.inj (Tryd.func4.symm.trans hfn)).symm
      exact ⟨by kernel_rfl, fun j t ht => by
        rw [Tryd.params4] at ht
        have hm : t ∈ [24, 22, 22, 4] := by simpa using Array.mem_of_getElem? ht
        have hall : ([24, 22, 22, 4].all fun u => !Tryd.prog.wantsStandIn u) = true := by kernel_rfl
        exact (show Tryd.prog.wantsStandIn t = false by simpa using List.all_eq_true.1 hall t hm)⟩)
    (by kernel_rfl)
end flowStays
/-- The row, under a short name, for the claim. -/
theorem flowStaysHolds : Rows.FlowStaysCardSaid := flowStays.card
#print axioms flowStaysHolds
end Go.Proofs.YtbbicdfipheaeaaDoor
