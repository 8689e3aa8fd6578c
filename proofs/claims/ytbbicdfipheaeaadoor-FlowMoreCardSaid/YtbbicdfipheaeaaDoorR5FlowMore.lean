/-
  The law FlowMore answers true. Conditions: none.
-/
import Derived.Test.YtbbicdfipheaeaaDoorR5K
import Derived.Test.YtbbicdfipheaeaaDoorR5Lay
set_option linter.unusedVariables false
set_option linter.unusedSimpArgs false
namespace Go.Proofs.YtbbicdfipheaeaaDoor
open Go Go.ChangeShapes Go.WideShapes Go.ChangeAt Go.RowKit

theorem zero_u8 : (zeroCells Tryd.prog 5).getD [] = [.int .u8 0] := by kernel_rfl
theorem app_bytes {R : Value → List (List Value) → H → Prop} {G : List Value} {L : Lv} {h : H} {d s : Nat} {vd vs : Value} {l m : List Int} {f : List Nat} {k : Out} (hd : gv G d = vd) (hs : gv G s = vs) (kd : RowF h 5 1 vd (l.map (.int .u8)) f) (ks : BytesAt h vs m) (hb : l.length + m.length ≤ 140737488355328)
    (K : ∀ v h' f', RowF h' 5 1 v ((l ++ m).map (.int .u8)) f' → KeptH h h' f → (∀ b ∈ f', b ∈ f ∨ h b = none) → holds Tryd.prog R k (G ++ [v]) L h') :
    holds Tryd.prog R (.app 5 1 1 (.val d) (.sl (.val s)) k) G L h := by
  have hsrc := ks.srcs
  have hl := len_of_rowF kd
  rw [List.length_map] at hl
  refine ⟨m.map (.int .u8), m.length, ⟨by simp, by simp [Value.oneCell'], ?_⟩, ?_⟩
  · show (match gv G s with | .slice (some b) n _ => m.length = n ∧ Reads h b _ | .slice none n _ => m.length = n ∧ n = 0 | _ => False)
    rw [hs]; exact hsrc
  · show AppSpec h 5 1 1 _ (gv G d) _ _ _
    rw [hd]
    refine app_rowF kd (by simp) (by rw [zero_u8]; rfl) (by rw [hl]; omega) fun v' h' f' m1 m2 m3 m4 => ?_
    rw [← List.map_append] at m1
    exact K v' h' f' m1 m3 fun b hb => by
      rcases m4 with rfl | ⟨z, rfl, hz⟩
      · exact .inl hb
      · rw [List.mem_singleton] at hb; subst hb; exact .inr hz
set_option maxRecDepth 8000 in
theorem s5 {h : H} {vs va vk vc : Value} {p0 p1 p2 : Int} {l A K C : List Int} {back : Bool} (ht : Tab h) (hs : BytesAt h vs l) (h0 : 0 ≤ p0) (h1 : 0 ≤ p1) (h2 : 0 ≤ p2) (hA : BytesAt h va A) (hA2 : vcap va ≤ maxLen) (hK : BytesAt h vk K) (hK2 : vcap vk ≤ reachBytes) (hC : BytesAt h vc C) (hC2 : vcap vc ≤ maxLen) :
    CallsA Tryd.prog 5 (fun _ => [.agg #[.int .u8 p0, .int .u8 p1, .int .u8 p2, vs], va, vk, vc, .bool back]) [] h (Ret fun r h' => h.le h' ∧ r = .bool true) := by
  refine c5 (G := [.int .u8 p0, .int .u8 p1, .int .u8 p2, vs, va, vk, vc, .bool back]) ⟨⟨_, rfl⟩, ⟨_, rfl⟩, ⟨_, rfl⟩, hs.fit, hA.fit, hK.fit, hC.fit, ⟨_, rfl⟩, trivial⟩ ?_
  obtain ⟨hB, hB1, hB7⟩ := made_B h0 h1 h2 hs.inB
  have hAl := bytes_cap hA hA2
  have hCl := bytes_cap hC hC2
  have hKl : K.length ≤ 140737488351232 := by
    have e := hK.len
    obtain ⟨a, n, c, rfl, _, hn⟩ := hK.fit
    simp only [vlen_sl, vcap_sl] at e hK2
    have : reachBytes = 140737488351232 := rfl
    omega
  -- the variables
  intro b1 hb1
  have r1 := var_new (h := h) (b := b1) (e := 22) (x := vc)
  have l1 : h.le (h.put b1 (.cells [vc].toArray 22 (0, 0))) := H.le_put hb1
  show holds _ _ _ [.int .u8 p0, .int .u8 p1, .int .u8 p2, vs, va, vk, vc, .bool back, .pointer (some ⟨b1, 0, none⟩)] _ (h.put b1 (.cells [vc].toArray 22 (0, 0)))
  generalize h.put b1 (.cells [vc].toArray 22 (0, 0)) = g1 at r1 l1 ⊢
  intro b2 hb2
  have r2 := var_new (h := g1) (b := b2) (e := 4) (x := .bool back)
  have l2 : g1.le (g1.put b2 (.cells [.bool back].toArray 4 (0, 0))) := H.le_put hb2
  show holds _ _ _ [.int .u8 p0, .int .u8 p1, .int .u8 p2, vs, va, vk, vc, .bool back, .pointer (some ⟨b1, 0, none⟩), .pointer (some ⟨b2, 0, none⟩)] _ (g1.put b2 (.cells [.bool back].toArray 4 (0, 0)))
  generalize g1.put b2 (.cells [.bool back].toArray 4 (0, 0)) = g2 at r2 l2 ⊢
  have rc := (var_read r1).le l2
  have rb := var_read r2
  have le2 := l1.trans l2
  refine h_call0 s11 ?_
  rintro _ g3 ⟨l3, rfl⟩
  refine ⟨[.bool true], ⟨⟨_, rfl⟩, trivial⟩, rfl, iteF rfl ?_⟩
  simp only [List.cons_append, List.nil_append]
  have le3 := le2.trans l3
  refine h_call0 (s12 (p0 := p0) (p1 := p1) (p2 := p2) (hs.le le3) h0 h1 h2) ?_
  rintro _ g4 ⟨hk4, u, fp, rfl, hu, hfp, hnd⟩
  generalize madeB p0 p1 p2 l = B at hB hB1 hB7 hu
  have hua := hu.at
  have l4 := hk4.le_nil
  refine ⟨[.int .i64 (madeP p0), .int .i64 (madeV p0 p1), u], ⟨⟨_, rfl⟩, ⟨_, rfl⟩, hua.fit, trivial⟩, rfl, ?_⟩
  simp only [List.cons_append, List.nil_append]
  intro b3 hb3
  have r3 := var_new (h := g4) (b := b3) (e := 26) (x := .slice none 0 0)
  have l5 : g4.le (g4.put b3 (.cells [Value.slice none 0 0].toArray 26 (0, 0))) := H.le_put hb3
  obtain ⟨w3, s3, k3⟩ := var_set (y := u) r3
  have l5 := k3.le l5 (fun b hb => by rw [List.mem_singleton] at hb; subst hb; exact hb3)
  refine h_store ⟨b3, 0, none⟩ [u] rfl rfl w3 ?_
  show holds _ _ _ [.int .u8 p0, .int .u8 p1, .int .u8 p2, vs, va, vk, vc, .bool back, .pointer (some ⟨b1, 0, none⟩), .pointer (some ⟨b2, 0, none⟩), .bool true, .int .i64 (madeP p0), .int .i64 (madeV p0 p1), u, .pointer (some ⟨b3, 0, none⟩)] _ ((g4.put b3 (.cells [Value.slice none 0 0].toArray 26 (0, 0))).sets ⟨b3, 0, none⟩ [u])
  generalize (g4.put b3 (.cells [Value.slice none 0 0].toArray 26 (0, 0))).sets ⟨b3, 0, none⟩ [u] = g5 at s3 l5 ⊢
  have ru := var_read s3
  have hu5 := SlAt.le blkC_mono l5 hua
  have l25 := l3.trans (l4.trans l5)
  have le5 := le2.trans l25
  have hul := hua.len
  refine h_ite (fun _ => ⟨rfl, le5, rfl⟩) (fun hc => ?_)
  replace hc : cmpOp .gtr ((vlen va : Nat) : Int) 15 = false := hc
  rw [hA.len, cmp_gtr, decide_eq_false_iff_not] at hc
  have hA15 : A.length ≤ 15 := by omega
  refine h_call0 (s26 (ht.le le5) ru (rc.le l25) (rb.le l25) hu5 hB hB1 (by omega) (hA.le le5) hAl (hC.le le5) hCl) ?_
  rintro vf g6 ⟨l6, M, S, F, ff, hM, hS, solF, kF, fF, nF⟩
  have hfl : vlen vf = F.length := SlF.len (by omega) kF
  have hFl : F.length = B.length := solF.len
  have hffit : Fits .sl vf := by obtain ⟨L, fr, _, _, h4, _⟩ := kF; exact h4.row0.fit
  refine ⟨[vf], ⟨hffit, trivial⟩, rfl, ?_⟩
  simp only [List.cons_append, List.nil_append]
  -- all that is added
  intro b4 hb4
  have r4 := RowF.new (h := g6) (e := 5) (sz := 1) (b := b4) (n := 0) (c := 0) (cs := []) (r := []) rfl rfl (Nat.le_refl _)
  rw [List.append_nil] at r4
  have l7 : g6.le (g6.put b4 (.cells [].toArray 5 (0, 0))) := H.le_put hb4
  show holds _ _ _ [.int .u8 p0, .int .u8 p1, .int .u8 p2, vs, va, vk, vc, .bool back, .pointer (some ⟨b1, 0, none⟩), .pointer (some ⟨b2, 0, none⟩), .bool true, .int .i64 (madeP p0), .int .i64 (madeV p0 p1), u, .pointer (some ⟨b3, 0, none⟩), vf, .slice (some ⟨b4, 0, none⟩) 0 0] _ (g6.put b4 (.cells [].toArray 5 (0, 0)))
  generalize g6.put b4 (.cells [].toArray 5 (0, 0)) = g7 at r4 l7 ⊢
  have B7 : Base g6 g7 [b4] := ⟨l7, fun z hz => by rw [List.mem_singleton] at hz; subst hz; exact hb4⟩
  have le6 := le5.trans l6
  refine app_bytes (l := []) (m := A) (vd := .slice (some ⟨b4, 0, none⟩) 0 0) (vs := va) rfl rfl r4 (hA.le (le6.trans l7)) (by simp; omega) fun v8 g8 f8 m1 m2 m3 => ?_
  have B8 := B7.step m2 m3
  simp only [List.cons_append, List.nil_append] at m1 ⊢
  refine app_bytes (l := A) (m := K) (vd := v8) (vs := vk) rfl rfl m1 (hK.le (le6.trans B8.1)) (by omega) fun v9 g9 f9 n1 n2 n3 => ?_
  have B9 := B8.step n2 n3
  simp only [List.cons_append, List.nil_append]
  have hinB : InB (A ++ K) := fun x hx => by
    rcases List.mem_append.1 hx with q | q
    · exact hA.inB x q
    · exact hK.inB x q
  have hAK := rowF_bytes8 n1 hinB
  have l59 := l6.trans B9.1
  have le9 := le5.trans l59
  refine h_call0 (s26 (ht.le le9) (ru.le l59) (rc.le (l25.trans l59)) (rb.le (l25.trans l59)) (SlAt.le blkC_mono l59 hu5) hB hB1 (by omega) hAK (by rw [List.length_append]; omega) (hC.le le9) hCl) ?_
  rintro vm g10 ⟨l10, M', S', Q, fq, hM', hS', solQ, kQ, fQ, nQ⟩
  have hql : vlen vm = Q.length := SlF.len (by omega) kQ
  have hQl : Q.length = B.length := solQ.len
  have hqfit : Fits .sl vm := by obtain ⟨L, fr, _, _, h4, _⟩ := kQ; exact h4.row0.fit
  refine ⟨[vm], ⟨hqfit, trivial⟩, rfl, ?_⟩
  simp only [List.cons_append, List.nil_append]
  have ru10 : ∀ {h' : H}, g9.le h' → Reads h' ⟨b3, 0, none⟩ [u] := fun hl => (ru.le l59).le hl
  refine h_load [u] ⟨hua.fit, trivial⟩ (fun _ => ru10 l10) ?_
  simp only [List.cons_append, List.nil_append]
  have hmore : ∀ {b : Nat} {x y : SP}, F[b]? = some x → Q[b]? = some y → ∀ n, x n = true → y n = true := fun {b x y} hx hy n hn =>
    der_in hB solQ (Der.grow (fun c q => hM.grow hM' q) (fun c q => (hS.same hS').2 q) (way_der solF.way hx hn)) hy
  refine h_loop (fun xs h' => ∃ (b : Nat), xs = [natV b] ∧ b ≤ B.length ∧ SetsSt g9 h' vm Q)
    (fun xs h' => B.length - (vi (gv xs 0)).toNat) ⟨0, rfl, Nat.zero_le _, ⟨fq, kQ, nQ, l10, fQ⟩⟩ ?_
  rintro xs g11 J - ⟨b, rfl, hb, K11⟩ hJ
  simp only [List.cons_append, List.nil_append]
  have nd : ∀ {D : List Value} {q q' b : Nat} {vx : Value}, gv D q = natV b → gv D q' = vx → vlen vx = B.length → b < B.length → needs D [(.cmp .geq (.var q) (.lit 0)), (.cmp .lss (.var q) (.len q'))] := fun {D q q' b vx} e1 e2 e3 e4 => by
    simp only [needs, X.den, e1, e2, e3, vb_bool, vi_int, and_true]
    exact ⟨ge0 b, ltN e4⟩
  refine h_ite (fun hc => ?_) (fun hc => ?_)
  · replace hc : cmpOp .lss (b : Int) ((vlen u : Nat) : Int) = true := hc
    rw [hul, cmp_lss, decide_eq_true_eq] at hc
    have hbN : b < B.length := by omega
    obtain ⟨x, hx⟩ : ∃ x, F[b]? = some x := ⟨_, List.getElem?_eq_getElem (by rw [hFl]; exact hbN)⟩
    obtain ⟨y, hy⟩ : ∃ y, Q[b]? = some y := ⟨_, List.getElem?_eq_getElem (by rw [hQl]; exact hbN)⟩
    obtain ⟨c, f, hcF, hcr, hcs⟩ := kF.get1 hx
    have l611 : g6.le g11 := B9.1.trans K11.le
    have hcl := setF_good.live hcF
    have hc11 := setF_good.agree (le_agree' l611 hcl) hcF
    refine ⟨fun _ => nd (vx := vm) rfl rfl (by rw [hql, hQl]) hbN, fun _ => nd (vx := vf) rfl rfl (by rw [hfl, hFl]) hbN, h_load [c] ⟨hcF.fit1, trivial⟩ (fun _ => hcr.le l611) ?_⟩
    simp only [List.cons_append, List.nil_append]
    refine h_call0 (K11.join ((ht.le le9).le K11.le) (H.le_refl _) hy hc11 (fun fp _ hfr z hz hz' => ?_) (hmore hx hy)) ?_
    · have := hcl z hz
      obtain ⟨o, ho⟩ := Option.isSome_iff_exists.1 this
      have := hfr z hz'
      rw [B9.1 z o ho] at this; cases this
    rintro _ g12 ⟨rfl, K12⟩
    refine ⟨[.bool false], ⟨⟨_, rfl⟩, trivial⟩, rfl, iteF rfl ?_⟩
    show J [.int .i64 (intOp .add .i64 (b : Int) 1)] _
    rw [int_add_one (n := 1000) (by omega) (by omega)]
    refine hJ _ _ ⟨b + 1, rfl, by omega, K12⟩ ?_
    simp only [gv_zero, vi_int]; omega
  · refine h_load [u] ⟨hua.fit, trivial⟩ (fun _ => ru10 K11.le) (h_load [u] ⟨hua.fit, trivial⟩ (fun _ => ru10 K11.le) ⟨rfl, le9.trans K11.le, ?_⟩)
    show Value.bool (vb (if cmpOp .eql ((vlen vf : Nat) : Int) ((vlen u : Nat) : Int) = true then _ else _)) = _
    rw [hfl, hFl, hul, cmp_eql, if_pos (by simp)]
    show Value.bool (cmpOp .eql ((vlen vm : Nat) : Int) ((vlen u : Nat) : Int)) = _
    rw [hql, hQl, hul, cmp_eql]; simp
namespace flowMore
theorem own : ownKnob Tryd.prog.godebug = none := by kernel_rfl
set_option maxRecDepth 100000 in
theorem laidOut : laidOutB Tryd.prog = true := by kernel_rfl
set_option maxRecDepth 100000 in
theorem contract (H : Type) (enc : TypeId × Value → H) (W : World) (base : Nat) (args : Array Value) (ds gs : List (DataW H)) (before : List MemPlace)
    (hval : ∀ (j : Nat) t v, Tryd.f5.params[j]? = some t → args[j]? = some v → Value.okWide Tryd.prog W .any base t v)
    (hW : DataW.Whole enc Tryd.prog Tryd.f5.params.toList Rows.flowMoreSpec.vars false W args.toList ds gs before) (hL : laidMetH Tryd.prog laid1 W) (hZ : (DataW.weightsEach Tryd.prog (Tryd.f5.params.toList ++ Rows.flowMoreSpec.plain.varTypes Tryd.prog) (ds ++ gs)).all (· ≤ reachBytes) = true) :
    Calls Tryd.prog 5 args W fun e W' => ∃ v, e = .returned v ∧ Rows.flowMoreSpec.post enc Tryd.prog Tryd.f5 false true false false W args v W' := by
  have hW' := hW
  obtain ⟨p, q, hA, hV, rfl, hfz, hnd⟩ := hW
  rw [Tryd.params5] at hA hval hZ
  obtain ⟨v0, vs0, d0, ds0, p0, q0, hargs, rfl, rfl, h0, r0⟩ := trodAll_cons hA
  obtain ⟨v1, vs1, d1, ds1, p1, q1, rfl, rfl, rfl, h1, r1⟩ := trodAll_cons r0
  obtain ⟨v2, vs2, d2, ds2, p2, q2, rfl, rfl, rfl, h2, r2⟩ := trodAll_cons r1
  obtain ⟨v3, vs3, d3, ds3, p3, q3, rfl, rfl, rfl, h3, r3⟩ := trodAll_cons r2
  obtain ⟨v4, vs4, d4, ds4, p4, q4, rfl, rfl, rfl, h4, r4⟩ := trodAll_cons r3
  obtain ⟨rfl, rfl, rfl⟩ := trodAll_nil r4
  obtain rfl : args = #[v0, v1, v2, v3, v4] := by cases args; simp_all
  obtain ⟨cs0, rfl, -⟩ := okWide_struct Tryd.underlying24 (hval 0 24 v0 rfl rfl)
  obtain ⟨p0, p1, p2, vs, l, he0, g0, g1, g2, hs⟩ := rd_spec (Rd.of h0)
  obtain rfl : cs0 = ([Value.int .u8 p0, .int .u8 p1, .int .u8 p2, vs]).toArray := by rw [← he0]; simp [Value.cells]
  obtain ⟨a1, n1, c1, rfl⟩ := okWide_slice Tryd.underlying22 (hval 1 22 v1 rfl rfl)
  obtain ⟨av, al, he1, hav, hac⟩ := rd_bytes (Rd.of h1)
  obtain rfl : Value.slice a1 n1 c1 = av := by simpa [Value.cells] using he1
  obtain ⟨a2, n2, c2, rfl⟩ := okWide_slice Tryd.underlying22 (hval 2 22 v2 rfl rfl)
  obtain ⟨mv, ml, he2, hmv, hmc⟩ := rd_bytes (Rd.of h2)
  obtain rfl : Value.slice a2 n2 c2 = mv := by simpa [Value.cells] using he2
  obtain ⟨a3, n3, c3, rfl⟩ := okWide_slice Tryd.underlying22 (hval 3 22 v3 rfl rfl)
  obtain ⟨kv, kl, he3, hkv, hkc⟩ := rd_bytes (Rd.of h3)
  obtain rfl : Value.slice a3 n3 c3 = kv := by simpa [Value.cells] using he3
  obtain ⟨bk, rfl, -⟩ := open_bool Tryd.underlying4 (hval 4 4 v4 rfl rfl) h4
  have hw2 : (d2.weights Tryd.prog 22).all (· ≤ reachBytes) = true := by
    simp only [List.cons_append, List.nil_append, DataW.weightsEach, List.all_append, Bool.and_eq_true] at hZ
    exact hZ.2.2.1
  have hmr := trod_weight Tryd.underlying22 h2 hw2
  rw [show Tryd.prog.bytesOf 5 = 1 by kernel_rfl, Nat.mul_one] at hmr
  refine (law_calls (f := 5) (args := [.agg ([Value.int .u8 p0, .int .u8 p1, .int .u8 p2, vs]).toArray, .slice a1 n1 c1, .slice a2 n2 c2, .slice a3 n3 c3, .bool bk]) (s5 (tab_of hL) hs g0 g1 g2 hav hac hmv hmr hkv hkc)).mono ?_
  rintro e' W' ⟨rfl, bel⟩
  exact ⟨_, rfl, law_post laidOut hW' rfl (of_decide_eq_true (by kernel_rfl)) rfl Tryd.underlying4 rfl bel⟩
set_option maxRecDepth 100000 in
theorem lifted (os : Os) (started : os.Started) (H : Type) (enc : TypeId × Value → H) :
    ReturnsInHanded {} Tryd.checked os 5 .any (fun w args => (Rows.flowMoreSpec.pre enc Tryd.prog Tryd.f5 [] false w args ∧ laidMetH Tryd.prog laid1 w) ∧ sizedMet enc Tryd.prog Tryd.f5 (OpenSpec.ofChange Rows.flowMoreSpec) false w args)
      (Rows.flowMoreSpec.post enc Tryd.prog Tryd.f5 false true false false) := by
  refine returnsInHanded_of_change_and (C := Tryd.checked) (X := fun w _ => laidMetH Tryd.prog laid1 w) (fun _ _ _ hh h => h.of_heap hh) own started (by kernel_rfl) Tryd.func5
    (ChangeSpec.witness_shaped (enc := enc) (C := Tryd.checked) (os := os) (X := fun w _ => laidMetH Tryd.prog laid1 w) false (World.laidAll Tryd.prog os laid1) #[.agg #[.int .u8 0, .int .u8 0, .int .u8 0, .slice none 0 0], .slice none 0 0, .slice none 0 0, .slice none 0 0, .bool false] 8 (World.laidAll_os _ _ _)
      (World.shaped_of_ZipB (by kernel_rfl) (by kernel_rfl)) (by kernel_rfl) (by kernel_rfl) (by kernel_rfl)
      (by rw [MakeChecks.laidMetH_plain _ _ _ (by kernel_rfl)]; exact laidMet_laidAll _ (by kernel_rfl) (by kernel_rfl))) ?_
  intro W base args ds gs before hval hW _ hZ hL _
  exact contract H enc W base args ds gs before hval hW hL hZ
set_option maxRecDepth 100000 in
theorem proved : Rows.FlowMoreSaid :=
  OpenClaim.holds_of_wide 5 Tryd.f5 rfl rfl rfl rfl rfl rfl rfl ⟨rfl, rfl, rfl, rfl, rfl⟩ rfl rfl rfl rfl rfl (by kernel_rfl) Tryd.func5 (by kernel_rfl)
    (of_decide_eq_true (by kernel_rfl)) (by unfold Func.isWrapper; first | (rw [if_pos (by decide +kernel)]; kernel_rfl) | (rw [if_neg (by decide +kernel)]; exact ⟨rfl, rfl⟩))
    (fun os started H enc _ => lifted os started H enc)
set_option maxRecDepth 100000 in
theorem card : Rows.FlowMoreCardSaid :=
  Claim7.holds_tied_plain_at .later [] [.data] true (true, "8ff38404af680b550b91fe5fd74526250c7ed431e07fb59fa8b09eeffdac340c") false proved (fun _ h => by cases h) (by kernel_rfl) (fun _ h => by cases h) flowMore_row_tie rfl ⟨rfl, rfl⟩ (by kernel_rfl) rfl
    (fun f fn hf hfn => by
      obtain rfl : f = 5 := Option.some.inj ((show Tryd.prog.funcNamed "outworker/outworkerlaw11.FlowMore" = some 5 by kernel_rfl).symm.trans hf) |>.symm
      obtain rfl : fn = Tryd.f5 := (Option.some.inj (Tryd.func5.symm.trans hfn)).symm
      exact ⟨by kernel_rfl, fun j t ht => by
        rw [Tryd.params5] at ht
        have hm : t ∈ [24, 22, 22, 22, 4] := by simpa using Array.mem_of_getElem? ht
        have hall : ([24, 22, 22, 22, 4].all fun u => !Tryd.prog.wantsStandIn u) = true := by kernel_rfl
        exact (show Tryd.prog.wantsStandIn t = false by simpa using List.all_eq_true.1 hall t hm)⟩)
    (by kernel_rfl)
end flowMore
/-- The row, under a short name, for the claim. -/
theorem flowMoreHolds : Rows.FlowMoreCardSaid := flowMore.card
#print axioms flowMoreHolds
end Go.Proofs.YtbbicdfipheaeaaDoor
