/-
  The law LiveDead answers true. Conditions: none.
-/
import Derived.Test.YtbbicdfipheaeaaDoorR5X
import Derived.Test.YtbbicdfipheaeaaDoorR5V
import Derived.Test.YtbbicdfipheaeaaDoorRnRd
import Derived.Test.YtbbicdfipheaeaaDoorR5Td
import Derived.Test.YtbbicdfipheaeaaDoorR5Lay
set_option linter.unusedVariables false
set_option linter.unusedSimpArgs false
namespace Go.Proofs.YtbbicdfipheaeaaDoor
open Go Go.ChangeShapes Go.WideShapes Go.ChangeAt Go.RowKit

theorem zero_i64 : ((zeroCells Tryd.prog 2).getD []).length = 1 := by kernel_rfl
theorem made_kinds {P V : Nat} {B : List Blk} (hck : checkM (P : Int) (V : Int) B = (0, 0, 0)) : KindB B := fun b hb => by
  obtain ⟨-, -, k3⟩ := checkM_zeroR (p := P) (n := V) (bs := B) (by rw [hck])
  obtain ⟨q1, q2, q3⟩ := k3 b hb
  refine ⟨endM_kind q3, fun x hx => ?_⟩
  have := q2 x hx
  unfold ofM at this
  split at this
  · cases this
  · rename_i h
    exact Classical.not_not.1 fun q => h (.inl q)
theorem start_alike {p : SP} {V n : Nat} {args mem ans : List Int} {fuel v : Int} (hn : p n = false) : EqR p (start V 0 args mem ans fuel) (start V 0 (args.set n v) mem ans fuel) := by
  refine ⟨rfl, rfl, rfl, rfl, rfl, rfl, ?_, fun y hy => ?_⟩
  · show (places0 V 0 args).length = (places0 V 0 (args.set n v)).length
    simp [places0]
  · have hne : n ≠ y := fun e => by rw [← e, hn] at hy; cases hy
    show (places0 V 0 args).getD y 0 = (places0 V 0 (args.set n v)).getD y 0
    unfold places0
    rw [List.length_set]
    simp only [List.replicate_zero, List.nil_append, List.getD_eq_getElem?_getD]
    by_cases h : y < args.length
    · rw [List.getElem?_append_left h, List.getElem?_append_left (by rw [List.length_set]; exact h), List.getElem?_set_ne hne]
    · rw [List.getElem?_append_right (by omega), List.getElem?_append_right (by rw [List.length_set]; omega), List.length_set]
set_option maxRecDepth 20000 in
theorem s9 {h : H} {vs av mv nv : Value} {p0 p1 p2 fuel c8 n9 : Int} {l args mem ans : List Int} (ht : Tab h) (hs : BytesAt h vs l) (h0 : 0 ≤ p0) (h1 : 0 ≤ p1) (h2 : 0 ≤ p2) (ha : IntsAt h av args) (hm : IntsAt h mv mem) (hn : IntsAt h nv ans) (b8 : 0 ≤ c8 ∧ c8 ≤ 255) :
    CallsA Tryd.prog 9 (fun _ => [.agg #[.int .u8 p0, .int .u8 p1, .int .u8 p2, vs], .agg #[av, mv, nv, .int .i64 fuel], .int .u8 c8, .int .i64 n9]) [] h (Ret fun r h' => h.le h' ∧ r = .bool true) := by
  refine c9 (G := [.int .u8 p0, .int .u8 p1, .int .u8 p2, vs, av, mv, nv, .int .i64 fuel, .int .u8 c8, .int .i64 n9]) ⟨⟨_, rfl⟩, ⟨_, rfl⟩, ⟨_, rfl⟩, hs.fit, ha.fit, hm.fit, hn.fit, ⟨_, rfl⟩, ⟨_, rfl⟩, ⟨_, rfl⟩, trivial⟩ ?_
  obtain ⟨hO, hB1, hB7⟩ := made_B h0 h1 h2 hs.inB
  obtain ⟨hR, hsm⟩ := made_reg h0 h1 h2 hs.inB
  obtain ⟨P, V, hP, hV, hPl, hVl, hPV, hck, hok, -, -⟩ := made_fun h0 h1 h2 hs.inB
  refine h_call0 (s29 ht) ?_
  rintro _ g1 ⟨l1, rfl⟩
  refine ⟨[.bool true], ⟨⟨_, rfl⟩, trivial⟩, rfl, iteF rfl ?_⟩
  refine h_call0 (s12 (p0 := p0) (p1 := p1) (p2 := p2) (hs.le l1) h0 h1 h2) ?_
  rintro _ g2 ⟨hk2, u, fp, rfl, hu, hfp, hnd⟩
  generalize madeB p0 p1 p2 l = B at hO hB1 hB7 hu hR hsm hck hok
  rw [hP, hV]
  have hKd := made_kinds hck
  have le2 : h.le g2 := l1.trans hk2.le_nil
  have hua := hu.at
  refine ⟨[.int .i64 (P : Int), .int .i64 (V : Int), u], ⟨⟨_, rfl⟩, ⟨_, rfl⟩, hua.fit, trivial⟩, rfl, ?_⟩
  simp only [List.cons_append, List.nil_append]
  refine h_ite (fun _ => ⟨rfl, le2, rfl⟩) (fun hc => ?_)
  replace hc : cmpOp .eql (P : Int) 0 = false := hc
  rw [cmp_eql, decide_eq_false_iff_not] at hc
  have hP1 : 0 < P := by omega
  refine ⟨fun _ => need_var (z := (P : Int)) rfl (by omega), h_call0 (s31 (ht.le le2) hua hO hR (by omega)) ?_⟩
  rintro _ g3 ⟨l3, vI, vO, L, rfl, sol, Ko, Ki⟩
  have le3 := le2.trans l3
  have hLl : L.length = B.length := sol.len
  have hil : vlen vI = B.length := by rw [Ki.len, inP_len, hLl]
  refine ⟨[vI, vO], ⟨Ki.fit, Ko.fit, trivial⟩, rfl, fun _ => ⟨rfl, ?_, trivial⟩, ?_⟩
  · show cmpOp .lss 0 ((vlen vI : Nat) : Int) = true
    rw [hil, cmp_lss, decide_eq_true_eq]; omega
  obtain ⟨x, hx⟩ : ∃ x, L[0]? = some x := ⟨_, List.getElem?_eq_getElem (by rw [hLl]; omega)⟩
  obtain ⟨n, hne⟩ : ∃ n, n = bI c8 P := ⟨_, rfl⟩
  have hnP : n < P := by rw [hne]; exact bI_lt b8.1 hP1
  obtain ⟨c16, t16, r16, q16⟩ := Ki.has (inP_at hx) (x := n) (by omega)
  refine h_load [c16] ⟨t16, trivial⟩ (fun _ => r16) ?_
  simp only [List.cons_append, List.nil_append]
  have rx : ∀ D : List Value, gv D 8 = .int .u8 c8 → gv D 11 = .int .i64 (P : Int) → vi ((RXv 8 11).den D) = (n : Int) := fun D e1 e2 => by rw [hne]; exact rxv_val e1 e2 b8 hP1
  refine h_call0 (Q := fun r h' => h' = g3 ∧ r = .bool (blkP B 0 x n)) ?_ ?_
  · have := q16 (H.le_refl _)
    show CallsA _ _ (fun _ => [.agg #[c16], .int .i64 (vi ((RXv 8 11).den [.int .u8 p0, .int .u8 p1, .int .u8 p2, vs, av, mv, nv, .int .i64 fuel, .int .u8 c8, .int .i64 n9, .bool true, .int .i64 (P : Int), .int .i64 (V : Int), u, vI, vO, c16]))]) _ _ _
    rw [rx _ rfl rfl]
    exact this
  rintro _ _ ⟨rfl, rfl⟩
  refine ⟨[.bool (blkP B 0 x n)], ⟨⟨_, rfl⟩, trivial⟩, rfl, h_ite (fun _ => ⟨rfl, le3, rfl⟩) (fun h17 => ?_)⟩
  replace h17 : blkP B 0 x n = false := h17
  rw [h17]
  simp only [List.cons_append, List.nil_append]
  refine h_call0 (s36 (p := P) (fuel := fuel) (ha.le le3) (hm.le le3) (hn.le le3) (by omega)) ?_
  rintro _ g4 ⟨u', m', n', rfl, l4, iu, im, inn⟩
  refine ⟨[u', m', n', .int .i64 (fuelM fuel)], ⟨iu.fit, im.fit, inn.fit, ⟨_, rfl⟩, trivial⟩, rfl, ?_⟩
  have hfr := fuelM_range fuel
  have hal := inArgs_len args P
  generalize inArgs args P = A0 at iu hal
  simp only [List.cons_append, List.nil_append]
  have le4 := le3.trans l4
  -- the other arguments
  intro b22 hb22
  have r22 := RowF.new (h := g4) (e := 2) (sz := 1) (b := b22) (n := 0) (c := 0) (cs := []) (r := []) rfl rfl (Nat.le_refl _)
  rw [List.append_nil] at r22
  have l5 : g4.le (g4.put b22 (.cells [].toArray 2 (0, 0))) := H.le_put hb22
  show holds _ _ _ [.int .u8 p0, .int .u8 p1, .int .u8 p2, vs, av, mv, nv, .int .i64 fuel, .int .u8 c8, .int .i64 n9, .bool true, .int .i64 (P : Int), .int .i64 (V : Int), u, vI, vO, c16, .bool false, u', m', n', .int .i64 (fuelM fuel), .slice (some ⟨b22, 0, none⟩) 0 0] _ (g4.put b22 (.cells [].toArray 2 (0, 0)))
  generalize g4.put b22 (.cells [].toArray 2 (0, 0)) = g5 at r22 l5 ⊢
  have B5 : Base g4 g5 [b22] := ⟨l5, fun z hz => by rw [List.mem_singleton] at hz; subst hz; exact hb22⟩
  have hsrc := (iu.le l5).src
  refine ⟨A0.map (.int .i64), A0.length, src_ok rfl hsrc (by simp) (fun v hv => by obtain ⟨x, _, rfl⟩ := List.mem_map.1 hv; rfl), ?_⟩
  show AppSpec g5 2 1 8 _ (.slice (some ⟨b22, 0, none⟩) 0 0) _ _ _
  refine app_rowF r22 (by simp) zero_i64 (by simp only [vlen_sl]; omega) fun v23 g6 f6 m1 m2 m3 m4 => ?_
  have q6 : ∀ z ∈ f6, z ∈ [b22] ∨ g5 z = none := fun z hz => by
    rcases m4 with e | ⟨b', e, hb'⟩
    · rw [e] at hz; exact .inl hz
    · rw [e, List.mem_singleton] at hz
      rw [hz]; exact .inr hb'
  have B6 : Base g4 g6 f6 := B5.step m3 q6
  rw [List.nil_append] at m1
  have hvl : vlen v23 = P := by rw [len_of_rowF m1, List.length_map, hal]
  simp only [List.cons_append, List.nil_append]
  obtain ⟨w7, s7, k7⟩ := rowF_set (x := .int .i64 n9) (i := n) m1 (by rw [List.length_map, hal]; exact hnP)
  have B7 := B6.step k7 fun z hz => .inl hz
  refine ⟨fun _ => ?_, h_store ((vaddr v23).add n) [.int .i64 n9] ?_ rfl w7 ?_⟩
  · have e1 : vb ((X.cmp .geq (RXv 8 11) (.lit 0)).den [.int .u8 p0, .int .u8 p1, .int .u8 p2, vs, av, mv, nv, .int .i64 fuel, .int .u8 c8, .int .i64 n9, .bool true, .int .i64 (P : Int), .int .i64 (V : Int), u, vI, vO, c16, .bool false, u', m', n', .int .i64 (fuelM fuel), .slice (some ⟨b22, 0, none⟩) 0 0, v23]) = true := by
      show cmpOp .geq (vi ((RXv 8 11).den _)) 0 = true
      rw [rx _ rfl rfl]; exact ge0 n
    have e2 : vb ((X.cmp .lss (RXv 8 11) (.len 23)).den [.int .u8 p0, .int .u8 p1, .int .u8 p2, vs, av, mv, nv, .int .i64 fuel, .int .u8 c8, .int .i64 n9, .bool true, .int .i64 (P : Int), .int .i64 (V : Int), u, vI, vO, c16, .bool false, u', m', n', .int .i64 (fuelM fuel), .slice (some ⟨b22, 0, none⟩) 0 0, v23]) = true := by
      show cmpOp .lss (vi ((RXv 8 11).den _)) ((vlen v23 : Nat) : Int) = true
      rw [rx _ rfl rfl, hvl]; exact ltN hnP
    exact ⟨e1, e2, trivial⟩
  · show (vaddr v23).add ((vi ((RXv 8 11).den _)).toNat * 1) = _
    rw [rx _ rfl rfl, Int.toNat_natCast, Nat.mul_one]
  generalize g6.sets ((vaddr v23).add n) [.int .i64 n9] = g7 at s7 B7 ⊢
  rw [← List.map_set] at s7
  have iy := rowF_ints s7
  have le7 := le4.trans B7.1
  have hu7 : BlksAt g7 u B := SlAt.le blkC_mono (l3.trans (l4.trans B7.1)) hua
  obtain ⟨A, hA⟩ : ∃ A : List Value, A = [.int .u8 p0, .int .u8 p1, .int .u8 p2, vs, av, mv, nv, .int .i64 fuel, .int .u8 c8, .int .i64 n9, .bool true, .int .i64 (P : Int), .int .i64 (V : Int), u, vI, vO, c16, .bool false, u', m', n', .int .i64 (fuelM fuel), .slice (some ⟨b22, 0, none⟩) 0 0, v23] := ⟨_, rfl⟩
  rw [← hA]
  have hAl : A.length = 24 := by rw [hA]; rfl
  have z : ∀ E : List Value, gv (A ++ E) 11 = .int .i64 (P : Int) ∧ gv (A ++ E) 12 = .int .i64 (V : Int) ∧ gv (A ++ E) 13 = u ∧ gv (A ++ E) 18 = u' ∧ gv (A ++ E) 19 = m' ∧ gv (A ++ E) 20 = n' ∧ gv (A ++ E) 21 = .int .i64 (fuelM fuel) ∧ gv (A ++ E) 23 = v23 := fun E => by
    rw [hA]; exact ⟨rfl, rfl, rfl, rfl, rfl, rfl, rfl, rfl⟩
  refine h_callO2 (Q := fun t e h' => g7.le h' ∧ CallsOk t ∧ RunSpec P V B A0 (mem.take 100) (ans.take 100) (fuelM fuel) e t) ?_ ?_
  · have := s37 (p := P) (n := V) (fuel := fuelM fuel) hu7 (iu.le B7.1) (im.le B7.1) (inn.le B7.1)
    obtain ⟨y1, y2, y3, y4, y5, y6, y7, y8⟩ := z []
    rw [List.append_nil] at y1 y2 y3 y4 y5 y6 y7 y8
    simp only [SV.denL, SV.den, X.den]
    rw [y1, y2, y3, y4, y5, y6, y7]
    exact this.post fun r h' q => q
  rintro t er cv g8 mm1 cc1 ⟨l8, hco, hsp⟩
  obtain ⟨rfl, hrun⟩ := run_made hck hfr hal hsp
  refine h_callO2 (Q := fun t2 e2 h' => g8.le h' ∧ CallsOk t2 ∧ RunSpec P V B (A0.set n n9) (mem.take 100) (ans.take 100) (fuelM fuel) e2 t2) ?_ ?_
  · have := s37 (p := P) (n := V) (fuel := fuelM fuel) (SlAt.le blkC_mono l8 hu7) (iy.le l8) (im.le (B7.1.trans l8)) (inn.le (B7.1.trans l8))
    obtain ⟨y1, y2, y3, y4, y5, y6, y7, y8⟩ := z (outC t cv ++ [.int .i64 0])
    simp only [SV.denL, SV.den, X.den]
    rw [y1, y2, y3, y5, y6, y7, y8]
    exact this.post fun r h' q => q
  rintro t2 e2 cv2 g9 mm2 cc2 ⟨l9, hco2, hsp2⟩
  obtain ⟨rfl, hrun2⟩ := run_made hck hfr (by rw [List.length_set]; exact hal) hsp2
  have hf0 : fromP B L 0 0 n = false := by
    have hb0 := List.getElem?_eq_getElem (show 0 < B.length by omega)
    rw [fromP_at hb0 hx, List.drop_zero]
    rw [blkP_at hb0] at h17
    exact h17
  obtain ⟨t', q1, hso⟩ := run_alike hO hR hKd sol hrun (start_alike (v := n9) hf0)
  have := q1.same hrun2
  subst this
  have eG : A ++ (outC t cv ++ [Value.int .i64 0]) ++ (outC t' cv2 ++ [.int .i64 0]) = A ++ (outC t cv ++ ([.int .i64 0] ++ (outC t' cv2 ++ [.int .i64 0]))) := by simp
  have hAl2 : (A ++ (outC t cv ++ [Value.int .i64 0])).length = 93 := by simp [hAl, outC_len mm1]
  have f1 := gOe (A := A) (B := [Value.int .i64 0] ++ (outC t' cv2 ++ [.int .i64 0])) (cv := cv) (j := 0) hAl mm1
  rw [← eG] at f1
  have f2 := gOe (A := A ++ (outC t cv ++ [.int .i64 0])) (B := [.int .i64 0]) (cv := cv2) (j := 0) hAl2 mm2
  refine iteT (both_ok f1 f2) ?_
  refine h_same (A := A) (M := [.int .i64 0]) (D := [.int .i64 0]) eG mm1 mm2 (SlAt.le callC_mono l9 cc1) cc2 hso hco (by rw [hAl]; rfl) (by rw [hAl]; rfl) ?_
  refine ⟨rfl, (le7.trans l8).trans l9, ?_⟩
  have hGl : (A ++ (outC t cv ++ [Value.int .i64 0]) ++ (outC t' cv2 ++ [Value.int .i64 0])).length = 162 := by simp [hAl, outC_len mm1, outC_len mm2]
  simp only [SV.den, X.den]
  rw [gv_at (j := 0) (by omega)]; rfl
namespace liveDead
theorem own : ownKnob Tryd.prog.godebug = none := by kernel_rfl
set_option maxRecDepth 100000 in
theorem laidOut : laidOutB Tryd.prog = true := by kernel_rfl
set_option maxRecDepth 100000 in
theorem contract (H : Type) (enc : TypeId × Value → H) (W : World) (base : Nat) (args : Array Value) (ds gs : List (DataW H)) (before : List MemPlace)
    (hval : ∀ (j : Nat) t v, Tryd.f9.params[j]? = some t → args[j]? = some v → Value.okWide Tryd.prog W .any base t v)
    (hW : DataW.Whole enc Tryd.prog Tryd.f9.params.toList Rows.liveDeadSpec.vars false W args.toList ds gs before) (hL : laidMetH Tryd.prog laid1 W) :
    Calls Tryd.prog 9 args W fun e W' => ∃ v, e = .returned v ∧ Rows.liveDeadSpec.post enc Tryd.prog Tryd.f9 false true false false W args v W' := by
  have hW' := hW
  obtain ⟨p, q, hA, hV, rfl, hfz, hnd⟩ := hW
  rw [Tryd.params9] at hA hval
  obtain ⟨v0, vs0, d0, ds0, p0, q0, hargs, rfl, rfl, h0, r0⟩ := trodAll_cons hA
  obtain ⟨v1, vs1, d1, ds1, p1, q1, rfl, rfl, rfl, h1, r1⟩ := trodAll_cons r0
  obtain ⟨v2, vs2, d2, ds2, p2, q2, rfl, rfl, rfl, h2, r2⟩ := trodAll_cons r1
  obtain ⟨v3, vs3, d3, ds3, p3, q3, rfl, rfl, rfl, h3, r3⟩ := trodAll_cons r2
  obtain ⟨rfl, rfl, rfl⟩ := trodAll_nil r3
  obtain rfl : args = #[v0, v1, v2, v3] := by cases args; simp_all
  obtain ⟨cs0, rfl, -⟩ := okWide_struct Tryd.underlying24 (hval 0 24 v0 rfl rfl)
  obtain ⟨p0, p1, p2, vs, l, he0, g0, g1, g2, hs⟩ := rd_spec (Rd.of h0)
  obtain rfl : cs0 = ([Value.int .u8 p0, .int .u8 p1, .int .u8 p2, vs]).toArray := by rw [← he0]; simp [Value.cells]
  obtain ⟨cs1, rfl, -⟩ := okWide_struct Tryd.underlying79 (hval 1 79 v1 rfl rfl)
  obtain ⟨av, mv, nv, fuel, args, mem, ans, he1, ha, hm, hn⟩ := rd_input (Rd.of h1)
  obtain rfl : cs1 = ([av, mv, nv, Value.int .i64 fuel]).toArray := by rw [← he1]; simp [Value.cells]
  obtain ⟨c8, rfl, -, -, wf2⟩ := open_int Tryd.underlying5 (hval 2 5 v2 rfl rfl) h2
  obtain ⟨n9, rfl, -, -, wf3⟩ := open_int Tryd.underlying2 (hval 3 2 v3 rfl rfl) h3
  refine (law_calls (f := 9) (args := [.agg ([Value.int .u8 p0, .int .u8 p1, .int .u8 p2, vs]).toArray, .agg ([av, mv, nv, Value.int .i64 fuel]).toArray, .int .u8 c8, .int .i64 n9]) (s9 (tab_of hL) hs g0 g1 g2 ha hm hn (u8_bounds wf2))).mono ?_
  rintro e' W' ⟨rfl, bel⟩
  exact ⟨_, rfl, law_post laidOut hW' rfl (of_decide_eq_true (by kernel_rfl)) rfl Tryd.underlying4 rfl bel⟩
set_option maxRecDepth 100000 in
theorem lifted (os : Os) (started : os.Started) (H : Type) (enc : TypeId × Value → H) :
    ReturnsInHanded {} Tryd.checked os 9 .any (fun w args => (Rows.liveDeadSpec.pre enc Tryd.prog Tryd.f9 [] false w args ∧ laidMetH Tryd.prog laid1 w) ∧ sizedMet enc Tryd.prog Tryd.f9 (OpenSpec.ofChange Rows.liveDeadSpec) false w args)
      (Rows.liveDeadSpec.post enc Tryd.prog Tryd.f9 false true false false) := by
  refine returnsInHanded_of_change_and (C := Tryd.checked) (X := fun w _ => laidMetH Tryd.prog laid1 w) (fun _ _ _ hh h => h.of_heap hh) own started (by kernel_rfl) Tryd.func9
    (ChangeSpec.witness_shaped (enc := enc) (C := Tryd.checked) (os := os) (X := fun w _ => laidMetH Tryd.prog laid1 w) false (World.laidAll Tryd.prog os laid1) #[.agg #[.int .u8 0, .int .u8 0, .int .u8 0, .slice none 0 0], .agg #[.slice none 0 0, .slice none 0 0, .slice none 0 0, .int .i64 0], .int .u8 0, .int .i64 0] 8 (World.laidAll_os _ _ _)
      (World.shaped_of_ZipB (by kernel_rfl) (by kernel_rfl)) (by kernel_rfl) (by kernel_rfl) (by kernel_rfl)
      (by rw [MakeChecks.laidMetH_plain _ _ _ (by kernel_rfl)]; exact laidMet_laidAll _ (by kernel_rfl) (by kernel_rfl))) ?_
  intro W base args ds gs before hval hW _ _ hL _
  exact contract H enc W base args ds gs before hval hW hL
set_option maxRecDepth 100000 in
theorem proved : Rows.LiveDeadSaid :=
  OpenClaim.holds_of_wide 9 Tryd.f9 rfl rfl rfl rfl rfl rfl rfl ⟨rfl, rfl, rfl, rfl, rfl⟩ rfl rfl rfl rfl rfl (by kernel_rfl) Tryd.func9 (by kernel_rfl)
    (of_decide_eq_true (by kernel_rfl)) (by unfold Func.isWrapper; first | (rw [if_pos (by decide +kernel)]; kernel_rfl) | (rw [if_neg (by decide +kernel)]; exact ⟨rfl, rfl⟩))
    (fun os started H enc _ => lifted os started H enc)
set_option maxRecDepth 100000 in
theorem card : Rows.LiveDeadCardSaid :=
  Claim7.holds_tied_plain_at .later [] [.data] true (true, "8ff38404af680b550b91fe5fd74526250c7ed431e07fb59fa8b09eeffdac340c") false proved (fun _ h => by cases h) (by kernel_rfl) (fun _ h => by cases h) liveDead_row_tie rfl ⟨rfl, rfl⟩ (by kernel_rfl) rfl
    (fun f fn hf hfn => by
      obtain rfl : f = 9 := Option.some.inj ((show Tryd.prog.funcNamed "outworker/outworkerlaw12.LiveDead" = some 9 by kernel_rfl).symm.trans hf) |>.symm
      obtain rfl : fn = Tryd.f9 := (Option.some.inj (Tryd.func9.symm.trans hfn)).symm
      exact ⟨by kernel_rfl, fun j t ht => by
        rw [Tryd.params9] at ht
        have hm : t ∈ [24, 79, 5, 2] := by simpa using Array.mem_of_getElem? ht
        have hall : ([24, 79, 5, 2].all fun u => !Tryd.prog.wantsStandIn u) = true := by kernel_rfl
        exact (show Tryd.prog.wantsStandIn t = false by simpa using List.all_eq_true.1 hall t hm)⟩)
    (by kernel_rfl)
end liveDead
/-- The row, under a short name, for the claim. -/
theorem liveDeadHolds : Rows.LiveDeadCardSaid := liveDead.card
#print axioms liveDeadHolds
end Go.Proofs.YtbbicdfipheaeaaDoor
