/-
  The law PathsOrder answers true. Conditions: none.
-/
import Derived.Test.YtgcaicdmjbkplaaR4P
import Derived.Test.YtgcaicdmjbkplaaRows
set_option linter.unusedVariables false
set_option linter.unusedSimpArgs false
namespace Go.Proofs.Ytgcaicdmjbkplaa
open Go Go.ChangeShapes Go.WideShapes Go.ChangeAt Go.RowKit

set_option maxRecDepth 8000 in
theorem s5 {h : H} {vs : Value} {p0 p1 p2 : Int} {l : List Int} (hs : BytesAt h vs l) (h0 : 0 ≤ p0) (h1 : 0 ≤ p1) (h2 : 0 ≤ p2) :
    CallsA Try.prog 5 (fun _ => [.agg #[.int .u8 p0, .int .u8 p1, .int .u8 p2, vs]]) [] h (Ret fun r h' => h.le h' ∧ r = .bool true) := by
  refine c5 (G := [.int .u8 p0, .int .u8 p1, .int .u8 p2, vs]) ⟨⟨_, rfl⟩, ⟨_, rfl⟩, ⟨_, rfl⟩, hs.fit, trivial⟩ ?_
  obtain ⟨hB, hB1, hB7⟩ := made_B h0 h1 h2 hs.inB
  refine h_call0 s6 ?_
  rintro _ g1 ⟨hl1, rfl⟩
  refine ⟨[.bool true], ⟨⟨_, rfl⟩, trivial⟩, rfl, iteF rfl ?_⟩
  refine h_call0 (s7 (p0 := p0) (p1 := p1) (p2 := p2) (hs.le hl1) h0 h1 h2) ?_
  rintro _ g2 ⟨hk2, u, fp, rfl, hu, hfp, hnd⟩
  generalize madeB p0 p1 p2 l = B at hB hB1 hB7 hu
  have hua := hu.at
  have hle2 : h.le g2 := hl1.trans hk2.le_nil
  refine ⟨[.int .i64 (madeP p0), .int .i64 (madeV p0 p1), u], ⟨⟨_, rfl⟩, ⟨_, rfl⟩, hua.fit, trivial⟩, rfl, ?_⟩
  simp only [List.cons_append, List.nil_append]
  refine h_call0 (s14 hua hB hB1 (by omega)) ?_
  rintro vo g3 ⟨hl3, ho⟩
  refine ⟨[vo], ⟨ho.fit, trivial⟩, rfl, ?_⟩
  simp only [List.cons_append, List.nil_append]
  have hu3 := SlAt.le blkC_mono hl3 hua
  refine h_call0 (s11 hu3 hB (by omega)) ?_
  rintro va g4 ⟨hl4, ha⟩
  have hal := ha.len
  rw [List.length_map, List.length_range] at hal
  refine ⟨[va], ⟨ha.fit, trivial⟩, rfl, ?_⟩
  simp only [List.cons_append, List.nil_append]
  have hu4 := SlAt.le blkC_mono hl4 hu3
  refine h_call0 (s8 hu4 hB hB1 (by omega)) ?_
  rintro _ g5 ⟨hl5, vw, ws, fw, rfl, hw, hr⟩
  refine ⟨[vw], ⟨hw.fit, trivial⟩, rfl, ?_⟩
  simp only [List.cons_append, List.nil_append]
  have hle5 : h.le g5 := ((hle2.trans hl3).trans hl4).trans hl5
  have ho5 := ho.le (hl4.trans hl5)
  have ha5 := SlAt.le intsC_mono hl5 ha
  have hwd : WordsAt g5 vw ws := rowF_words hw.1
  have hlt : ∀ x, hasW ws x = true → x < B.length := fun x hx => ((hr x).1 hx).lt hB hB1
  obtain ⟨R0, oz, ond, omem, olt, oled⟩ := order_laws hB hB1
  obtain ⟨O, hO⟩ : ∃ O, O = orderM B := ⟨_, rfl⟩
  rw [← hO] at oz ond omem olt oled ho5
  have hol := ho5.len
  rw [List.length_map] at hol
  have hO7 : O.length = ((List.range 7).filter (hasW ws)).length := by
    have : List.Perm O ((List.range 7).filter (hasW ws)) := (List.perm_ext_iff_of_nodup ond (List.Nodup.sublist List.filter_sublist List.nodup_range)).2 fun a => by
      rw [omem, List.mem_filter, List.mem_range, hr]
      exact ⟨fun q => ⟨by have := q.lt hB hB1; omega, q⟩, fun q => q.2⟩
    exact this.length_eq
  have hO8 : O.length ≤ 7 := by
    rw [hO7]
    have := List.length_filter_le (hasW ws) (List.range 7)
    rwa [List.length_range] at this
  intro b0 hb0
  have q6 : g5.le (g5.put b0 (.map #[] 0)) := H.le_put hb0
  have km0 : KeyMap (g5.put b0 (.map #[] 0)) (.map (some b0)) [] [b0] := .inr ⟨b0, #[], 0, rfl, rfl, H.put_same, rfl, fun e he => by simp at he, List.nodup_nil⟩
  generalize g5.put b0 (.map #[] 0) = g6 at q6 km0
  have hfr : Fresh g5 [b0] := fun x hx => by rw [List.mem_singleton] at hx; subst hx; exact hb0
  simp only [List.cons_append, List.nil_append]
  refine h_loop (fun xs h' => ∃ i : Nat, xs = [.int .i64 (i : Int)] ∧ i ≤ O.length ∧ g5.le h' ∧ KeyMap h' (.map (some b0)) ((O.take i).map Int.ofNat) [b0]) (fun xs h' => (O.length - vi (gv xs 0)).toNat) ⟨0, rfl, by omega, q6, km0⟩ ?_
  rintro xs h' J - ⟨i, rfl, hi, hle, km⟩ hJ
  simp only [List.cons_append, List.nil_append]
  refine h_ite (fun hc => ?_) (fun hc => ?_)
  · replace hc : cmpOp .lss (i : Int) ((vlen vo : Nat) : Int) = true := hc
    rw [hol, cmp_lss, decide_eq_true_eq] at hc
    have hil : i < O.length := by omega
    have hx : O[i]? = some O[i] := List.getElem?_eq_getElem hil
    have hxm : O[i] ∈ O := List.getElem_mem _
    generalize O[i] = x at hx hxm
    have hxl := olt x hxm
    have hsplit : O = O.take i ++ x :: O.drop (i + 1) := by
      obtain ⟨hlt', e⟩ := List.getElem?_eq_some_iff.1 hx
      conv => lhs; rw [← List.take_append_drop i O, List.drop_eq_getElem_cons hlt', e]
    have hxI : (O.map Int.ofNat)[i]? = some (x : Int) := by rw [List.getElem?_map, hx]; rfl
    have hxn : x ∉ O.take i := fun q => by
      have := ond
      rw [hsplit, List.nodup_append] at this
      exact this.2.2 x q x (List.mem_cons_self ..) rfl
    have hxnI : (x : Int) ∉ (O.take i).map Int.ofNat := fun q => by
      obtain ⟨y, hy, e⟩ := List.mem_map.1 q
      have : y = x := by have : (y : Int) = (x : Int) := e; omega
      subst this; exact hxn hy
    obtain ⟨cs, ⟨ua, rfl, hua'⟩, hra⟩ := ha5.get x (aheadM B x) (by rw [List.getElem?_map, List.getElem?_range hxl]; rfl)
    refine ⟨fun _ => ⟨ge0 i, by show cmpOp .lss (i : Int) ((vlen vo : Nat) : Int) = true; rw [hol]; exact ltN hil, trivial⟩, h_load [.int .i64 (x : Int)] ⟨⟨_, rfl⟩, trivial⟩ (fun _ => (ho5.le hle).read hxI)
      ⟨fun _ => ⟨ge0 x, by show cmpOp .lss (x : Int) ((vlen va : Nat) : Int) = true; rw [hal]; exact ltN hxl, trivial⟩, h_load [ua] ⟨hua'.fit, trivial⟩ (fun _ => hra.le hle) ?_⟩⟩
    simp only [List.cons_append, List.nil_append]
    have hA := hua'.le hle
    obtain ⟨A, hAd⟩ : ∃ A, A = aheadM B x := ⟨_, rfl⟩
    rw [← hAd] at hA
    have hAl := hA.len
    rw [List.length_map] at hAl
    have hA7 : A.length ≤ 7 := by rw [hAd]; have := aheadI_len B x B.length; unfold aheadI at this; unfold aheadM; omega
    -- is it led to?
    have led0 : decide (i = 0) = true ∨ ∃ p ∈ A, p ∈ O.take i := by
      rcases oled _ _ _ hsplit with q | ⟨p, hp, hn⟩
      · left
        have : (O.take i).length = 0 := by rw [q]; rfl
        rw [List.length_take] at this
        have : i = 0 := by omega
        simpa using this
      · right
        refine ⟨p, ?_, hp⟩
        rw [hAd]; unfold aheadM
        rw [List.mem_filter, List.mem_range]
        exact ⟨olt p (List.mem_of_mem_take hp), by simpa using hn⟩
    have hx0 : i = 0 → x = 0 := fun q => by
      subst q
      rw [oz] at hx; simp at hx; exact hx.symm
    have ini : vb ((X.ite (.cmp .eql (.var 12) (.lit 0)) (.cmp .eql (.var 13) (.lit 0)) (.tt false)).den [.int .u8 p0, .int .u8 p1, .int .u8 p2, vs, .bool true, .int .i64 (madeP p0), .int .i64 (madeV p0 p1), u, vo, va, vw, .map (some b0), .int .i64 (i : Int), .int .i64 (x : Int), ua]) = decide (i = 0) := by
      show vb (if cmpOp .eql (i : Int) 0 = true then Value.bool (cmpOp .eql (x : Int) 0) else Value.bool false) = _
      rw [cmp_eql, cmp_eql]
      by_cases q : i = 0
      · have := hx0 q; subst this; subst q; rfl
      · have : ¬ (i : Int) = 0 := by omega
        simp [this, q]
    refine h_loop (fun xs h5 => ∃ k : Nat, h5 = h' ∧ k ≤ A.length ∧ xs = [.bool (decide (i = 0) || (A.take k).any fun a => decide (a ∈ O.take i)), .int .i64 (k : Int)]) (fun xs h' => (A.length - vi (gv xs 1)).toNat) ⟨0, rfl, by omega, ?_⟩ ?_
    · show [Value.bool (vb (X.den _ _)), .int .i64 0] = _
      rw [ini]; simp
    rintro xs h5 J5 - ⟨k, e5, hk, rfl⟩ hJ5
    have e5' := e5.symm
    subst e5'
    simp only [List.cons_append, List.nil_append]
    refine h_ite (fun hc5 => ?_) (fun hc5 => ?_)
    · replace hc5 : cmpOp .lss (k : Int) ((vlen ua : Nat) : Int) = true := hc5
      rw [hAl, cmp_lss, decide_eq_true_eq] at hc5
      have hkl : k < A.length := by omega
      have hy : A[k]? = some A[k] := List.getElem?_eq_getElem hkl
      generalize A[k] = y at hy
      have hyI : (A.map Int.ofNat)[k]? = some (y : Int) := by rw [List.getElem?_map, hy]; rfl
      have hyt : A.take (k + 1) = A.take k ++ [y] := by rw [List.take_add_one, hy]; rfl
      have hyO : decide ((y : Int) ∈ (O.take i).map Int.ofNat) = decide (y ∈ O.take i) := by
        apply decide_eq_decide.2
        constructor
        · intro q
          obtain ⟨z, hz, e⟩ := List.mem_map.1 q
          have : z = y := by have : (z : Int) = (y : Int) := e; omega
          subst this; exact hz
        · intro q; exact List.mem_map.2 ⟨y, q, rfl⟩
      refine ⟨fun _ => ⟨ge0 k, by show cmpOp .lss (k : Int) ((vlen ua : Nat) : Int) = true; rw [hAl]; exact ltN hkl, trivial⟩, h_load [.int .i64 (y : Int)] ⟨⟨_, rfl⟩, trivial⟩ (fun _ => hA.read hyI) ?_⟩
      simp only [List.cons_append, List.nil_append]
      have fin : ∀ {c : Bool}, c = (decide (i = 0) || (A.take (k + 1)).any fun a => decide (a ∈ O.take i)) → J5 [.bool c, .int .i64 (intOp .add .i64 (k : Int) 1)] h' := fun {c} e => by
        rw [int_add_one (n := 1000) (by omega) (by omega)]
        refine hJ5 _ _ ⟨k + 1, rfl, by omega, by rw [e]⟩ ?_
        simp only [gv_zero, gv_succ, vi_int]; omega
      refine h_ite (fun hc6 => ?_) (fun hc6 => ?_)
      · replace hc6 : (!(decide (i = 0) || (A.take k).any fun a => decide (a ∈ O.take i))) = true := hc6
        rw [Bool.not_eq_true', Bool.or_eq_false_iff] at hc6
        refine km.look (y : Int) ?_
        refine fin ?_
        show decide ((y : Int) ∈ (O.take i).map Int.ofNat) = _
        rw [hyO, hyt, List.any_append, hc6.1, hc6.2]; simp
      · replace hc6 : (!(decide (i = 0) || (A.take k).any fun a => decide (a ∈ O.take i))) = false := hc6
        rw [Bool.not_eq_false'] at hc6
        refine fin ?_
        show true = _
        rw [hyt, List.any_append, ← Bool.or_assoc, hc6]; rfl
    · replace hc5 : cmpOp .lss (k : Int) ((vlen ua : Nat) : Int) = false := hc5
      rw [hAl, cmp_lss, decide_eq_false_iff_not] at hc5
      have hke : k = A.length := by omega
      have hled : (decide (i = 0) || (A.take k).any fun a => decide (a ∈ O.take i)) = true := by
        rw [hke, List.take_length]
        rcases led0 with q | ⟨p, hp, hpo⟩
        · rw [q]; rfl
        · rw [Bool.or_eq_true]; right
          rw [List.any_eq_true]; exact ⟨p, hp, by simpa using hpo⟩
      rw [hled]
      refine km.look (x : Int) ?_
      rw [decide_eq_false hxnI]
      refine iteT rfl ?_
      simp only [List.cons_append, List.nil_append]
      refine h_call0 (s9 (x := x) (SlAt.le u64C_mono hle hwd) hw.2.1 (by omega)) ?_
      rintro _ g9 ⟨e9, rfl⟩
      have e9' := e9.symm
      subst e9'
      have hhas : hasW ws x = true := (hr x).2 ((omem x).1 hxm)
      rw [hhas]
      refine ⟨[.bool true], ⟨⟨_, rfl⟩, trivial⟩, rfl, iteF rfl ?_⟩
      refine km.upd hxnI (by simp) fun h6 km6 k6 => ?_
      show J [.int .i64 (intOp .add .i64 (i : Int) 1)] h6
      rw [int_add_one (n := 1000) (by omega) (by omega)]
      refine hJ _ _ ⟨i + 1, rfl, by omega, k6.le hle hfr, ?_⟩ ?_
      · have : (O.take (i + 1)).map Int.ofNat = (O.take i).map Int.ofNat ++ [(x : Int)] := by
          rw [List.take_add_one, hx, List.map_append]; rfl
        rw [this]; exact km6
      · simp only [gv_zero, vi_int]; omega
  · replace hc : cmpOp .lss (i : Int) ((vlen vo : Nat) : Int) = false := hc
    rw [hol, cmp_lss, decide_eq_false_iff_not] at hc
    refine h_call0 (s18 (SlAt.le u64C_mono hle hwd) hw.2.1 hw.2.2 (fun y hy => by have := hlt y hy; omega)) ?_
    rintro _ g9 ⟨e9, rfl⟩
    have e9' := e9.symm
    subst e9'
    refine ⟨[.int .i64 ((((List.range 7).filter (hasW ws)).length : Nat) : Int)], ⟨⟨_, rfl⟩, trivial⟩, rfl, rfl, hle5.trans hle, ?_⟩
    show Value.bool (cmpOp .eql ((vlen vo : Nat) : Int) ((((List.range 7).filter (hasW ws)).length : Nat) : Int)) = _
    rw [hol, hO7, cmp_eql, decide_eq_true rfl]
namespace pathsOrder
theorem own : ownKnob Try.prog.godebug = none := by kernel_rfl
set_option maxRecDepth 100000 in
theorem laidOut : laidOutB Try.prog = true := by kernel_rfl
set_option maxRecDepth 100000 in
theorem contract (H : Type) (enc : TypeId × Value → H) (W : World) (base : Nat) (args : Array Value) (ds gs : List (DataW H)) (before : List MemPlace)
    (hval : ∀ (j : Nat) t v, Try.f5.params[j]? = some t → args[j]? = some v → Value.okWide Try.prog W .any base t v)
    (hW : DataW.Whole enc Try.prog Try.f5.params.toList Rows.pathsOrderSpec.vars false W args.toList ds gs before) :
    Calls Try.prog 5 args W fun e W' => ∃ v, e = .returned v ∧ Rows.pathsOrderSpec.post enc Try.prog Try.f5 false true false false W args v W' := by
  have hW' := hW
  obtain ⟨p, q, hA, hV, rfl, hfz, hnd⟩ := hW
  rw [Try.params5] at hA hval
  obtain ⟨v0, vs0, d0, ds0, p0, q0, hargs, rfl, rfl, h0, r0⟩ := trodAll_cons hA
  obtain ⟨rfl, rfl, rfl⟩ := trodAll_nil r0
  obtain rfl : args = #[v0] := by cases args; simp_all
  obtain ⟨cs0, rfl, -⟩ := okWide_struct Try.underlying24 (hval 0 24 v0 rfl rfl)
  obtain ⟨p0, p1, p2, vs, l, he0, g0, g1, g2, hs⟩ := rd_spec (Rd.of h0)
  obtain rfl : cs0 = ([Value.int .u8 p0, .int .u8 p1, .int .u8 p2, vs]).toArray := by rw [← he0]; simp [Value.cells]
  refine (law_calls (f := 5) (args := [.agg ([Value.int .u8 p0, .int .u8 p1, .int .u8 p2, vs]).toArray]) (s5 hs g0 g1 g2)).mono ?_
  rintro e' W' ⟨rfl, bel⟩
  exact ⟨_, rfl, law_post laidOut hW' rfl (of_decide_eq_true (by kernel_rfl)) rfl Try.underlying4 rfl bel⟩
set_option maxRecDepth 100000 in
theorem lifted (os : Os) (started : os.Started) (H : Type) (enc : TypeId × Value → H) :
    ReturnsInHanded {} Try.checked os 5 .any (Rows.pathsOrderSpec.pre6 enc Try.prog Try.f5 Rows.pathsOrderRow.domain false) (Rows.pathsOrderSpec.post enc Try.prog Try.f5 false true false false) := by
  refine returnsInHanded_of_change (C := Try.checked) own started (by kernel_rfl) Try.func5
    (ChangeSpec.witness6 (enc := enc) (C := Try.checked) false ⟨#[], #[.agg #[.int .u8 0, .int .u8 0, .int .u8 0, .slice none 0 0]], []⟩ 8 (by kernel_rfl) (by kernel_rfl) (by kernel_rfl) (by kernel_rfl)) ?_
  intro W base args ds gs before hval hW _ _
  exact contract H enc W base args ds gs before hval hW
set_option maxRecDepth 100000 in
theorem proved : Rows.PathsOrderSaid :=
  OpenClaim.holds_of_wide 5 Try.f5 rfl rfl rfl rfl rfl rfl rfl ⟨rfl, rfl, rfl, rfl, rfl⟩ rfl rfl rfl rfl rfl (by kernel_rfl) Try.func5 (by kernel_rfl)
    (of_decide_eq_true (by kernel_rfl)) (by unfold Func.isWrapper; first | (rw [if_pos (by decide +kernel)]; kernel_rfl) | (rw [if_neg (by decide +kernel)]; exact ⟨rfl, rfl⟩))
    (fun os started H enc _ => lifted os started H enc)
end pathsOrder
/-- The row, under a short name, for the claim. -/
theorem pathsOrderHolds : Rows.PathsOrderSaid := pathsOrder.proved
#print axioms pathsOrderHolds
end Go.Proofs.Ytgcaicdmjbkplaa
