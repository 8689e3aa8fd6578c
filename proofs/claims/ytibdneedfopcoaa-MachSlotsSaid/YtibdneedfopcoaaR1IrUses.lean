/-
  The law IrUses answers true. Conditions: none.
-/
import Derived.Test.YtibdneedfopcoaaR1B
import Derived.Test.YtibdneedfopcoaaR1Rd
import Derived.Test.YtibdneedfopcoaaRows
set_option linter.unusedVariables false
set_option linter.unusedSimpArgs false
namespace Go.Proofs.Ytibdneedfopcoaa
open Go Go.ChangeShapes Go.WideShapes Go.ChangeAt Go.RowKit

theorem s21 {h : H} (x : Ins) (v : Value) (hv : IntsAt h v x.args) :
    CallsA Try.prog 21 (fun _ => [.agg (insC x v).toArray]) [] h (Ret fun r h' => h.le h' ∧ IntsAt h' r (usesM x)) := by
  refine c21 (G := insC x v) (insFit x v hv.fit) ?_
  refine h_ite (fun hc => fun b hb => ⟨rfl, H.le_put hb, ?_⟩) (fun hc => h_ite (fun hc2 => fun b hb => ⟨rfl, H.le_put hb, ?_⟩) (fun hc2 => h_ite (fun hc3 => ⟨rfl, H.le_refl _, ?_⟩) (fun hc3 => ⟨rfl, H.le_refl _, ?_⟩)))
  · simp only [holds, X.den, PE.den, SV.den, SV.denL, NK.val, NK.sv, NK.pub, gv_zero, gv_succ, vi_int, vb_bool, vlen_sl, vaddr_ptr, vb_ite, vi_ite, cmp_eql, cmp_neq, cmp_lss, cmp_leq, cmp_gtr, cmp_geq, List.map_nil, List.map_cons, List.cons_append, List.nil_append, List.flatten_nil, needs, Ret, true_and, and_true, decide_eq_true_eq, forall_const, intOp, insC] at hc
    have hu : usesM x = [x.a] := by unfold usesM; grind
    rw [hu]
    exact (own_new (h0 := h) (l := [x.a]) hb).ints
  · simp only [holds, X.den, PE.den, SV.den, SV.denL, NK.val, NK.sv, NK.pub, gv_zero, gv_succ, vi_int, vb_bool, vlen_sl, vaddr_ptr, vb_ite, vi_ite, cmp_eql, cmp_neq, cmp_lss, cmp_leq, cmp_gtr, cmp_geq, List.map_nil, List.map_cons, List.cons_append, List.nil_append, List.flatten_nil, needs, Ret, true_and, and_true, decide_eq_true_eq, forall_const, intOp, insC] at hc hc2
    have hu : usesM x = [x.a, x.b] := by unfold usesM; grind
    rw [hu]
    exact (own_new (h0 := h) (l := [x.a, x.b]) hb).ints
  · simp only [holds, X.den, PE.den, SV.den, SV.denL, NK.val, NK.sv, NK.pub, gv_zero, gv_succ, vi_int, vb_bool, vlen_sl, vaddr_ptr, vb_ite, vi_ite, cmp_eql, cmp_neq, cmp_lss, cmp_leq, cmp_gtr, cmp_geq, List.map_nil, List.map_cons, List.cons_append, List.nil_append, List.flatten_nil, needs, Ret, true_and, and_true, decide_eq_true_eq, forall_const, intOp, insC] at hc hc2 hc3
    have hu : usesM x = x.args := by unfold usesM; grind
    rw [hu]; exact hv
  · simp only [holds, X.den, PE.den, SV.den, SV.denL, NK.val, NK.sv, NK.pub, gv_zero, gv_succ, vi_int, vb_bool, vlen_sl, vaddr_ptr, vb_ite, vi_ite, cmp_eql, cmp_neq, cmp_lss, cmp_leq, cmp_gtr, cmp_geq, List.map_nil, List.map_cons, List.cons_append, List.nil_append, List.flatten_nil, needs, Ret, true_and, and_true, decide_eq_true_eq, forall_const, intOp, insC] at hc hc2 hc3
    have hu : usesM x = [] := by unfold usesM; grind
    rw [hu]; exact SlAt.nil
theorem s20 {h : H} {u v : Value} {l m : List Int} (hu : IntsAt h u l) (hv : IntsAt h v m) (hl : l.length ≤ 100000) : CallsA Try.prog 20 (fun _ => [u, v]) [] h (Ret fun r h' => h' = h ∧ r = .bool (decide (l = m))) := by
  refine c20 (G := [u, v]) ⟨hu.fit, hv.fit, trivial⟩ ?_
  have hul := hu.len
  have hvl := hv.len
  refine h_ite (fun hc => ⟨rfl, rfl, ?_⟩) (fun hc => ?_)
  · simp only [holds, X.den, PE.den, SV.den, SV.denL, NK.val, NK.sv, NK.pub, gv_zero, gv_succ, vi_int, vb_bool, vlen_sl, vaddr_ptr, vb_ite, vi_ite, cmp_eql, cmp_neq, cmp_lss, cmp_leq, cmp_gtr, cmp_geq, List.map_nil, List.map_cons, List.cons_append, List.nil_append, List.flatten_nil, needs, Ret, true_and, and_true, decide_eq_true_eq, forall_const, intOp, X.den] at hc ⊢
    rw [hul, hvl] at hc
    have : l ≠ m := fun e => by rw [e] at hc; omega
    simp [this]
  · simp only [holds, X.den, PE.den, SV.den, SV.denL, NK.val, NK.sv, NK.pub, gv_zero, gv_succ, vi_int, vb_bool, vlen_sl, vaddr_ptr, vb_ite, vi_ite, cmp_eql, cmp_neq, cmp_lss, cmp_leq, cmp_gtr, cmp_geq, List.map_nil, List.map_cons, List.cons_append, List.nil_append, List.flatten_nil, needs, Ret, true_and, and_true, decide_eq_true_eq, forall_const, intOp, X.den] at hc
    rw [hul, hvl] at hc
    have hlm : l.length = m.length := by simp at hc; omega
    refine h_range (n := l.length) (fun i h' => h' = h ∧ l.take i = m.take i) hul (by omega) rfl (by omega) ⟨rfl, rfl⟩ ?_ ?_
    · rintro i h' J hi ⟨rfl, hI⟩ hJ
      have hx : l[i]? = some l[i] := List.getElem?_eq_getElem hi
      have hy : m[i]? = some m[i] := List.getElem?_eq_getElem (by omega)
      have hxy : (l[i] = m[i]) ↔ l.take (i + 1) = m.take (i + 1) := by
        rw [List.take_add_one (l := l), List.take_add_one (l := m), hI, hx, hy]
        simp only [Option.toList_some]
        exact ⟨fun e => by rw [e], fun e => List.singleton_inj.1 (List.append_cancel_left e)⟩
      generalize l[i] = x at hx hxy
      generalize m[i] = y at hy hxy
      refine h_load [.int .i64 x] ⟨⟨_, rfl⟩, trivial⟩ (fun _ => hu.read hx) ⟨fun _ => ⟨?_, ?_, trivial⟩, h_load [.int .i64 y] ⟨⟨_, rfl⟩, trivial⟩ (fun _ => hv.read hy) (h_ite (fun hc => ⟨rfl, rfl, ?_⟩) (fun hc => ?_))⟩
      · show decide ((0 : Int) ≤ (i : Int)) = true
        simp
      · show decide ((i : Int) < (vlen v : Nat)) = true
        rw [hvl]; simp; omega
      · replace hc : cmpOp .neq x y = true := hc
        rw [cmp_neq, decide_eq_true_eq] at hc
        have : l ≠ m := fun e => hc (hxy.2 (by rw [e]))
        show Value.bool false = _
        simp [this]
      · replace hc : cmpOp .neq x y = false := hc
        rw [cmp_neq, decide_eq_false_iff_not, Decidable.not_not] at hc
        exact hJ _ ⟨rfl, hxy.1 hc⟩
    · rintro h' J ⟨rfl, hI⟩
      rw [List.take_of_length_le (Nat.le_refl _), List.take_of_length_le (by omega)] at hI
      refine ⟨rfl, rfl, ?_⟩
      show Value.bool true = _
      simp [hI]
theorem u_cond {G : List Value} {g : Bool} {d a : Int} (e2 : gv G 2 = .int .i64 d) (e8 : gv G 8 = .int .i64 a) (e16 : gv G 16 = .int .i64 (if g then d else 0)) (e17 : gv G 17 = .bool g) (e18 : gv G 18 = .int .i64 a) (e23 : gv G 23 = .bool g) :
    vb ((X.ite (.ite (.ite (.var 17) (.var 23) (.not (.var 23))) (.ite (.ite (.var 17) (.cmp .eql (.var 16) (.var 2)) (.tt false)) (.tt true) (.ite (.not (.var 17)) (.cmp .eql (.var 16) (.lit 0)) (.tt false))) (.tt false)) (.cmp .eql (.var 18) (.var 8)) (.tt false)).den G) = true := by
  simp only [X.den, e2, e8, e16, e17, e18, e23, vb_ite, vb_bool, vi_int, cmp_eql]
  cases g <;> simp
theorem u_done {G : List Value} {l : Bool} (e19 : gv G 19 = .bool l) (e24 : gv G 24 = .bool l) : (SV.bool (.ite (.var 19) (.var 24) (.not (.var 24)))).den G dE = .bool true := by
  simp only [SV.den, X.den, e19, e24, vb_ite, vb_bool]
  cases l <;> simp
theorem s4 {h : H} (x : Ins) (v : Value) (e : Fin4) (hv : IntsAt h v x.args) : CallsA Try.prog 4 (fun _ => [.agg (insC x v).toArray, .agg (endC e).toArray]) [] h (Ret fun r h' => h.le h' ∧ r = .bool true) := by
  refine c4 (G := insG x v (endC e)) (insGFit x v hv.fit (endFit e)) ?_
  have hvl := hv.len
  refine h_call0 s13 ?_
  rintro r h1 ⟨hl1, rfl⟩
  refine ⟨[.bool true], ⟨⟨_, rfl⟩, trivial⟩, rfl, h_ite (fun hc => by cases hc) (fun _ => h_ite (fun hc => ⟨rfl, hl1, rfl⟩) (fun hc => ?_))⟩
  replace hc : decide ((1000 : Int) < (vlen v : Nat)) = false := hc
  rw [hvl, decide_eq_false_iff_not] at hc
  have hv1 := hv.le hl1
  refine h_call0 (s19 x v hv1 (by omega)) ?_
  rintro u h2 ⟨hl2, hu⟩
  have hui := hu.ints
  have hul := usesM_len (x := x) (by omega)
  refine ⟨[u], ⟨hui.fit, trivial⟩, rfl, h_call0 (s21 x v (hv1.le hl2)) ?_⟩
  rintro w h3 ⟨hl3, hw⟩
  refine ⟨[w], ⟨hw.fit, trivial⟩, rfl, h_call0 (s20 (hui.le hl3) hw (by omega)) ?_⟩
  rintro _ _ ⟨rfl, rfl⟩
  have hu3 := Row.le hl3 hu
  refine ⟨[.bool true], ⟨⟨_, rfl⟩, trivial⟩, by simp [rval, rvals, gv], h_ite (fun hc => by cases hc) (fun _ => ?_)⟩
  refine h_range (n := (usesM x).length) (fun i h' => h1.le h' ∧ ∃ l, OwnInts h1 h' u l ∧ l.length = (usesM x).length) hui.len (by omega) rfl (by omega) ⟨hl2.trans hl3, _, hu3, rfl⟩ ?_ ?_
  · rintro i h' J hi ⟨k1, l, k2, k3⟩ hJ
    have hs := set_row (o := i * 1) (N := [.int .i64 (-7)]) k2 k1 (by simp; omega)
    have e1 : ((i : Int)).toNat * 1 = i * 1 := by rw [Int.toNat_natCast]
    refine ⟨(?_ : Writable h' ((vaddr u).add ((i : Int).toNat * 1)) 1), (?_ : J [Value.int .i64 (intOp .add .i64 (i : Int) 1)] (h'.sets ((vaddr u).add ((i : Int).toNat * 1)) [Value.int .i64 (-7)]))⟩
    · rw [e1]
      refine Row.writable k2 ?_
      have := k2.len
      obtain ⟨a, n, c, e1, e2, e3⟩ := k2.fit
      rw [e1] at this ⊢
      simp only [List.length_map, vlen_sl, vcap_sl] at this ⊢
      omega
    · rw [e1]
      refine hJ _ ⟨hs.2.1, l.take i ++ [-7] ++ l.drop (i + 1), ?_, ?_⟩
      · have := hs.1
        unfold OwnInts
        simpa [List.map_take, List.map_drop] using this
      · simp; omega
  · rintro h' J ⟨k1, -⟩
    have hl := hl1.trans k1
    have hv2 := hv.le hl
    refine h_call0 (s22 x v hv.fit) ?_
    rintro _ _ ⟨rfl, rfl⟩
    refine ⟨[.int .i64 (if givesM x.kind then x.d else 0), .bool (givesM x.kind)], ⟨⟨_, rfl⟩, ⟨_, rfl⟩, trivial⟩, rfl, h_call0 (s23 e) ?_⟩
    rintro _ _ ⟨rfl, rfl⟩
    refine ⟨[.int .i64 e.a, .bool (lastM e)], ⟨⟨_, rfl⟩, ⟨_, rfl⟩, trivial⟩, rfl, h_call0 (s19 x v hv2 (by omega)) ?_⟩
    rintro u2 h5 ⟨hl5, hu5⟩
    have hu5i := hu5.ints
    refine ⟨[u2], ⟨hu5i.fit, trivial⟩, rfl, h_call0 (s21 x v (hv2.le hl5)) ?_⟩
    rintro w2 h6 ⟨hl6, hw2⟩
    refine ⟨[w2], ⟨hw2.fit, trivial⟩, rfl, h_call0 (s20 (hu5i.le hl6) hw2 (by omega)) ?_⟩
    rintro _ _ ⟨rfl, rfl⟩
    refine ⟨[.bool true], ⟨⟨_, rfl⟩, trivial⟩, by simp [rval, rvals, gv], h_ite (fun _ => ?_) (fun hc => by cases hc)⟩
    refine h_call0 (s24 x.kind) ?_
    rintro _ _ ⟨rfl, rfl⟩
    refine ⟨[.bool (givesM x.kind)], ⟨⟨_, rfl⟩, trivial⟩, rfl, ?_⟩
    simp only [List.cons_append, List.nil_append, insG, endC]
    refine h_ite (fun _ => ?_) (fun hc => ?_)
    · refine h_call0 (s25 e) ?_
      rintro _ _ ⟨rfl, rfl⟩
      refine ⟨[.bool (lastM e)], ⟨⟨_, rfl⟩, trivial⟩, rfl, rfl, (hl.trans hl5).trans hl6, ?_⟩
      exact u_done (l := lastM e) rfl rfl
    · exact absurd ((u_cond (g := givesM x.kind) (d := x.d) (a := e.a) rfl rfl rfl rfl rfl rfl).symm.trans hc) Bool.true_eq_false.mp
namespace irUses
theorem own : ownKnob Try.prog.godebug = none := by kernel_rfl
theorem laidOut : laidOutB Try.prog = true := by kernel_rfl
theorem contract (H : Type) (enc : TypeId × Value → H) (W : World) (base : Nat) (args : Array Value) (ds gs : List (DataW H)) (before : List MemPlace)
    (hval : ∀ (j : Nat) t v, Try.f4.params[j]? = some t → args[j]? = some v → Value.okWide Try.prog W .any base t v)
    (hW : DataW.Whole enc Try.prog Try.f4.params.toList Rows.irUsesSpec.vars false W args.toList ds gs before) :
    Calls Try.prog 4 args W fun e W' => ∃ v, e = .returned v ∧ Rows.irUsesSpec.post enc Try.prog Try.f4 false true false false W args v W' := by
  have hW' := hW
  obtain ⟨p, q, hA, hV, rfl, hfz, hnd⟩ := hW
  rw [Try.params4] at hA hval
  obtain ⟨v0, vs0, d0, ds0, p0, q0, hargs, rfl, rfl, h0, r0⟩ := trodAll_cons hA
  obtain ⟨v1, vs1, d1, ds1, p1, q1, rfl, rfl, rfl, h1, r1⟩ := trodAll_cons r0
  obtain ⟨rfl, rfl, rfl⟩ := trodAll_nil r1
  obtain rfl : args = #[v0, v1] := by cases args; simp_all
  obtain ⟨cs0, rfl, -⟩ := okWide_struct Try.underlying46 (hval 0 46 v0 rfl rfl)
  obtain ⟨x, v, he0, hv⟩ := rd_ins (Rd.of h0)
  obtain rfl : cs0 = (insC x v).toArray := by rw [← he0]; simp [Value.cells]
  obtain ⟨cs1, rfl, -⟩ := okWide_struct Try.underlying39 (hval 1 39 v1 rfl rfl)
  obtain ⟨e, he1⟩ := rd_end (Rd.of h1)
  obtain rfl : cs1 = (endC e).toArray := by rw [← he1]; simp [Value.cells]
  refine (law_calls (f := 4) (args := [.agg (insC x v).toArray, .agg (endC e).toArray]) (s4 x v e hv)).mono ?_
  rintro e' W' ⟨rfl, bel⟩
  exact ⟨_, rfl, law_post laidOut hW' rfl (of_decide_eq_true (by kernel_rfl)) rfl Try.underlying4 rfl bel⟩
set_option maxRecDepth 100000 in
theorem lifted (os : Os) (started : os.Started) (H : Type) (enc : TypeId × Value → H) :
    ReturnsInHanded {} Try.checked os 4 .any (Rows.irUsesSpec.pre6 enc Try.prog Try.f4 Rows.irUsesRow.domain false) (Rows.irUsesSpec.post enc Try.prog Try.f4 false true false false) := by
  refine returnsInHanded_of_change (C := Try.checked) own started (by kernel_rfl) Try.func4
    (ChangeSpec.witness6 (enc := enc) (C := Try.checked) false ⟨#[], #[.agg #[.int .u8 0, .int .u8 0, .int .i64 0, .int .i64 0, .int .i64 0, .int .i64 0, .slice none 0 0], .agg #[.int .u8 0, .int .i64 0, .int .i64 0, .int .i64 0]], []⟩ 8 (by kernel_rfl) (by kernel_rfl) (by kernel_rfl) (by kernel_rfl)) ?_
  intro W base args ds gs before hval hW _ _
  exact contract H enc W base args ds gs before hval hW
theorem proved : Rows.IrUsesSaid :=
  OpenClaim.holds_of_wide 4 Try.f4 rfl rfl rfl rfl rfl rfl rfl ⟨rfl, rfl, rfl, rfl, rfl⟩ rfl rfl rfl rfl rfl (by kernel_rfl) Try.func4 (by kernel_rfl)
    (of_decide_eq_true (by kernel_rfl)) (by unfold Func.isWrapper; first | (rw [if_pos (by decide +kernel)]; kernel_rfl) | (rw [if_neg (by decide +kernel)]; exact ⟨rfl, rfl⟩))
    (fun os started H enc _ => lifted os started H enc)
end irUses
/-- The row, under a short name, for the claim. -/
theorem irUsesHolds : Rows.IrUsesSaid := irUses.proved
#print axioms irUsesHolds
end Go.Proofs.Ytibdneedfopcoaa
