/-
  The law RunCalls answers true. Conditions: none.
-/
import Derived.Test.YtodeffobplpcnaaPc
import Derived.Test.YtodeffobplpcnaaR2M
import Derived.Test.YtodeffobplpcnaaRows
set_option linter.unusedVariables false
set_option linter.unusedSimpArgs false
namespace Go.Proofs.Ytodeffobplpcnaa
open Go Go.ChangeShapes Go.WideShapes Go.ChangeAt Go.RowKit

def isCall (c : Int × List Int) (y : Ins) : Bool := decide (y.kind = 6) && decide (y.n = c.1) && decide (y.args.length = c.2.length)
def fnd (l : List Blk) (c : Int × List Int) : Bool := l.any fun b => b.ins.any (isCall c)
theorem fnd_of {bs : List Blk} {c : Int × List Int} (h : CallOf bs c) : fnd bs c = true := by
  obtain ⟨b, hb, y, hy, h6, hn, ha⟩ := h
  simp only [fnd, List.any_eq_true]
  exact ⟨b, hb, y, hy, by simp [isCall, h6, hn, ha]⟩
theorem end_val {G : List Value} {t : Rs} {cv : Value} {fuel : Int} (e16 : gv G 16 = .int .i64 t.how) (e17 : gv G 17 = .int .i64 t.value) (e18 : vlen (gv G 18) = t.calls.length) (e83 : gv G 83 = .int .i64 t.left) (e84 : gv G 84 = .int .i64 0) (e15 : gv G 15 = .int .i64 fuel)
    (hE : Ended t) (hl : 0 ≤ t.left) (hc : (t.calls.length : Int) + t.left ≤ fuel) (hf : fuel ≤ 1000000) :
    vb ((X.ite (.ite (.ite (.ite (.cmp .eql (.var 84) (.lit 0)) (.cmp .geq (.var 83) (.lit 0)) (.tt false)) (.cmp .leq (.len 18) (.op .sub .i64 (.var 15) (.var 83))) (.tt false)) (.ite (.cmp .eql (.var 16) (.lit 3)) (.ite (.ite (.cmp .eql (.var 83) (.lit 0)) (.cmp .neq (.var 16) (.lit 1)) (.tt false)) (.cmp .neq (.var 16) (.lit 2)) (.tt false)) (.not (.ite (.ite (.cmp .eql (.var 83) (.lit 0)) (.cmp .neq (.var 16) (.lit 1)) (.tt false)) (.cmp .neq (.var 16) (.lit 2)) (.tt false)))) (.tt false)) (.ite (.cmp .eql (.var 16) (.lit 1)) (.tt true) (.cmp .eql (.var 17) (.lit 0))) (.tt false)).den G) = true := by
  obtain ⟨k1, k2, k3⟩ := hE
  have hs : intOp .sub .i64 fuel t.left = fuel - t.left := by simp only [intOp]; rw [wrap_i64 (by omega) (by omega)]
  have hle : (t.calls.length : Int) ≤ fuel - t.left := by omega
  simp only [X.den, e16, e17, e18, e83, e84, e15, vi_int, vb_bool, vb_ite, cmp_eql, cmp_neq, cmp_geq, cmp_leq, hs, hl, hle, decide_true]
  rcases k1 with e | e | e
  · simp [e]
  · have hv : t.value = 0 := by rcases k3 with q | q; · omega
                                · exact q
    simp [e, hv]
  · have hv : t.value = 0 := by rcases k3 with q | q; · omega
                                · exact q
    have h0 := k2 e
    simp [e, hv, h0]
theorem s9 {h : H} {vs av mv nv : Value} {p0 p1 p2 fuel : Int} {l args mem ans : List Int} (hs : BytesAt h vs l) (h0 : 0 ≤ p0) (h1 : 0 ≤ p1) (h2 : 0 ≤ p2) (ha : IntsAt h av args) (hm : IntsAt h mv mem) (hn : IntsAt h nv ans) :
    CallsA Try.prog 9 (fun _ => [.agg #[.int .u8 p0, .int .u8 p1, .int .u8 p2, vs], .agg #[av, mv, nv, .int .i64 fuel]]) [] h (Ret fun r h' => h.le h' ∧ r = .bool true) := by
  refine c9 (G := [.int .u8 p0, .int .u8 p1, .int .u8 p2, vs, av, mv, nv, .int .i64 fuel]) ⟨⟨_, rfl⟩, ⟨_, rfl⟩, ⟨_, rfl⟩, hs.fit, ha.fit, hm.fit, hn.fit, ⟨_, rfl⟩, trivial⟩ ?_
  refine h_call0 s15 ?_
  rintro _ g1 ⟨hl1, rfl⟩
  refine ⟨[.bool true], ⟨⟨_, rfl⟩, trivial⟩, rfl, h_ite (fun hc => by cases hc) (fun _ => h_call0 (s16 (p0 := p0) (p1 := p1) (p2 := p2) (hs.le hl1) h0 h1 h2) ?_)⟩
  rintro _ g2 ⟨hk2, u, fp, rfl, hu, hf, hnd⟩
  have hl2 := hl1.trans hk2.le_nil
  have F := made_fun h0 h1 h2 hs.inB
  have hSm := madeB_small (p0 := p0) (p1 := p1) (p2 := p2) (l := l) h0 h1 h2 hs.inB
  refine ⟨[.int .i64 (madeP p0), .int .i64 (madeV p0 p1), u], ⟨⟨_, rfl⟩, ⟨_, rfl⟩, hu.at.fit, trivial⟩, rfl, ?_⟩
  obtain ⟨P, V, hP, hV, hPl, hVl, hPV, hck, hok, hb1, hb2⟩ := F
  rw [hP, hV]
  simp only [List.cons_append, List.nil_append]
  refine h_call0 (s17 (p := P) (fuel := fuel) (ha.le hl2) (hm.le hl2) (hn.le hl2) (by omega)) ?_
  rintro _ g3 ⟨u', m', n', rfl, hl3, iu, im, inn⟩
  have hl3' := hl2.trans hl3
  refine ⟨[u', m', n', .int .i64 (fuelM fuel)], ⟨iu.fit, im.fit, inn.fit, ⟨_, rfl⟩, trivial⟩, rfl, ?_⟩
  simp only [List.cons_append, List.nil_append]
  have hfr := fuelM_range fuel
  have hB3 := SlAt.le blkC_mono hl3 hu.at
  refine h_callO2 (Q := fun t e h' => g3.le h' ∧ CallsOk t ∧ RunSpec P V (madeB p0 p1 p2 l) (inArgs args P) (mem.take 100) (ans.take 100) (fuelM fuel) e t) ((s18 (p := P) (n := V) (fuel := fuelM fuel) hB3 iu im inn).post fun r h' q => q) ?_
  rintro t e cv g4 m1 c1 ⟨hl4, hco, hsp⟩
  obtain ⟨rfl, hrun⟩ := run_made hck hfr (inArgs_len args P) hsp
  have hB4 := SlAt.le blkC_mono hl4 hB3
  obtain ⟨B, hBd⟩ : ∃ B, B = madeB p0 p1 p2 l := ⟨_, rfl⟩
  rw [← hBd] at hok hb1 hb2 hSm hB4 hrun
  have hend := hrun.ended rfl
  have hcof := hrun.callsOf (fun c hc => by cases hc)
  have hgood := (hrun.calls (m := V) (F := fuelM fuel) hok (fun c hc => by cases hc) ⟨places0_len (by rw [inArgs_len]; omega), by simp only [start, List.length_nil]; omega⟩).2.lf
  obtain ⟨A, hA⟩ : ∃ A, A = [Value.int .u8 p0, .int .u8 p1, .int .u8 p2, vs, av, mv, nv, .int .i64 fuel, .bool true, .int .i64 (P : Int), .int .i64 (V : Int), u, u', m', n', .int .i64 (fuelM fuel)] := ⟨_, rfl⟩
  rw [← hA]
  have hAl : A.length = 16 := by rw [hA]; rfl
  obtain ⟨u0, u1, u2, u67⟩ := outC_gv (s := t) (cv := cv) m1
  have f16 := gO (A := A) (B := [.int .i64 0]) (cv := cv) (i := 0) hAl m1 (by omega)
  have f17 := gO (A := A) (B := [.int .i64 0]) (cv := cv) (i := 1) hAl m1 (by omega)
  have f18 := gO (A := A) (B := [.int .i64 0]) (cv := cv) (i := 2) hAl m1 (by omega)
  have f83 := gO (A := A) (B := [.int .i64 0]) (cv := cv) (i := 67) hAl m1 (by omega)
  have f84 := gOe (A := A) (B := [.int .i64 0]) (cv := cv) (j := 0) hAl m1
  have f15 : gv (A ++ (outC t cv ++ [.int .i64 0])) 15 = .int .i64 (fuelM fuel) := by rw [gv_of_lt (by omega), hA]; rfl
  have f11 : gv (A ++ (outC t cv ++ [.int .i64 0])) 11 = u := by rw [gv_of_lt (by omega), hA]; rfl
  have hGl : (A ++ (outC t cv ++ [Value.int .i64 0])).length = 85 := by simp [hAl, outC_len m1]
  rw [u0] at f16
  rw [u1] at f17
  rw [u2] at f18
  rw [u67] at f83
  generalize A ++ (outC t cv ++ [Value.int .i64 0]) = G at f16 f17 f18 f83 f84 f15 f11 hGl ⊢
  clear hA hAl
  have hcl := c1.len
  have hbl := hB4.len
  refine h_range (n := t.calls.length) (fun i h' => h' = g4) (by rw [f18]; exact hcl) (by omega) hGl (by have := hco.1; omega) rfl ?_ ?_
  · rintro i h' J hi rfl hJ
    have hx : t.calls[i]? = some t.calls[i] := List.getElem?_eq_getElem hi
    have hxm : t.calls[i] ∈ t.calls := List.getElem_mem _
    generalize t.calls[i] = c at hx hxm
    have hcB := fnd_of (hcof c hxm)
    obtain ⟨_, ⟨q, rfl, hq⟩, hr⟩ := c1.get i c hx
    have hql := hq.len
    refine h_load [.int .i64 c.1, q] ⟨⟨_, rfl⟩, hq.fit, trivial⟩ (fun _ => ?_) ?_
    · simp only [PE.den, X.den]
      rw [gv_of_lt (by omega), f18, gv_at (j := 0) (by omega)]; exact hr
    have e1 : G ++ [Value.int .i64 (i : Int)] ++ [.int .i64 c.1, q] = G ++ [.int .i64 (i : Int), .int .i64 c.1, q] := by simp
    rw [e1]
    refine h_loop (fun xs h'' => ∃ bi : Nat, xs = [.bool (fnd (B.take bi) c), .int .i64 (bi : Int)] ∧ bi ≤ B.length ∧ h'' = h') (fun xs h'' => B.length - (vi (gv xs 1)).toNat) ⟨0, rfl, Nat.zero_le _, rfl⟩ ?_
    rintro xs h'' J2 - ⟨bi, rfl, hbi, rfl⟩ hJ2
    have e2 : G ++ [Value.int .i64 (i : Int), .int .i64 c.1, q] ++ [.bool (fnd (B.take bi) c), .int .i64 (bi : Int)] = G ++ [.int .i64 (i : Int), .int .i64 c.1, q, .bool (fnd (B.take bi) c), .int .i64 (bi : Int)] := by simp
    rw [e2]
    have g5 : ∀ (D : List Value) m, gv (G ++ D) (85 + m) = gv D m := fun D m => gv_at (by omega)
    have h11 : ∀ D : List Value, gv (G ++ D) 11 = u := fun D => by rw [gv_of_lt (by omega), f11]
    have e89 := g5 [.int .i64 (i : Int), .int .i64 c.1, q, .bool (fnd (B.take bi) c), .int .i64 (bi : Int)] 4
    have e88 := g5 [.int .i64 (i : Int), .int .i64 c.1, q, .bool (fnd (B.take bi) c), .int .i64 (bi : Int)] 3
    refine h_ite (fun hc => ?_) (fun hc => ?_)
    · simp only [X.den] at hc
      rw [e89, h11] at hc
      replace hc : cmpOp .lss (bi : Int) ((vlen u : Nat) : Int) = true := hc
      have n1 := hc
      rw [hbl, cmp_lss, decide_eq_true_eq] at hc
      have hbl' : bi < B.length := by omega
      have hy : B[bi]? = some B[bi] := List.getElem?_eq_getElem hbl'
      have hym : B[bi] ∈ B := List.getElem_mem _
      generalize hbe : B[bi] = x at hy hym
      have hxs := hSm.2 x hym
      obtain ⟨_, ⟨w, rfl, hw⟩, hr2⟩ := hB4.get bi x hy
      refine ⟨fun _ => ?_, h_load (w :: endC x.en) ⟨hw.fit, endFit x.en⟩ (fun _ => ?_) ?_⟩
      · exact needI (x := (bi : Int)) (n := B.length) e89 (by rw [h11]; exact hbl) ⟨by omega, by omega⟩
      · simp only [PE.den, X.den]; rw [h11, e89]; exact hr2
      have e3 : G ++ [Value.int .i64 (i : Int), .int .i64 c.1, q, .bool (fnd (B.take bi) c), .int .i64 (bi : Int)] ++ (w :: endC x.en) = G ++ (.int .i64 (i : Int) :: .int .i64 c.1 :: q :: .bool (fnd (B.take bi) c) :: .int .i64 (bi : Int) :: w :: endC x.en) := by simp
      rw [e3]
      refine h_loop (fun xs h3 => ∃ k : Nat, xs = [.bool (fnd (B.take bi) c || (x.ins.take k).any (isCall c)), .int .i64 (k : Int)] ∧ k ≤ x.ins.length ∧ h3 = h'') (fun xs h3 => x.ins.length - (vi (gv xs 1)).toNat) ⟨0, ?_, Nat.zero_le _, rfl⟩ ?_
      · simp only [SV.denL, SV.den, X.den]
        rw [g5 _ 3]; simp
      rintro xs h3 J3 - ⟨k, rfl, hk, rfl⟩ hJ3
      have e4 : G ++ (Value.int .i64 (i : Int) :: .int .i64 c.1 :: q :: .bool (fnd (B.take bi) c) :: .int .i64 (bi : Int) :: w :: endC x.en) ++ [.bool (fnd (B.take bi) c || (x.ins.take k).any (isCall c)), .int .i64 (k : Int)] = G ++ [.int .i64 (i : Int), .int .i64 c.1, q, .bool (fnd (B.take bi) c), .int .i64 (bi : Int), w, .int .u8 x.en.kind, .int .i64 x.en.a, .int .i64 x.en.to, .int .i64 x.en.el, .bool (fnd (B.take bi) c || (x.ins.take k).any (isCall c)), .int .i64 (k : Int)] := by simp [endC]
      rw [e4]
      generalize hD : [Value.int .i64 (i : Int), .int .i64 c.1, q, .bool (fnd (B.take bi) c), .int .i64 (bi : Int), w, .int .u8 x.en.kind, .int .i64 x.en.a, .int .i64 x.en.to, .int .i64 x.en.el, .bool (fnd (B.take bi) c || (x.ins.take k).any (isCall c)), .int .i64 (k : Int)] = D
      have hDl : D.length = 12 := by rw [← hD]; rfl
      have d1 : gv D 1 = .int .i64 c.1 := by rw [← hD]; rfl
      have d2 : gv D 2 = q := by rw [← hD]; rfl
      have d4 : gv D 4 = .int .i64 (bi : Int) := by rw [← hD]; rfl
      have d5 : gv D 5 = w := by rw [← hD]; rfl
      have d10 : gv D 10 = .bool (fnd (B.take bi) c || (x.ins.take k).any (isCall c)) := by rw [← hD]; rfl
      have d11 : gv D 11 = .int .i64 (k : Int) := by rw [← hD]; rfl
      have gD : ∀ (E : List Value) m, m < 12 → gv (G ++ D ++ E) (85 + m) = gv D m := fun E m hm => by rw [List.append_assoc, g5, gv_of_lt (by omega)]
      have gD0 : ∀ m, gv (G ++ D) (85 + m) = gv D m := fun m => g5 D m
      refine h_ite (fun hc => ?_) (fun hc => ?_)
      · simp only [X.den] at hc
        rw [gD0 11, gD0 5, d11, d5] at hc
        replace hc : cmpOp .lss (k : Int) ((vlen w : Nat) : Int) = true := hc
        rw [hw.len, cmp_lss, decide_eq_true_eq] at hc
        have hkl : k < x.ins.length := by omega
        have hz : x.ins[k]? = some x.ins[k] := List.getElem?_eq_getElem hkl
        generalize hze : x.ins[k] = y at hz
        obtain ⟨_, ⟨a, rfl, hav⟩, hr3⟩ := hw.get k y hz
        have hal := hav.len
        refine ⟨fun _ => needI (x := (k : Int)) (n := x.ins.length) (by rw [gD0 11, d11]) (by rw [gD0 5, d5]; exact hw.len) ⟨by omega, by omega⟩, h_load (insC y a) (insFit y a hav.fit) (fun _ => ?_) ?_⟩
        · simp only [PE.den, X.den]; rw [gD0 11, gD0 5, d11, d5]; exact hr3
        have g97 : ∀ m, gv (G ++ D ++ insC y a) (97 + m) = gv (insC y a) m := fun m => gv_at (by rw [List.length_append]; omega)
        refine again_of (xs := [.bool (fnd (B.take bi) c || (x.ins.take (k + 1)).any (isCall c)), .int .i64 ((k + 1 : Nat) : Int)]) (J := J3) ?_ rfl (hJ3 _ _ ⟨k + 1, rfl, by omega, rfl⟩ ?_)
        · simp only [SV.denL, SV.den, X.den]
          have w95 : gv (G ++ D ++ insC y a) 95 = .bool (fnd (B.take bi) c || (x.ins.take k).any (isCall c)) := (gD _ 10 (by omega)).trans d10
          have w96 : gv (G ++ D ++ insC y a) 96 = .int .i64 (k : Int) := (gD _ 11 (by omega)).trans d11
          have w86 : gv (G ++ D ++ insC y a) 86 = .int .i64 c.1 := (gD _ 1 (by omega)).trans d1
          have w87 : gv (G ++ D ++ insC y a) 87 = q := (gD _ 2 (by omega)).trans d2
          have w97 : gv (G ++ D ++ insC y a) 97 = gv (insC y a) 0 := g97 0
          have w102 : gv (G ++ D ++ insC y a) 102 = gv (insC y a) 5 := g97 5
          have w103 : gv (G ++ D ++ insC y a) 103 = gv (insC y a) 6 := g97 6
          simp only [w95, w96, w86, w87, w97, w102, w103]
          have e5 : intOp .add .i64 (k : Int) 1 = ((k + 1 : Nat) : Int) := int_add_one (n := x.ins.length) hkl (by omega)
          have e6 : (x.ins.take (k + 1)).any (isCall c) = ((x.ins.take k).any (isCall c) || isCall c y) := by rw [List.take_succ_eq_append_getElem hkl, hze, List.any_append]; simp
          rw [e6]
          show [Value.bool (vb (if (fnd (B.take bi) c || (x.ins.take k).any (isCall c)) = true then Value.bool true else (if vb (if cmpOp .eql y.kind 6 = true then Value.bool (cmpOp .eql y.n c.1) else Value.bool false) = true then Value.bool (cmpOp .eql (vlen a : Nat) (vlen q : Nat)) else Value.bool false))), Value.int .i64 (intOp .add .i64 (k : Int) 1)] = _
          rw [e5, hal, hql, cmp_eql, cmp_eql, cmp_eql]
          simp only [isCall, vb_ite, vb_bool]
          have e7 : decide ((y.args.length : Int) = (c.2.length : Int)) = decide (y.args.length = c.2.length) := by simp only [Int.natCast_inj]
          rw [e7]
          cases (fnd (B.take bi) c) <;> cases ((x.ins.take k).any (isCall c)) <;> cases decide (y.kind = 6) <;> cases decide (y.n = c.1) <;> cases decide (y.args.length = c.2.length) <;> rfl
        · simp only [gv_zero, gv_succ, vi_int]; omega
      · simp only [X.den] at hc
        rw [gD0 11, gD0 5, d11, d5] at hc
        replace hc : cmpOp .lss (k : Int) ((vlen w : Nat) : Int) = false := hc
        rw [hw.len, cmp_lss, decide_eq_false_iff_not] at hc
        have hke : k = x.ins.length := by omega
        refine again_of (xs := [.bool (fnd (B.take (bi + 1)) c), .int .i64 ((bi + 1 : Nat) : Int)]) (J := J2) ?_ rfl (hJ2 _ _ ⟨bi + 1, rfl, by omega, rfl⟩ ?_)
        · simp only [SV.denL, SV.den, X.den]
          rw [gD0 10, gD0 4, d10, d4]
          have e5 : intOp .add .i64 (bi : Int) 1 = ((bi + 1 : Nat) : Int) := int_add_one (n := B.length) hbl' (by omega)
          rw [hke, List.take_length]
          show [Value.bool _, Value.int .i64 (intOp .add .i64 (bi : Int) 1)] = _
          rw [e5]
          have : fnd (B.take (bi + 1)) c = (fnd (B.take bi) c || x.ins.any (isCall c)) := by unfold fnd; rw [List.take_succ_eq_append_getElem hbl', hbe, List.any_append]; simp
          rw [this]; rfl
        · simp only [gv_zero, gv_succ, vi_int]; omega
    · simp only [X.den] at hc
      rw [e89, h11] at hc
      replace hc : cmpOp .lss (bi : Int) ((vlen u : Nat) : Int) = false := hc
      rw [hbl, cmp_lss, decide_eq_false_iff_not] at hc
      have hbe : bi = B.length := by omega
      refine iteF ?_ ?_
      · simp only [X.den]
        rw [e88, hbe, List.take_length]
        show vb (Value.bool (!vb (Value.bool (fnd B c)))) = false
        rw [hcB]; rfl
      · show J _ _
        have e85 := g5 [.int .i64 (i : Int), .int .i64 c.1, q, .bool (fnd (B.take bi) c), .int .i64 (bi : Int)] 0
        simp only [SV.denL, SV.den, X.den]
        rw [e85]
        exact hJ _ rfl
  · rintro h' J rfl
    refine ⟨rfl, hl3'.trans hl4, ?_⟩
    refine congrArg Value.bool ?_
    exact end_val (t := t) (cv := cv) (fuel := fuelM fuel) (by rw [gv_of_lt (by omega)]; exact f16) (by rw [gv_of_lt (by omega)]; exact f17) (by rw [gv_of_lt (by omega), f18]; exact hcl) (by rw [gv_of_lt (by omega)]; exact f83) (by rw [gv_of_lt (by omega)]; exact f84) (by rw [gv_of_lt (by omega)]; exact f15) hend hgood.1 hgood.2 (by omega)
namespace runCalls
theorem own : ownKnob Try.prog.godebug = none := by kernel_rfl
set_option maxRecDepth 100000 in
theorem laidOut : laidOutB Try.prog = true := by kernel_rfl
set_option maxRecDepth 100000 in
theorem contract (H : Type) (enc : TypeId × Value → H) (W : World) (base : Nat) (args : Array Value) (ds gs : List (DataW H)) (before : List MemPlace)
    (hval : ∀ (j : Nat) t v, Try.f9.params[j]? = some t → args[j]? = some v → Value.okWide Try.prog W .any base t v)
    (hW : DataW.Whole enc Try.prog Try.f9.params.toList Rows.runCallsSpec.vars false W args.toList ds gs before) :
    Calls Try.prog 9 args W fun e W' => ∃ v, e = .returned v ∧ Rows.runCallsSpec.post enc Try.prog Try.f9 false true false false W args v W' := by
  have hW' := hW
  obtain ⟨p, q, hA, hV, rfl, hfz, hnd⟩ := hW
  rw [Try.params9] at hA hval
  obtain ⟨v0, vs0, d0, ds0, p0, q0, hargs, rfl, rfl, h0, r0⟩ := trodAll_cons hA
  obtain ⟨v1, vs1, d1, ds1, p1, q1, rfl, rfl, rfl, h1, r1⟩ := trodAll_cons r0
  obtain ⟨rfl, rfl, rfl⟩ := trodAll_nil r1
  obtain rfl : args = #[v0, v1] := by cases args; simp_all
  obtain ⟨cs0, rfl, -⟩ := okWide_struct Try.underlying24 (hval 0 24 v0 rfl rfl)
  obtain ⟨p0, p1, p2, vs, l, he0, g0, g1, g2, hs⟩ := rd_spec (Rd.of h0)
  obtain rfl : cs0 = ([Value.int .u8 p0, .int .u8 p1, .int .u8 p2, vs]).toArray := by rw [← he0]; simp [Value.cells]
  obtain ⟨cs1, rfl, -⟩ := okWide_struct Try.underlying27 (hval 1 27 v1 rfl rfl)
  obtain ⟨av, mv, nv, fuel, args, mem, ans, he1, ha, hm, hn⟩ := rd_input (Rd.of h1)
  obtain rfl : cs1 = ([av, mv, nv, Value.int .i64 fuel]).toArray := by rw [← he1]; simp [Value.cells]
  refine (law_calls (f := 9) (args := [.agg ([Value.int .u8 p0, .int .u8 p1, .int .u8 p2, vs]).toArray, .agg ([av, mv, nv, Value.int .i64 fuel]).toArray]) (s9 hs g0 g1 g2 ha hm hn)).mono ?_
  rintro e' W' ⟨rfl, bel⟩
  exact ⟨_, rfl, law_post laidOut hW' rfl (of_decide_eq_true (by kernel_rfl)) rfl Try.underlying4 rfl bel⟩
set_option maxRecDepth 100000 in
theorem lifted (os : Os) (started : os.Started) (H : Type) (enc : TypeId × Value → H) :
    ReturnsInHanded {} Try.checked os 9 .any (Rows.runCallsSpec.pre6 enc Try.prog Try.f9 Rows.runCallsRow.domain false) (Rows.runCallsSpec.post enc Try.prog Try.f9 false true false false) := by
  refine returnsInHanded_of_change (C := Try.checked) own started (by kernel_rfl) Try.func9
    (ChangeSpec.witness6 (enc := enc) (C := Try.checked) false ⟨#[], #[.agg #[.int .u8 0, .int .u8 0, .int .u8 0, .slice none 0 0], .agg #[.slice none 0 0, .slice none 0 0, .slice none 0 0, .int .i64 0]], []⟩ 8 (by kernel_rfl) (by kernel_rfl) (by kernel_rfl) (by kernel_rfl)) ?_
  intro W base args ds gs before hval hW _ _
  exact contract H enc W base args ds gs before hval hW
set_option maxRecDepth 100000 in
theorem proved : Rows.RunCallsSaid :=
  OpenClaim.holds_of_wide 9 Try.f9 rfl rfl rfl rfl rfl rfl rfl ⟨rfl, rfl, rfl, rfl, rfl⟩ rfl rfl rfl rfl rfl (by kernel_rfl) Try.func9 (by kernel_rfl)
    (of_decide_eq_true (by kernel_rfl)) (by unfold Func.isWrapper; first | (rw [if_pos (by decide +kernel)]; kernel_rfl) | (rw [if_neg (by decide +kernel)]; exact ⟨rfl, rfl⟩))
    (fun os started H enc _ => lifted os started H enc)
end runCalls
/-- The row, under a short name, for the claim. -/
theorem runCallsHolds : Rows.RunCallsSaid := runCalls.proved
#print axioms runCallsHolds
end Go.Proofs.Ytodeffobplpcnaa
